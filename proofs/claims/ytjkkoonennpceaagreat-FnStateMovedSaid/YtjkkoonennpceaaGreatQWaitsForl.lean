/- FnWaitsFor: texts that its proof stands on, part 12. -/
import Derived.Test.YtjkkoonennpceaaGreatQWaitsFork
namespace Go.Proofs.YtjkkoonennpceaaGreat
open Go Go.Sx Go.RowKit
def EntW (v : Value) (L : List Fct) : Prop := ∃ (m : Once) (y : Sl) (u : Int) (b : Bool), v = .tuple #[onceV m y, .int .i64 u, .bool b] ∧ (b = true → OnceOk m) ∧ L = [own y 3 cInt 1 m.waits]
def FinW (v : Value) (L : List Fct) : Prop := ∃ (m : Once) (y z : Sl) (xs : List Int) (b : Bool), v = .tuple #[onceV m y, z.val xs.length, .bool b] ∧ (b = true → OnceOk m) ∧ L = [own y 3 cInt 1 m.waits, own z 3 cInt 1 xs]
set_option maxHeartbeats 4000000 in
set_option maxRecDepth 100000 in
theorem enterW_c (m : Once) (q : Sl) (t : Int) (w : World) (h : At w [slo q cInt 1 m.waits]) (ok : OnceOk m) (ht : isThread t = true) :
   Calls Tryz.prog 150 #[onceV m q, .int .i64 t] w (Ret w EntW) := by
 have hb := onceOk_len ok
 refine calls2 Tryz.func150 rfl tabOk w _ rfl _ rfl _ h ⟨rfl, rfl, trivial⟩ _ _ (by decide) ?_
 refine stop_call _ cl114 rfl rfl rfl rfl ⟨rfl, rfl⟩ (fun A w hW => onceValidS_c m q w ⟨z27, trivial⟩ (by omega)) ?_
 rintro v L ⟨b, rfl, hbb, rfl⟩
 obtain rfl : b = true := hbb.2 ok
 refine CaseB.mk (fun g => by simp at g) (fun _ => ?_)
 refine stop_call _ cl157 rfl rfl rfl rfl ⟨rfl, rfl⟩ (fun A w hW => l1Thread_c _ w) ?_
 rintro v L ⟨rfl, rfl⟩
 refine CaseB.mk (fun g => by rw [ht] at g; simp at g) (fun _ => ?_)
 refine stop_call _ cl144 rfl rfl rfl rfl ⟨rfl, rfl⟩ (fun A w hW => l2Once_c m q w ⟨z27, trivial⟩ (by omega)) ?_
 rintro v L ⟨y, rfl, rfl⟩
 apply CaseB.mk <;> intro g
 · exact retw [99] ⟨⟨1, t, 0, []⟩, nil4, 0, true, rfl, fun _ => (onceOk1 rfl).2 ⟨ht, rfl, show distinct [] = true by decide, by simp⟩, rfl⟩ z102 rfl ⟨rfl, trivial⟩ (fun _ => rfl)
 have e0 : ¬ m.state = 0 := by simpa using g
 apply CaseB.mk <;> intro g
 · exact retw [0] ⟨m, y, 2, true, rfl, fun _ => ok, rfl⟩ z115 rfl ⟨rfl, trivial⟩ (fun _ => rfl)
 have e2 : ¬ m.state = 2 := by simpa using g
 have e1 : m.state = 1 := by
   rcases ok with h | h | h
   · exact (e0 h.1).elim
   · exact h.1
   · exact (e2 h.1).elim
 have o1 := (onceOk1 e1).1 ok
 apply CaseB.mk <;> intro g
 · exact retw [99] ⟨⟨0, 0, 0, []⟩, nil4, 0, false, rfl, fun h => z87, rfl⟩ z102 rfl ⟨rfl, trivial⟩ (fun _ => rfl)
 have hno : ¬ t = m.owner := by simpa using g
 refine stop_call _ cl94 rfl rfl rfl rfl ⟨rfl, rfl⟩ (fun A w hW => l2At_c q m.waits t w ⟨z27, trivial⟩ (by omega)) ?_
 rintro v L ⟨rfl, rfl⟩
 apply CaseB.mk <;> intro g
 · exact retw [99] ⟨⟨0, 0, 0, []⟩, nil4, 0, false, rfl, fun h => z87, rfl⟩ z102 rfl ⟨rfl, trivial⟩ (fun _ => rfl)
 have hn : t ∉ m.waits := fun hm => by have := (atM_mem _ _).2 hm; have g' := of_decide_eq_false g; omega
 refine AllSl.mk fun z => ?_
 refine stop_appK encInt tabOk (ys := [t]) rfl rfl rfl rfl rfl rfl rfl rfl rfl (by decide) ⟨rfl, rfl⟩ z32 z28 z34 z34 (fun y2 => ?_)
 exact retw [0] ⟨{ m with waits := m.waits ++ [t] }, y2, 1, true, rfl, fun _ => (onceOk1 (m := { m with waits := m.waits ++ [t] }) e1).2 ⟨o1.1, o1.2.1, distinct_snoc o1.2.2.1 ht hn, fun hm => (List.mem_append.1 hm).elim o1.2.2.2 (fun hm => hno (List.mem_singleton.1 hm).symm)⟩, rfl⟩ z115 rfl ⟨rfl, trivial⟩ (fun _ => rfl)
set_option maxHeartbeats 4000000 in
set_option maxRecDepth 100000 in
theorem finishW_c (m : Once) (q : Sl) (t u : Int) (w : World) (h : At w [slo q cInt 1 m.waits]) (ok : OnceOk m) (hv : isValue u = true) :
   Calls Tryz.prog 151 #[onceV m q, .int .i64 t, .int .i64 u] w (Ret w FinW) := by
 have hb := onceOk_len ok
 refine calls3 Tryz.func151 rfl tabOk w _ rfl _ rfl _ h ⟨rfl, rfl, trivial⟩ _ _ _ (by decide) ?_
 refine stop_call _ cl120 rfl rfl rfl rfl ⟨rfl, rfl⟩ (fun A w hW => runs_c m q t w ⟨z27, trivial⟩ (by omega)) ?_
 rintro v L ⟨b, rfl, hbb, rfl⟩
 apply CaseB.mk <;> intro g
 · refine AllSl.mk fun z => ?_
   exact retw [99, 0] ⟨⟨0, 0, 0, []⟩, nil4, z, [], false, rfl, fun h => z87, rfl⟩ z99 rfl ⟨rfl, rfl, trivial⟩ (fun _ => rfl)
 obtain ⟨_, h1, ho⟩ := hbb.1 z82
 have o1 := (onceOk1 h1).1 ok
 refine stop_call _ cl67 rfl rfl rfl rfl ⟨rfl, rfl⟩ (fun A w hW => l2Value_c _ w) ?_
 rintro v L ⟨rfl, rfl⟩
 refine CaseB.mk (fun g => by simp [hv] at g) (fun _ => ?_)
 refine AllSl.mk fun z => ?_
 refine stop_appK encInt tabOk (xs := []) rfl rfl rfl rfl rfl rfl rfl rfl rfl (by decide) ⟨rfl, rfl⟩ z32 z28 z34 z34 (fun y => ?_)
 exact retw [99, 0] ⟨⟨2, t, u, []⟩, nil4, y, m.waits, true, rfl, fun _ => (onceOk2 rfl).2 ⟨by rw [← ho]; exact o1.1, hv, rfl⟩, rfl⟩ z99 rfl ⟨rfl, rfl, trivial⟩ (fun _ => rfl)
set_option maxHeartbeats 16000000 in
set_option maxRecDepth 100000 in
theorem drawOnce_c (g : Nat) (bi : Sl) (rb : List UInt8) (p : Nat) (w : World) (hg : Blk w g 139 (rdrV bi rb p)) (h : AtP w g [slo bi cByte 1 rb]) (hb : rb.length ≤ 2000) (hp : p < 1000000) :
   Calls Tryz.prog 99 #[.pointer (some ⟨g, 0, none⟩)] w (RetP w g 139 2 fun v cs L => ∃ (m : Once) (q : Sl) (p2 : Nat), v = onceV m q ∧ OnceOk m ∧ cs = rdrV bi rb p2 ∧ p2 ≤ p + 10 ∧ L = [own q 3 cInt 1 m.waits]) := by
 refine callsP1 Tryz.func99 rfl tabOk w _ rfl _ rfl _ 139 _ 2 rfl hg _ h ⟨rfl, rfl, trivial⟩ (by decide) ?_
 refine AllSl.mk fun l1 => ?_
 refine stop_callP _ cl71 rfl rfl rfl rfl ⟨rfl, rfl⟩ rfl rfl (fun A w ga hga hW hblk => (num_c ga bi rb _ _ [2, 1, 3, 4, 0] w hblk ⟨z26, z26, trivial⟩ hb (by omega) (by decide))) ?_
 rintro v cs L ⟨x0, rfl, hx0, rfl, rfl⟩
 have hx4 : 0 ≤ x0 ∧ x0 ≤ 4 := by simp at hx0; omega
 clear hx0
 refine LoopW.mk ⟨{ u : Int × Once × Sl × Nat // (0 ≤ u.1 ∧ u.1 ≤ 4) ∧ u.2.2.2 + u.1 ≤ (p : Int) + 5 ∧ OnceOk u.2.1 },
   fun u => .mk [(0, .p 0 0), (2, .p 1 0), (3, .p 2 0), (4, .v (.int .i64 u.1.1))] 3 0 [(2, 70, 4), (1, 70, 4), (0, 139, 2)] [((0, 0), .v (bi.val rb.length)), ((0, 1), .v (.int .i64 (u.1.2.2.2 : Int))), ((2, 0), .v (.int .i64 u.1.2.1.state)), ((2, 1), .v (.int .i64 u.1.2.1.owner)), ((2, 2), .v (.int .i64 u.1.2.1.value)), ((2, 3), .v (u.1.2.2.1.val u.1.2.1.waits.length))] [own u.1.2.2.1 3 cInt 1 u.1.2.1.waits, slo bi cByte 1 rb],
   fun u => u.1.1.toNat, ⟨(x0, ⟨0, 0, 0, []⟩, nil4, p + 1), hx4, by simp only; omega, (onceOk0 rfl).2 ⟨rfl, rfl, rfl⟩⟩, ?_, ?_⟩
 · exact weak_mk [99, 1] zw2 zw0 zw2 zw5 zw4 rfl rfl
 rintro ⟨⟨i, m, q, p1⟩, i1, i2, i3⟩
 simp only at i1 i2 i3 ⊢
 refine CaseB.mk (fun gi => ?_) (fun gi => ?_)
 · have hi : 0 < i := by have := of_decide_eq_true gi; omega
   have hwi : IntKind.i64.wrap (i - 1) = i - 1 := by rw [wrap_nn] <;> omega
   refine draw_cut { u : Once × Sl × Int × Bool // u.2.2.2 = true → OnceOk u.1 } (fun u => .mk [(0, .p 0 0), (2, .p 1 0), (3, .p 2 0), (4, .v (.int .i64 i)), (5, .p 3 0), (7, .v (.bool u.1.2.2.2))] 4 0 [(3, 70, 4), (2, 70, 4), (1, 70, 4), (0, 139, 2)] [((0, 0), .v (bi.val rb.length)), ((0, 1), .v (.int .i64 ((p1 + 1 : Nat) : Int))), ((2, 0), .v (.int .i64 m.state)), ((2, 1), .v (.int .i64 m.owner)), ((2, 2), .v (.int .i64 m.value)), ((2, 3), .v (q.val m.waits.length)), ((3, 0), .v (.int .i64 u.1.1.state)), ((3, 1), .v (.int .i64 u.1.1.owner)), ((3, 2), .v (.int .i64 u.1.1.value)), ((3, 3), .v (u.1.2.1.val u.1.1.waits.length))] [own u.1.2.1 3 cInt 1 u.1.1.waits, own q 3 cInt 1 m.waits, slo bi cByte 1 rb]) ?_ ?_
   · refine draw_start tabOk z86 z86 z86 200 [((2, 0), .v (.int .i64 m.state)), ((2, 1), .v (.int .i64 m.owner)), ((2, 2), .v (.int .i64 m.value)), ((2, 3), .v (q.val m.waits.length))] [] [] z95 z106 trivial rfl ?_
     refine BothW.mk ?_ ?_
     all_goals
       refine d_callP _ cl41 rfl rfl rfl rfl ⟨rfl, rfl⟩ rfl rfl rfl (fun A w ga hga hW hblk => (pick_c ga bi rb _ _ w hblk ⟨z26, trivial⟩ hb (by omega))) ?_
       rintro v cs L ⟨t, rfl, ht, _, rfl, rfl⟩
       have ht6 := ht (by decide)
       first
       | refine BothW.mk ?_ ?_
       | skip
       all_goals
         refine d_call _ cl150 rfl rfl rfl rfl ⟨rfl, rfl⟩ (fun A w hW => enterW_c m q t w ⟨hW.get 0 rfl (.own), trivial⟩ i3 (by simp [isThread]; omega)) ?_
         rintro v L ⟨m2, q2, u2, b2, rfl, hm2, rfl⟩
         refine ⟨⟨(m2, q2, u2, b2), hm2⟩, ?_⟩
         exact weak_mk [0, 1, 2] zw2 zw0 zw2 zw5 zw4 rfl rfl
   rintro ⟨⟨m2, q2, u2, b2⟩, hm2⟩
   simp only at hm2 ⊢
   refine CaseB.mk (fun g2 => ?_) (fun g2 => ?_)
   · refine ⟨⟨(i - 1, m2, q2, p1 + 1), by simp only; omega, by simp only; omega, hm2 z79⟩, ?_, by simp only; omega⟩
     exact weak_mk [0, 2] zw9 zw0 zw9 zw5 zw21 rfl rfl
   · refine ⟨⟨(i - 1, m, q, p1 + 1), by simp only; omega, by simp only; omega, i3⟩, ?_, by simp only; omega⟩
     exact weak_mk [1, 2] zw9 zw0 zw9 zw5 zw21 rfl rfl
 have hi : i = 0 := by have := of_decide_eq_false gi; omega
 refine stop_callP _ cl41 rfl rfl rfl rfl ⟨rfl, rfl⟩ rfl rfl (fun A w ga hga hW hblk => (pick_c ga bi rb _ _ w hblk ⟨z26, trivial⟩ hb (by omega))) ?_
 rintro v cs L ⟨k, rfl, _, _, rfl, rfl⟩
 refine CaseB.mk (fun gk => ?_) (fun gk => ?_)
 · refine draw_cut { u : Once × Sl × Bool // u.2.2 = true → OnceOk u.1 } (fun u => .mk [(2, .p 1 0), (3, .p 2 0), (8, .p 3 0), (10, .v (.bool u.1.2.2))] 4 0 [(3, 70, 4), (2, 70, 4), (1, 70, 4), (0, 139, 2)] [((0, 0), .v (bi.val rb.length)), ((0, 1), .v (.int .i64 ((p1 + 1 + 1 : Nat) : Int))), ((2, 0), .v (.int .i64 m.state)), ((2, 1), .v (.int .i64 m.owner)), ((2, 2), .v (.int .i64 m.value)), ((2, 3), .v (q.val m.waits.length)), ((3, 0), .v (.int .i64 u.1.1.state)), ((3, 1), .v (.int .i64 u.1.1.owner)), ((3, 2), .v (.int .i64 u.1.1.value)), ((3, 3), .v (u.1.2.1.val u.1.1.waits.length))] [own u.1.2.1 3 cInt 1 u.1.1.waits, own q 3 cInt 1 m.waits, slo bi cByte 1 rb]) ?_ ?_
   · refine draw_start tabOk z86 z86 z86 200 [((2, 0), .v (.int .i64 m.state)), ((2, 1), .v (.int .i64 m.owner)), ((2, 2), .v (.int .i64 m.value)), ((2, 3), .v (q.val m.waits.length))] [] [] z95 z106 trivial rfl ?_
     refine BothW.mk ?_ ?_
     all_goals
       refine AllSl.mk fun l2 => ?_
       first
       | refine BothW.mk ?_ ?_
       | skip
       all_goals
         refine d_callP _ cl71 rfl rfl rfl rfl ⟨rfl, rfl⟩ rfl rfl rfl (fun A w ga hga hW hblk => (num_c ga bi rb _ _ [7, 0, 99] w hblk ⟨z26, z26, trivial⟩ hb (by omega) (by decide))) ?_
         rintro v cs L ⟨x, rfl, hx, rfl, rfl⟩
         have hxv : isValue x = true := by simp at hx; rcases hx with rfl | rfl | rfl <;> rfl
         first
         | refine BothW.mk ?_ ?_
         | skip
         all_goals
           refine d_call _ cl151 rfl rfl rfl rfl ⟨rfl, rfl⟩ (fun A w hW => finishW_c m q _ x w ⟨hW.get 1 rfl (.own), trivial⟩ i3 hxv) ?_
           rintro v L ⟨m2, q2, z2, xs2, b2, rfl, hm2, rfl⟩
           refine ⟨⟨(m2, q2, b2), hm2⟩, ?_⟩
           exact weak_mk [0, 3, 4] zw2 zw0 zw2 zw5 zw4 rfl rfl
   rintro ⟨⟨m2, q2, b2⟩, hm2⟩
   simp only at hm2 ⊢
   refine CaseB.mk (fun g2 => ?_) (fun g2 => ?_)
   · exact retP [0] ⟨m2, q2, _, rfl, hm2 z79, rfl, by omega, rfl⟩ rfl rfl z115 rfl ⟨rfl, trivial⟩ (fun _ => rfl)
   · exact retP [1] ⟨m, q, _, rfl, i3, rfl, by omega, rfl⟩ rfl rfl z115 rfl ⟨rfl, trivial⟩ (fun _ => rfl)
 exact retP [0] ⟨m, q, _, rfl, i3, rfl, by omega, rfl⟩ rfl rfl z115 rfl ⟨rfl, trivial⟩ (fun _ => rfl)
structure Near (n : Nat) (s : State) : Prop where
 sm : s.small20
 pl : 1 ≤ s.places.length
 st : 1 ≤ s.status.length
 on : s.onces.length = 3
 sa : s.said.length ≤ 64 + n
 ba : Rounds s 2000
theorem Reach.rounds {p : Prog} {n : Nat} {s : State} (h : Reach p n s) : Rounds s n := by
 induction h with
 | begin =>
   intro x hx
   obtain ⟨n, _, rfl⟩ := List.mem_map.1 hx
   exact Int.le_refl _
 | step _ h ih =>
   intro x hx
   have := Rounds.step h (by omega) ih x hx
   omega
theorem Reach.near {p : Prog} (ok : ProgOk p) {n : Nat} {s : State} (h : Reach p n s) (hn : n ≤ 2000) : Near 0 s := by
 have hr : Rounds s 2000 := fun x hx => by have := h.rounds x hx; omega
 have n1 := ok.n1
 have sm := h.small ok
 cases h with
 | begin => exact ⟨sm, by simp [start]; omega, by simp [start]; omega, rfl, by simp [start], hr⟩
 | step _ h =>
   have ft := h.2.2.2
   exact ⟨sm, by rw [ft.np]; omega, by rw [ft.ns]; omega, ft.lonces, ft.lsaid, hr⟩
set_option maxHeartbeats 32000000 in
set_option maxRecDepth 100000 in
theorem wrong7_c (g : Nat) (bi : Sl) (rb : List UInt8) (p : Nat) (s : StateH) (n : Nat) (w : World) (hg : Blk w g 139 (rdrV bi rb p)) (h : AtP w g [slo bi cByte 1 rb, fR (stateO s)]) (hb : rb.length ≤ 2000) (hp : p < 100000) (nr : Near n s.pure) (hn : n ≤ 10) :
   Calls Tryz.prog 43 #[.pointer (some ⟨g, 0, none⟩), stateV s] w (RetP w g 139 2 fun v cs L => ∃ (y : StateH) (p2 : Nat), v = stateV y ∧ Near (n + 1) y.pure ∧ cs = rdrV bi rb p2 ∧ p2 ≤ p + 20 ∧ L = [fN (stateO y)]) := by
 refine callsP2 Tryz.func43 rfl tabOk w _ rfl _ rfl _ 139 _ 2 rfl hg _ h ⟨rfl, rfl, rfl, rfl, trivial⟩ _ (by decide) ?_
 refine stop_call _ cl96 rfl rfl rfl rfl ⟨rfl, rfl⟩ (fun A w hW => l7Copy_c s w ⟨hW.get 1 rfl (.refl _), trivial⟩ nr.sm) ?_
 rintro v L ⟨y, rfl, hy, rfl⟩
 rw [← hy] at nr
 have hpl : 0 < y.places.length := nr.pl
 have hst : 0 < y.status.length := nr.st
 have hon : y.onces.length = 3 := by have := nr.on; simpa [StateH.pure] using this
 have hsa : y.said.length ≤ 64 + n := nr.sa
 obtain ⟨b0, b1, b2, b3, b4, b5, b6, b7⟩ := nr.sm
 refine stop_callP _ cl41 rfl rfl rfl rfl ⟨rfl, rfl⟩ rfl rfl (fun A w ga hga hW hblk => (pick_c ga bi rb _ _ w hblk ⟨z26, trivial⟩ hb (by omega))) ?_
 rintro v cs L ⟨k, rfl, _, _, rfl, rfl⟩
 refine CaseB.mk (fun g0 => ?_) (fun g0 => ?_)
 · refine AllSl.mk fun l => ?_
   refine stop_callP _ cl71 rfl rfl rfl rfl ⟨rfl, rfl⟩ rfl rfl (fun A w ga hga hW hblk => (num_c ga bi rb _ _ [5, -1, 1] w hblk ⟨z26, z26, trivial⟩ hb (by omega) (by decide))) ?_
   rintro v cs L ⟨x, rfl, _, rfl, rfl⟩
   obtain ⟨y9, hy9⟩ : ∃ y9 : StateH, y9 = ⟨y.places, y.status, y.sems, y.onces, y.groups, y.barriers, y.chans, y.said, x, y.h0, y.h1, y.h2, y.h3, y.h4, y.h5, y.h6, y.h7⟩ := ⟨_, rfl⟩
   have hv : stateV y9 = .agg #[y.h0.val y.places.length, y.h1.val y.status.length, y.h2.val y.sems.length, y.h3.val y.onces.length, y.h4.val y.groups.length, y.h5.val y.barriers.length, y.h6.val y.chans.length, y.h7.val y.said.length, .int .i64 x] := by
     rw [hy9]; simp only [stateV]
   have hN : Near (n + 1) y9.pure := by
     rw [hy9]
     exact ⟨⟨b0, b1, b2, b3, b4, b5, b6, b7⟩, nr.pl, nr.st, nr.on, Nat.le_succ_of_le nr.sa, nr.ba⟩
   refine ret_shift (Shift.pack (G := stateO y9) (fun g hg => inON 1 rfl (by rw [hy9] at hg; exact hg))) ?_
   exact retP [0] ⟨y9, _, hv.symm, hN, rfl, by omega, rfl⟩ rfl rfl z115 rfl ⟨rfl, trivial⟩ (fun _ => rfl)
 refine CaseB.mk (fun g1 => ?_) (fun g1 => ?_)
 · refine draw_shift (Shift.splitO 0 (L := outerO y) (G := stateO y) (G' := innerO y) rfl (stateO_perm y)) ?_
   refine draw_own 0 rfl hpl fun gg hgg _ _ => ?_
   refine draw_start tabOk z86 z86 z86 200 [((3, 0), .v (y.h0.val y.places.length))] [] [] z116 z118 trivial rfl ?_
   refine AllSl.mk fun l => ?_
   refine d_callP _ cl71 rfl rfl rfl rfl ⟨rfl, rfl⟩ rfl rfl rfl (fun A w ga hga hW hblk => (num_c ga bi rb _ _ [0, 1, 9, -1] w hblk ⟨z26, z26, trivial⟩ hb (by omega) (by decide))) ?_
   rintro v cs L ⟨x, rfl, _, rfl, rfl⟩
   refine d_idxP (ti := tiOf tab) tabOk rfl rfl rfl rfl rfl ⟨rfl, rfl⟩ hgg 0 rfl hpl ?_
   refine d_storeW (ti := tiOf tab) encInt 1 tabOk rfl rfl rfl rfl rfl rfl rfl rfl hgg 0 0 x rfl hpl rfl [.int .i64 x] (fun _ => rfl) rfl z84 ?_
   obtain ⟨y9, hy9⟩ : ∃ y9 : StateH, y9 = ⟨(y.places.set 0 x), y.status, y.sems, y.onces, y.groups, y.barriers, y.chans, y.said, y.fault, y.h0, y.h1, y.h2, y.h3, y.h4, y.h5, y.h6, y.h7⟩ := ⟨_, rfl⟩
   have hv : stateV y9 = .agg #[y.h0.val y.places.length, y.h1.val y.status.length, y.h2.val y.sems.length, y.h3.val y.onces.length, y.h4.val y.groups.length, y.h5.val y.barriers.length, y.h6.val y.chans.length, y.h7.val y.said.length, .int .i64 y.fault] := by
     rw [hy9]; simp only [stateV, List.length_set]
   have hN : Near (n + 1) y9.pure := by
     rw [hy9]
     exact ⟨⟨by show (y.places.set 0 x).length ≤ 1048576; rw [List.length_set]; exact b0, b1, b2, b3, b4, b5, b6, b7⟩, by show 1 ≤ (y.places.set 0 x).length; rw [List.length_set]; exact hpl, nr.st, nr.on, Nat.le_succ_of_le nr.sa, nr.ba⟩
   refine ret_shift (Shift.pack (G := stateO y9) (stateN y9 (by rw [hy9]; exact outIn 0 2 3 4 5 6 7 8 rfl rfl rfl rfl rfl rfl rfl rfl) z66)) ?_
   exact retP [0] ⟨y9, _, hv.symm, hN, rfl, by omega, rfl⟩ rfl rfl z115 rfl ⟨rfl, trivial⟩ (fun _ => rfl)
 refine CaseB.mk (fun g2 => ?_) (fun g2 => ?_)
 · refine draw_shift (Shift.splitO 0 (L := outerO y) (G := stateO y) (G' := innerO y) rfl (stateO_perm y)) ?_
   refine draw_own 1 rfl hst fun gg hgg _ _ => ?_
   refine draw_start tabOk z86 z86 z86 200 [((3, 1), .v (y.h1.val y.status.length))] [] [] z116 z118 trivial rfl ?_
   refine AllSl.mk fun l => ?_
   refine d_callP _ cl71 rfl rfl rfl rfl ⟨rfl, rfl⟩ rfl rfl rfl (fun A w ga hga hW hblk => (num_c ga bi rb _ _ [0, 1, 2, 3, 4] w hblk ⟨z26, z26, trivial⟩ hb (by omega) (by decide))) ?_
   rintro v cs L ⟨x, rfl, _, rfl, rfl⟩
   refine d_idxP (ti := tiOf tab) tabOk rfl rfl rfl rfl rfl ⟨rfl, rfl⟩ hgg 0 rfl hst ?_
   refine d_storeW (ti := tiOf tab) encInt 2 tabOk rfl rfl rfl rfl rfl rfl rfl rfl hgg 0 0 x rfl hst rfl [.int .i64 x] (fun _ => rfl) rfl z84 ?_
   obtain ⟨y9, hy9⟩ : ∃ y9 : StateH, y9 = ⟨y.places, (y.status.set 0 x), y.sems, y.onces, y.groups, y.barriers, y.chans, y.said, y.fault, y.h0, y.h1, y.h2, y.h3, y.h4, y.h5, y.h6, y.h7⟩ := ⟨_, rfl⟩
   have hv : stateV y9 = .agg #[y.h0.val y.places.length, y.h1.val y.status.length, y.h2.val y.sems.length, y.h3.val y.onces.length, y.h4.val y.groups.length, y.h5.val y.barriers.length, y.h6.val y.chans.length, y.h7.val y.said.length, .int .i64 y.fault] := by
     rw [hy9]; simp only [stateV, List.length_set]
   have hN : Near (n + 1) y9.pure := by
     rw [hy9]
     exact ⟨⟨b0, by show (y.status.set 0 x).length ≤ 1048576; rw [List.length_set]; exact b1, b2, b3, b4, b5, b6, b7⟩, nr.pl, by show 1 ≤ (y.status.set 0 x).length; rw [List.length_set]; exact hst, nr.on, Nat.le_succ_of_le nr.sa, nr.ba⟩
   refine ret_shift (Shift.pack (G := stateO y9) (stateN y9 (by rw [hy9]; exact outIn 2 0 3 4 5 6 7 8 rfl rfl rfl rfl rfl rfl rfl rfl) z66)) ?_
   exact retP [0] ⟨y9, _, hv.symm, hN, rfl, by omega, rfl⟩ rfl rfl z115 rfl ⟨rfl, trivial⟩ (fun _ => rfl)
 refine CaseB.mk (fun g3 => ?_) (fun g3 => ?_)
 · refine draw_shift (Shift.splitO 0 (L := outerO y) (G := stateO y) (G' := innerO y) rfl (stateO_perm y)) ?_
   refine draw_start tabOk z86 z86 z86 200 [] [] [] trivial trivial trivial rfl ?_
   refine BothW.mk ?_ ?_
   all_goals
     refine AllSl.mk fun l => ?_
     first
     | refine BothW.mk ?_ ?_
     | skip
     all_goals
       refine d_callP _ cl71 rfl rfl rfl rfl ⟨rfl, rfl⟩ rfl rfl rfl (fun A w ga hga hW hblk => (num_c ga bi rb _ _ [100, 3] w hblk ⟨z26, z26, trivial⟩ hb (by omega) (by decide))) ?_
       rintro v cs L ⟨x, rfl, _, rfl, rfl⟩
       first
       | refine BothW.mk ?_ ?_
       | skip
       all_goals
         refine AllSl.mk fun l2 => ?_
         refine d_app (ti := tiOf tab) encInt 9 tabOk (xs := y.said) (ys := [x]) rfl rfl rfl rfl rfl rfl rfl rfl rfl (by decide) ⟨rfl, rfl⟩ rfl z28 z34 z34 z84 (fun z => ?_)
         obtain ⟨y9, hy9⟩ : ∃ y9 : StateH, y9 = ⟨y.places, y.status, y.sems, y.onces, y.groups, y.barriers, y.chans, (y.said ++ [x]), y.fault, y.h0, y.h1, y.h2, y.h3, y.h4, y.h5, y.h6, z⟩ := ⟨_, rfl⟩
         have hv : stateV y9 = .agg #[y.h0.val y.places.length, y.h1.val y.status.length, y.h2.val y.sems.length, y.h3.val y.onces.length, y.h4.val y.groups.length, y.h5.val y.barriers.length, y.h6.val y.chans.length, z.val (y.said ++ [x]).length, .int .i64 y.fault] := by
           rw [hy9]; simp only [stateV]
         have hN : Near (n + 1) y9.pure := by
           rw [hy9]
           exact ⟨⟨b0, b1, b2, b3, b4, b5, b6, by show (y.said ++ [x]).length ≤ 1048576; rw [List.length_append, List.length_singleton]; omega⟩, nr.pl, nr.st, nr.on, by show (y.said ++ [x]).length ≤ _; rw [List.length_append, List.length_singleton]; omega, nr.ba⟩
         refine ret_shift (Shift.pack (G := stateO y9) (stateN y9 (by rw [hy9]; exact outIn 3 4 5 6 7 8 9 0 rfl rfl rfl rfl rfl rfl rfl rfl) (by rw [hy9]; exact fun g hg => inON 10 rfl hg))) ?_
         exact retP [0] ⟨y9, _, hv.symm, hN, rfl, by omega, rfl⟩ rfl rfl z115 rfl ⟨rfl, trivial⟩ (fun _ => rfl)
 refine CaseB.mk (fun g4 => ?_) (fun g4 => ?_)
 · refine draw_shift (Shift.splitO 0 (L := outerO y) (G := stateO y) (G' := innerO y) rfl (stateO_perm y)) ?_
   refine draw_own 3 rfl (show 0 < y.onces.length by omega) fun gg hgg _ _ => ?_
   refine draw_start tabOk z86 z86 z86 200 [((3, 3), .v (y.h3.val y.onces.length))] [] [] z116 z118 trivial rfl ?_
   refine d_callP _ cl41 rfl rfl rfl rfl ⟨rfl, rfl⟩ rfl rfl rfl (fun A w ga hga hW hblk => (pick_c ga bi rb _ _ w hblk ⟨z26, trivial⟩ hb (by omega))) ?_
   rintro v cs L ⟨j, rfl, hj, _, rfl, rfl⟩
   have hj3 : j < y.onces.length := by have := hj (by decide); omega
   refine d_callP _ cl99 rfl rfl rfl rfl ⟨rfl, rfl⟩ rfl rfl rfl (fun A w ga hga hW hblk => (drawOnce_c ga bi rb _ w hblk ⟨z26, trivial⟩ hb (by omega))) ?_
   rintro v cs L ⟨m, q, p2, rfl, hm, rfl, hp2, rfl⟩
   refine d_idxP (ti := tiOf tab) tabOk rfl rfl rfl rfl rfl ⟨rfl, rfl⟩ hgg j rfl hj3 ?_
   refine d_storeW (ti := tiOf tab) encOnceH 4 tabOk rfl rfl rfl rfl rfl rfl rfl rfl hgg j 0 ⟨m, q⟩ rfl hj3 rfl (cOnceH ⟨m, q⟩) (fun _ => rfl) z60 z84 ?_
   obtain ⟨y9, hy9⟩ : ∃ y9 : StateH, y9 = ⟨y.places, y.status, y.sems, (y.onces.set j ⟨m, q⟩), y.groups, y.barriers, y.chans, y.said, y.fault, y.h0, y.h1, y.h2, y.h3, y.h4, y.h5, y.h6, y.h7⟩ := ⟨_, rfl⟩
   have hv : stateV y9 = .agg #[y.h0.val y.places.length, y.h1.val y.status.length, y.h2.val y.sems.length, y.h3.val y.onces.length, y.h4.val y.groups.length, y.h5.val y.barriers.length, y.h6.val y.chans.length, y.h7.val y.said.length, .int .i64 y.fault] := by
     rw [hy9]; simp only [stateV, List.length_set]
   have hN : Near (n + 1) y9.pure := by
     rw [hy9]
     have eon : (y.onces.set j ⟨m, q⟩).map (·.m) = (y.onces.map (·.m)).set j m := List.map_set ..
     exact ⟨⟨b0, b1, b2, ⟨by show ((y.onces.set j ⟨m, q⟩).map (·.m)).length ≤ 1048576; rw [eon, List.length_set, List.length_map]; omega, by show ∀ x ∈ (y.onces.set j ⟨m, q⟩).map (·.m), _; rw [eon]; exact set_mem b3.2 (by have := onceOk_len hm; show m.waits.length ≤ 1048576; omega)⟩, b4, b5, b6, b7⟩, nr.pl, nr.st, by show ((y.onces.set j ⟨m, q⟩).map (·.m)).length = 3; rw [eon, List.length_set]; exact nr.on, Nat.le_succ_of_le nr.sa, nr.ba⟩
   refine ret_shift (Shift.pack (G := stateO y9) (stateN y9 (by rw [hy9]; exact outIn 2 3 4 0 5 6 7 8 rfl rfl rfl rfl rfl rfl rfl rfl) (by rw [hy9]; exact fun g hg => (inner_once hg).elim (fun h => inON 9 rfl h) (fun h => by obtain rfl := List.mem_singleton.1 h; exact inFN 1 rfl rfl)))) ?_
   exact retP [0] ⟨y9, _, hv.symm, hN, rfl, by omega, rfl⟩ rfl rfl z115 rfl ⟨rfl, trivial⟩ (fun _ => rfl)
 refine ret_shift (Shift.packK (G := stateO y) 0 rfl) ?_
 exact retP [0] ⟨y, _, rfl, ⟨⟨b0, b1, b2, b3, b4, b5, b6, b7⟩, nr.pl, nr.st, nr.on, Nat.le_succ_of_le nr.sa, nr.ba⟩, rfl, by omega, rfl⟩ rfl rfl z115 rfl ⟨rfl, trivial⟩ (fun _ => rfl)
theorem Near.up {n : Nat} {s : State} (h : Near n s) (m : Nat) (hm : n ≤ m) : Near m s := ⟨h.sm, h.pl, h.st, h.on, Nat.le_trans h.sa (Nat.add_le_add_left hm 64), h.ba⟩
def PairR (v : Value) (L : List Fct) : Prop := ∃ (q : ProgH) (y : StateH), v = .tuple #[progV q, stateV y] ∧ ProgOk q.pure ∧ Near 2 y.pure ∧ L = [fO (progO q), fN (stateO y)]
def TripR (v : Value) (L : List Fct) : Prop := ∃ (q : ProgH) (y : StateH) (t : Int), v = .tuple #[progV q, stateV y, .int .i64 t] ∧ ProgOk q.pure ∧ Near 2 y.pure ∧ L = [fO (progO q), fN (stateO y)]
def TwoR (v : Value) (L : List Fct) : Prop := ∃ a b : StateH, v = .tuple #[stateV a, stateV b] ∧ a.pure.small20 ∧ b.pure.small20 ∧ L = [fN (stateO a), fN (stateO b)]
set_option maxHeartbeats 16000000 in
set_option maxRecDepth 100000 in
theorem draw7_c (g : Nat) (bi : Sl) (rb : List UInt8) (p : Nat) (w : World) (hg : Blk w g 139 (rdrV bi rb p)) (h : AtP w g [slo bi cByte 1 rb]) (hb : rb.length ≤ 2000) (hp : p < 10000) :
   Calls Tryz.prog 40 #[.pointer (some ⟨g, 0, none⟩)] w (RetP w g 139 2 fun v cs L => ∃ (q : ProgH) (y : StateH) (n p2 : Nat), v = .tuple #[progV q, stateV y] ∧ ProgOk q.pure ∧ Reach q.pure n y.pure ∧ n ≤ 12 ∧ cs = rdrV bi rb p2 ∧ p2 ≤ p + 200 ∧ L = [fO (progO q), fN (stateO y)]) := by
 refine callsP1 Tryz.func40 rfl tabOk w _ rfl _ rfl _ 139 _ 2 rfl hg _ h ⟨rfl, rfl, trivial⟩ (by decide) ?_
 refine stop_callP _ cl74 rfl rfl rfl rfl ⟨rfl, rfl⟩ rfl rfl (fun A w ga hga hW hblk => (draw6_c ga bi rb p w hblk ⟨z26, trivial⟩ hb (by omega))) ?_
 rintro v cs L ⟨q, p1, rfl, ok, rfl, hp1, rfl⟩
 refine draw_start tabOk z86 z86 z86 200 [((3, 0), .v (q.h0.val q.sems.length)), ((3, 1), .v (q.h1.val q.groups.length)), ((3, 2), .v (q.h2.val q.barriers.length)), ((3, 3), .v (q.h3.val q.rooms.length)), ((3, 4), .v (q.h4.val q.threads.length))] [] [] z92 z103 trivial rfl ?_
 refine AllSl.mk fun l => ?_
 refine d_callP _ cl71 rfl rfl rfl rfl ⟨rfl, rfl⟩ rfl rfl rfl (fun A w ga hga hW hblk => (num_c ga bi rb _ _ [3, 2, 5, 8, 1, 0, 12] w hblk ⟨z26, z26, trivial⟩ hb (by omega) (by decide))) ?_
 rintro v cs L ⟨x, rfl, hx, rfl, rfl⟩
 obtain ⟨m, rfl, hm⟩ : ∃ m : Nat, x = m ∧ m ≤ 12 := ⟨x.toNat, by simp at hx; omega, by simp at hx; omega⟩
 refine d_callP _ cl42 rfl rfl rfl rfl ⟨rfl, rfl⟩ rfl rfl rfl (fun A w ga hga hW hblk => (walk7_c ga bi rb _ q m w hblk ⟨hW.getP _ hga rfl 2 rfl (.refl _), hW.getP _ hga rfl 1 rfl (.O_R fun _ h => h), trivial⟩ hb (by omega) ok (by omega))) ?_
 rintro v cs L ⟨y, n, p2, rfl, hr, hn, rfl, hp2, rfl⟩
 exact retP [2, 0] ⟨q, y, n, p2, rfl, ok, hr, by omega, rfl, by omega, rfl⟩ rfl rfl z108 rfl ⟨rfl, rfl, trivial⟩ (fun _ => rfl)
set_option maxHeartbeats 16000000 in
set_option maxRecDepth 100000 in
theorem case7_c (i : Sl) (xs : List UInt8) (w : World) (h : At w [slo i cByte 1 xs]) (hb : xs.length ≤ 4294967296) :
   Calls Tryz.prog 76 #[i.val xs.length] w (Ret w TripR) := by
 have ht : (xs.take 2000).length ≤ 2000 := by simp; omega
 refine calls1 Tryz.func76 rfl tabOk w _ rfl _ rfl _ h ⟨rfl, rfl, trivial⟩ _ (by decide) ?_
 refine stop_callN _ 139 2 cl39 rfl rfl rfl rfl ⟨rfl, rfl⟩ (fun A w hW => (open_c i xs w ⟨z27, trivial⟩ hb)) ?_
 rintro cs L ⟨rfl, rfl⟩
 refine stop_callP _ cl40 rfl rfl rfl rfl ⟨rfl, rfl⟩ rfl rfl (fun A w ga hga hW hblk => (draw7_c ga (openI i xs) (xs.take 2000) _ w hblk ⟨z29, trivial⟩ ht (by omega))) ?_
 rintro v cs L ⟨q, y, n, p1, rfl, ok, hr, hn, rfl, hp1, rfl⟩
 have near := hr.near ok (by omega)
 have hsb : y.status.length ≤ 1048576 := near.sm.2.1
 have hrl : (readyM y.pure).length ≤ 1048576 := Nat.le_trans (readyL_le y.pure) hsb
 refine AllSl.mk fun l => ?_
 refine stop_callP _ cl71 rfl rfl rfl rfl ⟨rfl, rfl⟩ rfl rfl (fun A w ga hga hW hblk => (num_c ga (openI i xs) (xs.take 2000) _ _ [0, 1, 2, 3, 4, -1] w hblk ⟨z29, hW.rdOwnP _ hga rfl 0 rfl, trivial⟩ ht (by omega) (by decide))) ?_
 rintro v cs L ⟨t, rfl, _, rfl, rfl⟩
 refine stop_call _ cl75 rfl rfl rfl rfl ⟨rfl, rfl⟩ (fun A w hW => readyS_c y w ⟨hW.get 2 rfl (fN_fR _), trivial⟩ hsb) ?_
 rintro v L ⟨yr, rfl, rfl⟩
 refine CaseB.mk (fun g1 => ?_) (fun g1 => ?_)
 · have h0 : 0 < (readyM y.pure).length := by have := of_decide_eq_true g1; omega
   refine stop_callP _ cl41 rfl rfl rfl rfl ⟨rfl, rfl⟩ rfl rfl (fun A w ga hga hW hblk => (pick_c ga (openI i xs) (xs.take 2000) _ _ w hblk ⟨z29, trivial⟩ ht (by omega))) ?_
   rintro v cs L ⟨k4, rfl, _, _, rfl, rfl⟩
   refine CaseB.mk (fun g2 => ?_) (fun g2 => ?_)
   · refine stop_callP _ cl41 rfl rfl rfl rfl ⟨rfl, rfl⟩ rfl rfl (fun A w ga hga hW hblk => (pick_c ga (openI i xs) (xs.take 2000) _ _ w hblk ⟨z29, trivial⟩ ht (by omega))) ?_
     rintro v cs L ⟨kk, rfl, hkk, _, rfl, rfl⟩
     have hlt : kk < (readyM y.pure).length := by have := hkk (by omega); omega
     refine stop_idx encInt tabOk rfl rfl rfl rfl rfl ⟨rfl, rfl⟩ z28 kk rfl z34 (fun ad => ?_)
     refine draw_start tabOk z86 z86 z86 200 [((3, 0), .v (q.h0.val q.sems.length)), ((3, 1), .v (q.h1.val q.groups.length)), ((3, 2), .v (q.h2.val q.barriers.length)), ((3, 3), .v (q.h3.val q.rooms.length)), ((3, 4), .v (q.h4.val q.threads.length)), ((4, 0), .v (y.h0.val y.places.length)), ((4, 1), .v (y.h1.val y.status.length)), ((4, 2), .v (y.h2.val y.sems.length)), ((4, 3), .v (y.h3.val y.onces.length)), ((4, 4), .v (y.h4.val y.groups.length)), ((4, 5), .v (y.h5.val y.barriers.length)), ((4, 6), .v (y.h6.val y.chans.length)), ((4, 7), .v (y.h7.val y.said.length)), ((4, 8), .v (.int .i64 y.fault))] [] [] z88 z90 trivial rfl ?_
     refine d_callP _ cl43 rfl rfl rfl rfl ⟨rfl, rfl⟩ rfl rfl rfl (fun A w ga hga hW hblk => (wrong7_c ga (openI i xs) (xs.take 2000) _ y 0 w hblk ⟨z29, hW.getP _ hga rfl 3 rfl (fN_fR _), trivial⟩ ht (by omega) near (by omega))) ?_
     rintro v cs L ⟨y2, p2, rfl, n2, rfl, _, rfl⟩
     exact retw [3, 0] ⟨q, y2, _, rfl, ok, n2.up 2 (by omega), rfl⟩ z108 rfl ⟨rfl, rfl, trivial⟩ (fun _ => rfl)
   · skip
     refine draw_start tabOk z86 z86 z86 200 [((3, 0), .v (q.h0.val q.sems.length)), ((3, 1), .v (q.h1.val q.groups.length)), ((3, 2), .v (q.h2.val q.barriers.length)), ((3, 3), .v (q.h3.val q.rooms.length)), ((3, 4), .v (q.h4.val q.threads.length)), ((4, 0), .v (y.h0.val y.places.length)), ((4, 1), .v (y.h1.val y.status.length)), ((4, 2), .v (y.h2.val y.sems.length)), ((4, 3), .v (y.h3.val y.onces.length)), ((4, 4), .v (y.h4.val y.groups.length)), ((4, 5), .v (y.h5.val y.barriers.length)), ((4, 6), .v (y.h6.val y.chans.length)), ((4, 7), .v (y.h7.val y.said.length)), ((4, 8), .v (.int .i64 y.fault))] [] [] z88 z90 trivial rfl ?_
     refine d_callP _ cl43 rfl rfl rfl rfl ⟨rfl, rfl⟩ rfl rfl rfl (fun A w ga hga hW hblk => (wrong7_c ga (openI i xs) (xs.take 2000) _ y 0 w hblk ⟨z29, hW.getP _ hga rfl 3 rfl (fN_fR _), trivial⟩ ht (by omega) near (by omega))) ?_
     rintro v cs L ⟨y2, p2, rfl, n2, rfl, _, rfl⟩
     exact retw [3, 0] ⟨q, y2, _, rfl, ok, n2.up 2 (by omega), rfl⟩ z108 rfl ⟨rfl, rfl, trivial⟩ (fun _ => rfl)
 · skip
   refine draw_start tabOk z86 z86 z86 200 [((3, 0), .v (q.h0.val q.sems.length)), ((3, 1), .v (q.h1.val q.groups.length)), ((3, 2), .v (q.h2.val q.barriers.length)), ((3, 3), .v (q.h3.val q.rooms.length)), ((3, 4), .v (q.h4.val q.threads.length)), ((4, 0), .v (y.h0.val y.places.length)), ((4, 1), .v (y.h1.val y.status.length)), ((4, 2), .v (y.h2.val y.sems.length)), ((4, 3), .v (y.h3.val y.onces.length)), ((4, 4), .v (y.h4.val y.groups.length)), ((4, 5), .v (y.h5.val y.barriers.length)), ((4, 6), .v (y.h6.val y.chans.length)), ((4, 7), .v (y.h7.val y.said.length)), ((4, 8), .v (.int .i64 y.fault))] [] [] z88 z90 trivial rfl ?_
   refine d_callP _ cl43 rfl rfl rfl rfl ⟨rfl, rfl⟩ rfl rfl rfl (fun A w ga hga hW hblk => (wrong7_c ga (openI i xs) (xs.take 2000) _ y 0 w hblk ⟨z29, hW.getP _ hga rfl 3 rfl (fN_fR _), trivial⟩ ht (by omega) near (by omega))) ?_
   rintro v cs L ⟨y2, p2, rfl, n2, rfl, _, rfl⟩
   exact retw [3, 0] ⟨q, y2, _, rfl, ok, n2.up 2 (by omega), rfl⟩ z108 rfl ⟨rfl, rfl, trivial⟩ (fun _ => rfl)
set_option maxHeartbeats 16000000 in
set_option maxRecDepth 100000 in
theorem readyD_c (i : Sl) (xs : List UInt8) (w : World) (h : At w [slo i cByte 1 xs]) (hb : xs.length ≤ 4294967296) :
   Calls Tryz.prog 29 #[i.val xs.length] w (Ret w PairR) := by
 refine calls1 Tryz.func29 rfl tabOk w _ rfl _ rfl _ h ⟨rfl, rfl, trivial⟩ _ (by decide) ?_
 refine stop_call _ cl76 rfl rfl rfl rfl ⟨rfl, rfl⟩ (fun A w hW => (case7_c i xs w ⟨z27, trivial⟩ hb)) ?_
 rintro v L ⟨q, y, t, rfl, ok, nr, rfl⟩
 refine draw_start tabOk z86 z86 z86 200 [((2, 0), .v (q.h0.val q.sems.length)), ((2, 1), .v (q.h1.val q.groups.length)), ((2, 2), .v (q.h2.val q.barriers.length)), ((2, 3), .v (q.h3.val q.rooms.length)), ((2, 4), .v (q.h4.val q.threads.length)), ((3, 0), .v (y.h0.val y.places.length)), ((3, 1), .v (y.h1.val y.status.length)), ((3, 2), .v (y.h2.val y.sems.length)), ((3, 3), .v (y.h3.val y.onces.length)), ((3, 4), .v (y.h4.val y.groups.length)), ((3, 5), .v (y.h5.val y.barriers.length)), ((3, 6), .v (y.h6.val y.chans.length)), ((3, 7), .v (y.h7.val y.said.length)), ((3, 8), .v (.int .i64 y.fault))] [] [] z88 z90 trivial rfl ?_
 exact retw [0, 1] ⟨q, y, rfl, ok, nr, rfl⟩ z108 rfl ⟨rfl, rfl, trivial⟩ (fun _ => rfl)
set_option maxHeartbeats 16000000 in
set_option maxRecDepth 100000 in
theorem formatD_c (i : Sl) (xs : List UInt8) (w : World) (h : At w [slo i cByte 1 xs]) (hb : xs.length ≤ 4294967296) :
   Calls Tryz.prog 77 #[i.val xs.length] w (Ret w PairR) := by
 refine calls1 Tryz.func77 rfl tabOk w _ rfl _ rfl _ h ⟨rfl, rfl, trivial⟩ _ (by decide) ?_
 refine stop_call _ cl76 rfl rfl rfl rfl ⟨rfl, rfl⟩ (fun A w hW => (case7_c i xs w ⟨z27, trivial⟩ hb)) ?_
 rintro v L ⟨q, y, t, rfl, ok, nr, rfl⟩
 refine draw_start tabOk z86 z86 z86 200 [((2, 0), .v (q.h0.val q.sems.length)), ((2, 1), .v (q.h1.val q.groups.length)), ((2, 2), .v (q.h2.val q.barriers.length)), ((2, 3), .v (q.h3.val q.rooms.length)), ((2, 4), .v (q.h4.val q.threads.length)), ((3, 0), .v (y.h0.val y.places.length)), ((3, 1), .v (y.h1.val y.status.length)), ((3, 2), .v (y.h2.val y.sems.length)), ((3, 3), .v (y.h3.val y.onces.length)), ((3, 4), .v (y.h4.val y.groups.length)), ((3, 5), .v (y.h5.val y.barriers.length)), ((3, 6), .v (y.h6.val y.chans.length)), ((3, 7), .v (y.h7.val y.said.length)), ((3, 8), .v (.int .i64 y.fault))] [] [] z88 z90 trivial rfl ?_
 exact retw [0, 1] ⟨q, y, rfl, ok, nr, rfl⟩ z108 rfl ⟨rfl, rfl, trivial⟩ (fun _ => rfl)
set_option maxHeartbeats 16000000 in
set_option maxRecDepth 100000 in
theorem overD_c (i : Sl) (xs : List UInt8) (w : World) (h : At w [slo i cByte 1 xs]) (hb : xs.length ≤ 4294967296) :
   Calls Tryz.prog 24 #[i.val xs.length] w (Ret w PairR) := by
 have ht : (xs.take 2000).length ≤ 2000 := by simp; omega
 refine calls1 Tryz.func24 rfl tabOk w _ rfl _ rfl _ h ⟨rfl, rfl, trivial⟩ _ (by decide) ?_
 refine stop_callN _ 139 2 cl39 rfl rfl rfl rfl ⟨rfl, rfl⟩ (fun A w hW => (open_c i xs w ⟨z27, trivial⟩ hb)) ?_
 rintro cs L ⟨rfl, rfl⟩
 refine stop_callP _ cl74 rfl rfl rfl rfl ⟨rfl, rfl⟩ rfl rfl (fun A w ga hga hW hblk => (draw6_c ga (openI i xs) (xs.take 2000) _ w hblk ⟨z29, trivial⟩ ht (by omega))) ?_
 rintro v cs L ⟨q, p1, rfl, ok, rfl, hp1, rfl⟩
 refine draw_start tabOk z86 z86 z86 200 [((3, 0), .v (q.h0.val q.sems.length)), ((3, 1), .v (q.h1.val q.groups.length)), ((3, 2), .v (q.h2.val q.barriers.length)), ((3, 3), .v (q.h3.val q.rooms.length)), ((3, 4), .v (q.h4.val q.threads.length))] [] [] z92 z103 trivial rfl ?_
 refine d_callP _ cl42 rfl rfl rfl rfl ⟨rfl, rfl⟩ rfl rfl rfl (fun A w ga hga hW hblk => (walk7_c ga (openI i xs) (xs.take 2000) _ q 40 w hblk ⟨z29, hW.getP _ hga rfl 0 rfl (.O_R fun _ h => h), trivial⟩ ht (by omega) ok (by omega))) ?_
 rintro v cs L ⟨y, n, p2, rfl, hr, hn, rfl, hp2, rfl⟩
 refine d_callP _ cl43 rfl rfl rfl rfl ⟨rfl, rfl⟩ rfl rfl rfl (fun A w ga hga hW hblk => (wrong7_c ga (openI i xs) (xs.take 2000) _ y 0 w hblk ⟨z29, hW.getP _ hga rfl 0 rfl (fN_fR _), trivial⟩ ht (by omega) (hr.near ok (by omega)) (by omega))) ?_
 rintro v cs L ⟨y2, p3, rfl, n2, rfl, _, rfl⟩
 exact retw [2, 0] ⟨q, y2, rfl, ok, n2.up 2 (by omega), rfl⟩ z108 rfl ⟨rfl, rfl, trivial⟩ (fun _ => rfl)
set_option maxHeartbeats 16000000 in
set_option maxRecDepth 100000 in
theorem waitsD_c (i : Sl) (xs : List UInt8) (w : World) (h : At w [slo i cByte 1 xs]) (hb : xs.length ≤ 4294967296) :
   Calls Tryz.prog 20 #[i.val xs.length] w (Ret w TripR) := by
 have ht : (xs.take 2000).length ≤ 2000 := by simp; omega
 refine calls1 Tryz.func20 rfl tabOk w _ rfl _ rfl _ h ⟨rfl, rfl, trivial⟩ _ (by decide) ?_
 refine stop_call _ cl24 rfl rfl rfl rfl ⟨rfl, rfl⟩ (fun A w hW => (overD_c i xs w ⟨z27, trivial⟩ hb)) ?_
 rintro v L ⟨q, yS, rfl, ok, nr, rfl⟩
 refine draw_start tabOk z86 z86 z86 200 [((2, 0), .v (q.h0.val q.sems.length)), ((2, 1), .v (q.h1.val q.groups.length)), ((2, 2), .v (q.h2.val q.barriers.length)), ((2, 3), .v (q.h3.val q.rooms.length)), ((2, 4), .v (q.h4.val q.threads.length)), ((3, 0), .v (yS.h0.val yS.places.length)), ((3, 1), .v (yS.h1.val yS.status.length)), ((3, 2), .v (yS.h2.val yS.sems.length)), ((3, 3), .v (yS.h3.val yS.onces.length)), ((3, 4), .v (yS.h4.val yS.groups.length)), ((3, 5), .v (yS.h5.val yS.barriers.length)), ((3, 6), .v (yS.h6.val yS.chans.length)), ((3, 7), .v (yS.h7.val yS.said.length)), ((3, 8), .v (.int .i64 yS.fault))] [] [] z88 z90 trivial rfl ?_
 repeat' ((conv => whnf); (first
   | rintro v cs L ⟨u, rfl, _, rfl, rfl⟩
   | rintro cs L ⟨rfl, rfl⟩
   | refine BothW.mk ?_ ?_
   | refine AllSl.mk fun y => ?_
   | (refine opd_call 39 rfl rfl rfl ?_; refine d_callN _ 139 2 cl39 rfl rfl rfl rfl ⟨rfl, rfl⟩ rfl (fun A w hW => (open_c i xs w ⟨z27, trivial⟩ hb)) ?_)
   | (refine opd_call 71 rfl rfl rfl ?_; refine d_callP _ cl71 rfl rfl rfl rfl ⟨rfl, rfl⟩ rfl rfl rfl (fun A w ga hga hW hblk => (num_c ga (openI i xs) (xs.take 2000) _ _ [0, 1, 2, 3, 4] w hblk ⟨z29, hW.rdOwnP _ hga rfl 0 rfl, trivial⟩ ht (by omega) (by decide))) ?_)
   | fail))
 all_goals
   exact retw [1, 2] ⟨q, yS, u, rfl, ok, nr, rfl⟩ z108 rfl ⟨rfl, rfl, trivial⟩ (fun _ => rfl)
set_option maxHeartbeats 16000000 in
set_option maxRecDepth 100000 in
theorem endD_c (i : Sl) (xs : List UInt8) (w : World) (h : At w [slo i cByte 1 xs]) (hb : xs.length ≤ 4294967296) :
   Calls Tryz.prog 32 #[i.val xs.length] w (Ret w PairR) := by
 have ht : (xs.take 2000).length ≤ 2000 := by simp; omega
 refine calls1 Tryz.func32 rfl tabOk w _ rfl _ rfl _ h ⟨rfl, rfl, trivial⟩ _ (by decide) ?_
 refine stop_callN _ 139 2 cl39 rfl rfl rfl rfl ⟨rfl, rfl⟩ (fun A w hW => (open_c i xs w ⟨z27, trivial⟩ hb)) ?_
 rintro cs L ⟨rfl, rfl⟩
 refine stop_callP _ cl41 rfl rfl rfl rfl ⟨rfl, rfl⟩ rfl rfl (fun A w ga hga hW hblk => (pick_c ga (openI i xs) (xs.take 2000) _ _ w hblk ⟨z29, trivial⟩ ht (by omega))) ?_
 rintro v cs L ⟨k, rfl, _, _, rfl, rfl⟩
 refine CaseB.mk (fun g1 => ?_) (fun g1 => ?_)
 · refine stop_call _ cl24 rfl rfl rfl rfl ⟨rfl, rfl⟩ (fun A w hW => (overD_c i xs w ⟨z27, trivial⟩ hb)) ?_
   rintro v L ⟨q, y, rfl, ok, nr, rfl⟩
   exact retw [0, 1] ⟨q, y, rfl, ok, nr, rfl⟩ z108 rfl ⟨rfl, rfl, trivial⟩ (fun _ => rfl)
 · refine stop_call _ cl77 rfl rfl rfl rfl ⟨rfl, rfl⟩ (fun A w hW => (formatD_c i xs w ⟨z27, trivial⟩ hb)) ?_
   rintro v L ⟨q, y, rfl, ok, nr, rfl⟩
   exact retw [0, 1] ⟨q, y, rfl, ok, nr, rfl⟩ z108 rfl ⟨rfl, rfl, trivial⟩ (fun _ => rfl)
set_option maxHeartbeats 16000000 in
set_option maxRecDepth 100000 in
theorem fitsD_c (i : Sl) (xs : List UInt8) (w : World) (h : At w [slo i cByte 1 xs]) (hb : xs.length ≤ 4294967296) :
   Calls Tryz.prog 17 #[i.val xs.length] w (Ret w PairR) := by
 have ht : (xs.take 2000).length ≤ 2000 := by simp; omega
 refine calls1 Tryz.func17 rfl tabOk w _ rfl _ rfl _ h ⟨rfl, rfl, trivial⟩ _ (by decide) ?_
 refine stop_callN _ 139 2 cl39 rfl rfl rfl rfl ⟨rfl, rfl⟩ (fun A w hW => (open_c i xs w ⟨z27, trivial⟩ hb)) ?_
 rintro cs L ⟨rfl, rfl⟩
 refine stop_callP _ cl40 rfl rfl rfl rfl ⟨rfl, rfl⟩ rfl rfl (fun A w ga hga hW hblk => (draw7_c ga (openI i xs) (xs.take 2000) _ w hblk ⟨z29, trivial⟩ ht (by omega))) ?_
 rintro v cs L ⟨q, y, n, p1, rfl, ok, hr, hn, rfl, hp1, rfl⟩
 have near := hr.near ok (by omega)
 refine draw_start tabOk z86 z86 z86 200 [((3, 0), .v (q.h0.val q.sems.length)), ((3, 1), .v (q.h1.val q.groups.length)), ((3, 2), .v (q.h2.val q.barriers.length)), ((3, 3), .v (q.h3.val q.rooms.length)), ((3, 4), .v (q.h4.val q.threads.length)), ((4, 0), .v (y.h0.val y.places.length)), ((4, 1), .v (y.h1.val y.status.length)), ((4, 2), .v (y.h2.val y.sems.length)), ((4, 3), .v (y.h3.val y.onces.length)), ((4, 4), .v (y.h4.val y.groups.length)), ((4, 5), .v (y.h5.val y.barriers.length)), ((4, 6), .v (y.h6.val y.chans.length)), ((4, 7), .v (y.h7.val y.said.length)), ((4, 8), .v (.int .i64 y.fault))] [] [] z88 z90 trivial rfl ?_
 refine d_callP _ cl43 rfl rfl rfl rfl ⟨rfl, rfl⟩ rfl rfl rfl (fun A w ga hga hW hblk => (wrong7_c ga (openI i xs) (xs.take 2000) _ y 0 w hblk ⟨z29, hW.getP _ hga rfl 1 rfl (fN_fR _), trivial⟩ ht (by omega) near (by omega))) ?_
 rintro v cs L ⟨y2, p2, rfl, n2, rfl, hp2, rfl⟩
 refine d_callP _ cl43 rfl rfl rfl rfl ⟨rfl, rfl⟩ rfl rfl rfl (fun A w ga hga hW hblk => (wrong7_c ga (openI i xs) (xs.take 2000) _ y2 1 w hblk ⟨z29, hW.getP _ hga rfl 0 rfl (fN_fR _), trivial⟩ ht (by omega) n2 (by omega))) ?_
 rintro v cs L ⟨y3, p3, rfl, n3, rfl, hp3, rfl⟩
 exact retw [2, 0] ⟨q, y3, rfl, ok, n3, rfl⟩ z108 rfl ⟨rfl, rfl, trivial⟩ (fun _ => rfl)
set_option maxHeartbeats 16000000 in
set_option maxRecDepth 100000 in
theorem sameD_c (i : Sl) (xs : List UInt8) (w : World) (h : At w [slo i cByte 1 xs]) (hb : xs.length ≤ 4294967296) :
   Calls Tryz.prog 14 #[i.val xs.length] w (Ret w TwoR) := by
 have ht : (xs.take 2000).length ≤ 2000 := by simp; omega
 refine calls1 Tryz.func14 rfl tabOk w _ rfl _ rfl _ h ⟨rfl, rfl, trivial⟩ _ (by decide) ?_
 refine stop_callN _ 139 2 cl39 rfl rfl rfl rfl ⟨rfl, rfl⟩ (fun A w hW => (open_c i xs w ⟨z27, trivial⟩ hb)) ?_
 rintro cs L ⟨rfl, rfl⟩
 refine stop_callP _ cl40 rfl rfl rfl rfl ⟨rfl, rfl⟩ rfl rfl (fun A w ga hga hW hblk => (draw7_c ga (openI i xs) (xs.take 2000) _ w hblk ⟨z29, trivial⟩ ht (by omega))) ?_
 rintro v cs L ⟨q, y, n, p1, rfl, ok, hr, hn, rfl, hp1, rfl⟩
 have near := hr.near ok (by omega)
 refine stop_callP _ cl41 rfl rfl rfl rfl ⟨rfl, rfl⟩ rfl rfl (fun A w ga hga hW hblk => (pick_c ga (openI i xs) (xs.take 2000) _ _ w hblk ⟨z29, trivial⟩ ht (by omega))) ?_
 rintro v cs L ⟨k, rfl, _, _, rfl, rfl⟩
 refine CaseB.mk (fun g1 => ?_) (fun g1 => ?_)
 · refine draw_start tabOk z86 z86 z86 200 [((3, 0), .v (q.h0.val q.sems.length)), ((3, 1), .v (q.h1.val q.groups.length)), ((3, 2), .v (q.h2.val q.barriers.length)), ((3, 3), .v (q.h3.val q.rooms.length)), ((3, 4), .v (q.h4.val q.threads.length)), ((4, 0), .v (y.h0.val y.places.length)), ((4, 1), .v (y.h1.val y.status.length)), ((4, 2), .v (y.h2.val y.sems.length)), ((4, 3), .v (y.h3.val y.onces.length)), ((4, 4), .v (y.h4.val y.groups.length)), ((4, 5), .v (y.h5.val y.barriers.length)), ((4, 6), .v (y.h6.val y.chans.length)), ((4, 7), .v (y.h7.val y.said.length)), ((4, 8), .v (.int .i64 y.fault))] [] [] z88 z90 trivial rfl ?_
   refine d_callP _ cl42 rfl rfl rfl rfl ⟨rfl, rfl⟩ rfl rfl rfl (fun A w ga hga hW hblk => (walk7_c ga (openI i xs) (xs.take 2000) _ q 3 w hblk ⟨z29, hW.getP _ hga rfl 0 rfl (.O_R fun _ h => h), trivial⟩ ht (by omega) ok (by omega))) ?_
   rintro v cs L ⟨y2, n2, p2, rfl, hr2, hn2, rfl, hp2, rfl⟩
   exact retw [2, 0] ⟨y, y2, rfl, near.sm, (hr2.near ok (by omega)).sm, rfl⟩ z108 rfl ⟨rfl, rfl, trivial⟩ (fun _ => rfl)
 refine draw_start tabOk z86 z86 z86 200 [((3, 0), .v (q.h0.val q.sems.length)), ((3, 1), .v (q.h1.val q.groups.length)), ((3, 2), .v (q.h2.val q.barriers.length)), ((3, 3), .v (q.h3.val q.rooms.length)), ((3, 4), .v (q.h4.val q.threads.length)), ((4, 0), .v (y.h0.val y.places.length)), ((4, 1), .v (y.h1.val y.status.length)), ((4, 2), .v (y.h2.val y.sems.length)), ((4, 3), .v (y.h3.val y.onces.length)), ((4, 4), .v (y.h4.val y.groups.length)), ((4, 5), .v (y.h5.val y.barriers.length)), ((4, 6), .v (y.h6.val y.chans.length)), ((4, 7), .v (y.h7.val y.said.length)), ((4, 8), .v (.int .i64 y.fault))] [] [] z88 z90 trivial rfl ?_
 refine d_callP _ cl43 rfl rfl rfl rfl ⟨rfl, rfl⟩ rfl rfl rfl (fun A w ga hga hW hblk => (wrong7_c ga (openI i xs) (xs.take 2000) _ y 0 w hblk ⟨z29, hW.getP _ hga rfl 1 rfl (fN_fR _), trivial⟩ ht (by omega) near (by omega))) ?_
 rintro v cs L ⟨y2, p2, rfl, n2, rfl, hp2, rfl⟩
 refine d_callP _ cl43 rfl rfl rfl rfl ⟨rfl, rfl⟩ rfl rfl rfl (fun A w ga hga hW hblk => (wrong7_c ga (openI i xs) (xs.take 2000) _ y2 1 w hblk ⟨z29, hW.getP _ hga rfl 0 rfl (fN_fR _), trivial⟩ ht (by omega) n2 (by omega))) ?_
 rintro v cs L ⟨y3, p3, rfl, n3, rfl, hp3, rfl⟩
 exact retw [3, 0] ⟨y, y3, rfl, near.sm, n3.sm, rfl⟩ z108 rfl ⟨rfl, rfl, trivial⟩ (fun _ => rfl)
theorem threadOk_st {ops : List Op} {a s1 s2 : Int} {w : List Waiting} {o : List Int} (h1 : ThreadOk ops a s1 w o) (h2 : ThreadOk ops a s2 w o) : s1 = s2 := by
 obtain ⟨a0, a1, h1⟩ := h1
 obtain ⟨_, _, h2⟩ := h2
 rcases h1 with ⟨e1, rfl, w1, o1⟩ | ⟨op1, g1, ⟨rfl, w1, o1⟩ | ⟨rfl, o1, w1⟩ | ⟨rfl, w1, k1, o1⟩⟩ <;> rcases h2 with ⟨e2, rfl, w2, o2⟩ | ⟨op2, g2, ⟨rfl, w2, o2⟩ | ⟨rfl, o2, w2⟩ | ⟨rfl, w2, k2, o2⟩⟩ <;>
   first
   | rfl
   | (rw [w1] at w2; cases w2; done)
   | (rw [o1] at o2; cases o2; done)
   | (have := (List.getElem?_eq_some_iff.1 g1).1; omega)
   | (have := (List.getElem?_eq_some_iff.1 g2).1; omega)
theorem status_moved {p : Prog} {s : State} (ft : Fits p s) {i : Nat} (hi : i < s.status.length) {v : Int} (hv : v ≠ s.status[i]) : ¬ Fits p { s with status := s.status.set i v } := by
 intro f2
 have hp : i < p.threads.length := by rw [← ft.ns]; exact hi
 have hq : i < s.places.length := by rw [ft.np]; exact hp
 have h1 := ft.threads i _ _ _ (List.getElem?_eq_getElem hp) (List.getElem?_eq_getElem hq) (List.getElem?_eq_getElem hi)
 have h2 := f2.threads i _ _ v (List.getElem?_eq_getElem hp) (List.getElem?_eq_getElem hq) (by simp [hi])
 exact hv (threadOk_st h2 h1)
theorem status_in {p : Prog} {s : State} (ft : Fits p s) {i : Nat} (hi : i < s.status.length) : 0 ≤ s.status[i] ∧ s.status[i] ≤ 3 := by
 have hp : i < p.threads.length := by rw [← ft.ns]; exact hi
 have hq : i < s.places.length := by rw [ft.np]; exact hp
 obtain ⟨_, _, h⟩ := ft.threads i _ _ _ (List.getElem?_eq_getElem hp) (List.getElem?_eq_getElem hq) (List.getElem?_eq_getElem hi)
 rcases h with ⟨_, h, _⟩ | ⟨_, _, ⟨h, _⟩ | ⟨h, _⟩ | ⟨h, _⟩⟩ <;> omega
theorem readyM_iff {s : State} {t : Int} : t ∈ readyM s ↔ s.fault = 0 ∧ ∃ (k : Nat) (st : Int), t = k ∧ s.status[k]? = some st ∧ (st = 0 ∨ st = 2) := by
 refine ⟨readyM_mem, fun ⟨hf, k, st, e, h1, h2⟩ => ?_⟩
 rw [readyM, if_pos hf]
 exact evL_mem2.2 ⟨k, st, h1, by rw [evReady, if_pos h2, e]; simp⟩
theorem over_one {p : Prog} {s : State} (ft : Fits p s) {b1 b2 b3 b4 : Bool} (h1 : b1 = true ↔ Over p s) (h2 : b2 = true ↔ Stuck p s) (h3 : b3 = true ↔ s.fault ≠ 0) (h4 : b4 = true ↔ readyM s ≠ []) :
   (if b1 then 1 else 0) + (if b2 then 1 else 0) + (if b3 then 1 else 0) + (if b4 then 1 else 0) = 1 := by
 by_cases hf : s.fault = 0
 · have e3 : b3 = false := by cases b3; rfl; exact (h3.1 rfl hf).elim
   by_cases hr : readyM s = []
   · have e4 : b4 = false := by cases b4; rfl; exact (h4.1 rfl hr).elim
     by_cases ha : ∀ x ∈ s.status, x = 3
     · have e1 : b1 = true := h1.2 ⟨ft, hf, ha⟩
       have e2 : b2 = false := by cases b2; rfl; exact ((h2.1 rfl).2.2.2 ha).elim
       simp [e1, e2, e3, e4]
     · have e1 : b1 = false := by cases b1; rfl; exact (ha (h1.1 rfl).2.2).elim
       have e2 : b2 = true := h2.2 ⟨ft, hf, hr, ha⟩
       simp [e1, e2, e3, e4]
   · have e4 : b4 = true := h4.2 hr
     have e2 : b2 = false := by cases b2; rfl; exact (hr (h2.1 rfl).2.2.1).elim
     have e1 : b1 = false := by
       cases b1
       · rfl
       obtain ⟨x, hx⟩ := List.exists_mem_of_ne_nil _ hr
       obtain ⟨_, k, st, _, h5, h6⟩ := readyM_mem hx
       have := (h1.1 rfl).2.2 st (List.mem_of_getElem? h5)
       omega
     simp [e1, e2, e3, e4]
 · have e3 : b3 = true := h3.2 hf
   have e4 : b4 = false := by cases b4; rfl; exact (h4.1 rfl (by rw [readyM, if_neg hf])).elim
   have e1 : b1 = false := by cases b1; rfl; exact (hf (h1.1 rfl).2.1).elim
   have e2 : b2 = false := by cases b2; rfl; exact (hf (h2.1 rfl).2.1).elim
   simp [e1, e2, e3, e4]
theorem evReady_lt : ∀ (xs : List Int) (i : Nat), (evL evReady i xs).Pairwise (· < ·) ∧ ∀ t ∈ evL evReady i xs, (i : Int) ≤ t
 | [], i => by simp [evL]
 | x :: r, i => by
   obtain ⟨h1, h2⟩ := evReady_lt r (i + 1)
   have h3 : ∀ t ∈ evL evReady (i + 1) r, (i : Int) + 1 ≤ t := fun t ht => by have := h2 t ht; omega
   rw [evL, evReady]
   split
   · refine ⟨?_, fun t ht => ?_⟩
     · rw [List.singleton_append, List.pairwise_cons]
       exact ⟨fun t ht => by have := h3 t ht; omega, h1⟩
     · rcases List.mem_append.1 ht with ht | ht
       · rw [List.mem_singleton.1 ht]; exact Int.le_refl _
       · have := h3 t ht; omega
   · refine ⟨by simpa using h1, fun t ht => ?_⟩
     have := h3 t (by simpa using ht); omega
theorem readyM_lt (s : State) : (readyM s).Pairwise (· < ·) := by
 rw [readyM]
 split
 · exact (evReady_lt _ _).1
 · exact List.Pairwise.nil
open Classical in
noncomputable def endM (p : Prog) (s : State) : ByteArray :=
 if ¬ Fits p s then ⟨#[]⟩ else if s.fault ≠ 0 then ⟨#[102, 97, 117, 108, 116]⟩ else if ∀ x ∈ s.status, x = 3 then ⟨#[111, 118, 101, 114]⟩ else if readyM s = [] then ⟨#[115, 116, 117, 99, 107]⟩ else ⟨#[111, 112, 101, 110]⟩
set_option maxHeartbeats 4000000 in
set_option maxRecDepth 100000 in
theorem endOf_c (p : ProgH) (s : StateH) (w : World) (h : At w [fR (progO p), fR (stateO s)]) (hp : p.pure.small20) (hs : s.pure.small20) :
   Calls Tryz.prog 33 #[progV p, stateV s] w (Ret w fun v L => v = .string (endM p.pure s.pure) ∧ L = []) := by
 have hb : s.status.length ≤ 1048576 := hs.2.1
 refine calls2 Tryz.func33 rfl tabOk w _ rfl _ rfl _ h ⟨rfl, rfl, rfl, rfl, trivial⟩ _ _ (by decide) ?_
 refine stop_call _ cl18 rfl rfl rfl rfl ⟨rfl, rfl⟩ (fun A w hW => stateFits_c p s w ⟨hW.get 0 rfl (.refl _), hW.get 1 rfl (.refl _), trivial⟩ hp hs) ?_
 rintro v L ⟨b, rfl, hbb, rfl⟩
 apply CaseB.mk <;> intro g
 · have n : ¬ Fits p.pure s.pure := fun e => by rw [hbb.2 e] at g; cases g
   exact ret0 ⟨by rw [endM, if_pos n], rfl⟩ (fun _ => rfl)
 have ft := hbb.1 z82
 apply CaseB.mk <;> intro g
 · have f0 : s.pure.fault ≠ 0 := by have g' : ¬ s.fault = 0 := by simpa using g
                                    exact g'
   exact ret0 ⟨by rw [endM, if_neg (not_not_intro ft), if_pos f0], rfl⟩ (fun _ => rfl)
 have f0 : ¬ s.pure.fault ≠ 0 := by have g' : s.fault = 0 := by simpa using g
                                    exact not_not_intro g'
 refine stop_call _ cl25 rfl rfl rfl rfl ⟨rfl, rfl⟩ (fun A w hW => isOver_c p s w ⟨hW.get 0 rfl (.refl _), hW.get 1 rfl (.refl _), trivial⟩ hp hs) ?_
 rintro v L ⟨b2, rfl, hb2, rfl⟩
 apply CaseB.mk <;> intro g
 · have o := (hb2.1 g).2.2
   exact ret0 ⟨by rw [endM, if_neg (not_not_intro ft), if_neg f0, if_pos o], rfl⟩ (fun _ => rfl)
 have o : ¬ ∀ x ∈ s.pure.status, x = 3 := fun e => by rw [hb2.2 ⟨ft, Classical.not_not.1 f0, e⟩] at g; cases g
 refine stop_call _ cl23 rfl rfl rfl rfl ⟨rfl, rfl⟩ (fun A w hW => isStuck_c p s w ⟨hW.get 0 rfl (.refl _), hW.get 1 rfl (.refl _), trivial⟩ hp hs) ?_
 rintro v L ⟨b3, rfl, hb3, rfl⟩
 apply CaseB.mk <;> intro g
 · have r := (hb3.1 g).2.2.1
   exact ret0 ⟨by rw [endM, if_neg (not_not_intro ft), if_neg f0, if_neg o, if_pos r], rfl⟩ (fun _ => rfl)
 have r : ¬ readyM s.pure = [] := fun e => by rw [hb3.2 ⟨ft, Classical.not_not.1 f0, e, o⟩] at g; cases g
 exact ret0 ⟨by rw [endM, if_neg (not_not_intro ft), if_neg f0, if_neg o, if_neg r], rfl⟩ (fun _ => rfl)
set_option maxHeartbeats 4000000 in
set_option maxRecDepth 100000 in
theorem endOfS_c (p : ProgH) (s : StateH) (w : World) (h : At w [fR (progO p), fR (stateO s)]) (hp : p.pure.small20) (hs : s.pure.small20) :
   Calls Tryz.prog 34 #[progV p, stateV s] w (Ret w fun v L => v = .string (endM p.pure s.pure) ∧ L = []) := by
 have hb : s.status.length ≤ 1048576 := hs.2.1
 refine calls2 Tryz.func34 rfl tabOk w _ rfl _ rfl _ h ⟨rfl, rfl, rfl, rfl, trivial⟩ _ _ (by decide) ?_
 refine stop_call _ cl19 rfl rfl rfl rfl ⟨rfl, rfl⟩ (fun A w hW => stateFitsS_c p s w ⟨hW.get 0 rfl (.refl _), hW.get 1 rfl (.refl _), trivial⟩ hp hs) ?_
 rintro v L ⟨b, rfl, hbb, rfl⟩
 apply CaseB.mk <;> intro g
 · have n : ¬ Fits p.pure s.pure := fun e => by rw [hbb.2 e] at g; cases g
   exact ret0 ⟨by rw [endM, if_pos n], rfl⟩ (fun _ => rfl)
 have ft := hbb.1 z82
 apply CaseB.mk <;> intro g
 · have f0 : s.pure.fault ≠ 0 := by have g' : ¬ s.fault = 0 := by simpa using g
                                    exact g'
   exact ret0 ⟨by rw [endM, if_neg (not_not_intro ft), if_pos f0], rfl⟩ (fun _ => rfl)
 have f0 : ¬ s.pure.fault ≠ 0 := by have g' : s.fault = 0 := by simpa using g
                                    exact not_not_intro g'
 refine stop_call _ cl26 rfl rfl rfl rfl ⟨rfl, rfl⟩ (fun A w hW => isOverS_c p s w ⟨hW.get 0 rfl (.refl _), hW.get 1 rfl (.refl _), trivial⟩ hp hs) ?_
 rintro v L ⟨b2, rfl, hb2, rfl⟩
 apply CaseB.mk <;> intro g
 · have o := (hb2.1 g).2.2
   exact ret0 ⟨by rw [endM, if_neg (not_not_intro ft), if_neg f0, if_pos o], rfl⟩ (fun _ => rfl)
 have o : ¬ ∀ x ∈ s.pure.status, x = 3 := fun e => by rw [hb2.2 ⟨ft, Classical.not_not.1 f0, e⟩] at g; cases g
 refine stop_call _ cl75 rfl rfl rfl rfl ⟨rfl, rfl⟩ (fun A w hW => readyS_c s w ⟨hW.get 1 rfl (.refl _), trivial⟩ hb) ?_
 rintro v L ⟨y, rfl, rfl⟩
 apply CaseB.mk <;> intro g
 · have r : readyM s.pure = [] := List.eq_nil_of_length_eq_zero (have g' : ((readyM s.pure).length : Int) = 0 := z82; by omega)
   exact ret0 ⟨by rw [endM, if_neg (not_not_intro ft), if_neg f0, if_neg o, if_pos r], rfl⟩ (fun _ => rfl)
 have r : ¬ readyM s.pure = [] := fun e => by rw [e] at g; simp at g
 exact ret0 ⟨by rw [endM, if_neg (not_not_intro ft), if_neg f0, if_neg o, if_neg r], rfl⟩ (fun _ => rfl)
open Classical in
noncomputable def waitsM (p : Prog) (s : State) (t : Int) : Op × Bool :=
 if Fits p s ∧ 0 ≤ t ∧ s.status[t.toNat]? = some 1 then (((p.threads.getD t.toNat []).getD (s.places.getD t.toNat 0).toNat ⟨0, 0, 0⟩), true) else (⟨0, 0, 0⟩, false)
theorem waitsM_no {p : Prog} {s : State} {t : Int} (h : ¬ (Fits p s ∧ 0 ≤ t ∧ s.status[t.toNat]? = some 1)) : waitsM p s t = (⟨0, 0, 0⟩, false) := if_neg h
set_option maxHeartbeats 4000000 in
set_option maxRecDepth 100000 in
theorem waitsFor_c (p : ProgH) (s : StateH) (t : Int) (w : World) (h : At w [fR (progO p), fR (stateO s)]) (hp : p.pure.small20) (hs : s.pure.small20) :
   Calls Tryz.prog 21 #[progV p, stateV s, .int .i64 t] w (Ret w fun v L => v = .tuple #[.agg (cOp (waitsM p.pure s.pure t).1).toArray, .bool (waitsM p.pure s.pure t).2] ∧ L = []) := by
 have hb : s.status.length ≤ 1048576 := hs.2.1
 refine calls3 Tryz.func21 rfl tabOk w _ rfl _ rfl _ h ⟨rfl, rfl, rfl, rfl, trivial⟩ _ _ _ (by decide) ?_
 refine stop_call _ cl18 rfl rfl rfl rfl ⟨rfl, rfl⟩ (fun A w hW => stateFits_c p s w ⟨hW.get 0 rfl (.refl _), hW.get 1 rfl (.refl _), trivial⟩ hp hs) ?_
 rintro v L ⟨b, rfl, hbb, rfl⟩
 apply CaseB.mk <;> intro g
 · have n : ¬ Fits p.pure s.pure := fun e => by rw [hbb.2 e] at g; cases g
   exact ret0 ⟨by rw [waitsM_no fun e => n e.1], rfl⟩ (fun _ => rfl)
 have ft := hbb.1 z82
 apply CaseB.mk <;> intro g
 · have n : ¬ 0 ≤ t := by have g' := of_decide_eq_true g; omega
   exact ret0 ⟨by rw [waitsM_no fun e => n e.2.1], rfl⟩ (fun _ => rfl)
 have t0 : 0 ≤ t := by have g' := of_decide_eq_false g; omega
 obtain ⟨k, rfl⟩ : ∃ k : Nat, t = (k : Int) := ⟨_, (Int.toNat_of_nonneg t0).symm⟩
 apply CaseB.mk <;> intro g
 · have n : ¬ k < s.status.length := by have g' := of_decide_eq_true g; omega
   have hno : ¬ (Fits p.pure s.pure ∧ 0 ≤ (k : Int) ∧ s.pure.status[(k : Int).toNat]? = some 1) := fun e => n (List.getElem?_eq_some_iff.1 (show s.status[k]? = some 1 from e.2.2)).1
   exact ret0 ⟨by rw [waitsM_no hno], rfl⟩ (fun _ => rfl)
 have hk : k < s.status.length := by have g' := of_decide_eq_false g; omega
 refine stop_idx encInt tabOk rfl rfl rfl rfl rfl ⟨rfl, rfl⟩ (rdVia 1 rfl (.ofR (stateO_status s))) k rfl z34 (fun ad => ?_)
 apply CaseB.mk <;> intro g
 · have n : ¬ s.status[k] = 1 := by simpa using g
   have hno : ¬ (Fits p.pure s.pure ∧ 0 ≤ (k : Int) ∧ s.pure.status[(k : Int).toNat]? = some 1) := fun e => n (List.getElem?_eq_some_iff.1 (show s.status[k]? = some 1 from e.2.2)).2
   exact ret0 ⟨by rw [waitsM_no hno], rfl⟩ (fun _ => rfl)
 have s1 : s.status[k] = 1 := by simpa using g
 have ns := ft.ns
 have np := ft.np
 have lt : p.pure.threads.length = p.threads.length := by simp [ProgH.pure]
 have ls : s.pure.status.length = s.status.length := rfl
 have lp : s.pure.places.length = s.places.length := rfl
 have hkt : k < p.threads.length := by omega
 have hkp : k < s.places.length := by omega
 have hth : p.pure.threads[k]? = some (p.threads[k]).m := by simp [ProgH.pure, hkt]
 have hpl : s.pure.places[k]? = some s.places[k] := List.getElem?_eq_getElem hkp
 have hst : s.pure.status[k]? = some 1 := by rw [← s1]; exact List.getElem?_eq_getElem hk
 obtain ⟨a0, a1, h4⟩ := ft.threads k _ _ _ hth hpl hst
 have hz : s.places[k] = ((s.places[k]).toNat : Int) := (Int.toNat_of_nonneg a0).symm
 obtain ⟨op, hop⟩ : ∃ op, (p.threads[k]).m[(s.places[k]).toNat]? = some op := by
   rcases h4 with ⟨_, e, _⟩ | ⟨op, e, _⟩
   · exact absurd e (by decide)
   · exact ⟨op, e⟩
 have hlo := (List.getElem?_eq_some_iff.1 hop).1
 have hopg : (p.threads[k]).m[(s.places[k]).toNat] = op := (List.getElem?_eq_some_iff.1 hop).2
 have hM : waitsM p.pure s.pure (k : Int) = (op, true) := by
   rw [waitsM, if_pos ⟨ft, by omega, hst⟩]
   show (((p.pure.threads.getD k []).getD (s.pure.places.getD k 0).toNat ⟨0, 0, 0⟩), true) = _
   rw [List.getD_eq_getElem?_getD, List.getD_eq_getElem?_getD, List.getD_eq_getElem?_getD, hth, hpl]
   simp only [Option.getD_some, hop]
 refine draw_start tabOk z86 z86 z86 200 [((0, 4), .v (p.h4.val p.threads.length)), ((1, 0), .v (s.h0.val s.places.length))] [0, 1] [_, _] z105 z114 ⟨rfl, rfl, trivial⟩ rfl ?_
 refine d_idx (ti := tiOf tab) encOpSH tabOk rfl rfl rfl rfl rfl ⟨rfl, rfl⟩ (rdVia 0 rfl (.trans (.R_R (progO_threads p)) (.ofR nest_h))) k rfl z34 (fun ad1 => ?_)
 refine d_idx (ti := tiOf tab) encInt tabOk rfl rfl rfl rfl rfl ⟨rfl, rfl⟩ (rdVia 1 rfl (.ofR (stateO_places s))) k rfl z34 (fun ad2 => ?_)
 refine d_idx (ti := tiOf tab) encOp tabOk rfl rfl rfl rfl rfl ⟨rfl, rfl⟩ (rdVia 0 rfl (.trans (.R_R (progO_threads p)) (.ofR (threadsO_0 _ _ k hkt)))) (s.places[k]).toNat hz z34 (fun ad3 => ?_)
 rw [hopg]
 exact ret0 ⟨by rw [hM], rfl⟩ (fun _ => rfl)
set_option maxHeartbeats 4000000 in
set_option maxRecDepth 100000 in
theorem waitsForS_c (p : ProgH) (s : StateH) (t : Int) (w : World) (h : At w [fR (progO p), fR (stateO s)]) (hp : p.pure.small20) (hs : s.pure.small20) :
   Calls Tryz.prog 22 #[progV p, stateV s, .int .i64 t] w (Ret w fun v L => v = .tuple #[.agg (cOp (waitsM p.pure s.pure t).1).toArray, .bool (waitsM p.pure s.pure t).2] ∧ L = []) := by
 have hb : s.status.length ≤ 1048576 := hs.2.1
 refine calls3 Tryz.func22 rfl tabOk w _ rfl _ rfl _ h ⟨rfl, rfl, rfl, rfl, trivial⟩ _ _ _ (by decide) ?_
 refine stop_call _ cl19 rfl rfl rfl rfl ⟨rfl, rfl⟩ (fun A w hW => stateFitsS_c p s w ⟨hW.get 0 rfl (.refl _), hW.get 1 rfl (.refl _), trivial⟩ hp hs) ?_
 rintro v L ⟨b, rfl, hbb, rfl⟩
 apply CaseB.mk <;> intro g
 · have n : ¬ Fits p.pure s.pure := fun e => by rw [hbb.2 e] at g; cases g
   exact ret0 ⟨by rw [waitsM_no fun e => n e.1], rfl⟩ (fun _ => rfl)
 have ft := hbb.1 z82
 apply CaseB.mk <;> intro g
 · have n : ¬ 0 ≤ t := by have g' := of_decide_eq_true g; omega
   exact ret0 ⟨by rw [waitsM_no fun e => n e.2.1], rfl⟩ (fun _ => rfl)
 have t0 : 0 ≤ t := by have g' := of_decide_eq_false g; omega
 obtain ⟨k, rfl⟩ : ∃ k : Nat, t = (k : Int) := ⟨_, (Int.toNat_of_nonneg t0).symm⟩
 apply CaseB.mk <;> intro g
 · have n : ¬ k < s.status.length := by have g' := of_decide_eq_true g; omega
   have hno : ¬ (Fits p.pure s.pure ∧ 0 ≤ (k : Int) ∧ s.pure.status[(k : Int).toNat]? = some 1) := fun e => n (List.getElem?_eq_some_iff.1 (show s.status[k]? = some 1 from e.2.2)).1
   exact ret0 ⟨by rw [waitsM_no hno], rfl⟩ (fun _ => rfl)
 have hk : k < s.status.length := by have g' := of_decide_eq_false g; omega
 refine stop_idx encInt tabOk rfl rfl rfl rfl rfl ⟨rfl, rfl⟩ (rdVia 1 rfl (.ofR (stateO_status s))) k rfl z34 (fun ad => ?_)
 apply CaseB.mk <;> intro g
 · have n : ¬ s.status[k] = 1 := by simpa using g
   have hno : ¬ (Fits p.pure s.pure ∧ 0 ≤ (k : Int) ∧ s.pure.status[(k : Int).toNat]? = some 1) := fun e => n (List.getElem?_eq_some_iff.1 (show s.status[k]? = some 1 from e.2.2)).2
   exact ret0 ⟨by rw [waitsM_no hno], rfl⟩ (fun _ => rfl)
 have s1 : s.status[k] = 1 := by simpa using g
 have ns := ft.ns
 have np := ft.np
 have lt : p.pure.threads.length = p.threads.length := by simp [ProgH.pure]
 have ls : s.pure.status.length = s.status.length := rfl
 have lp : s.pure.places.length = s.places.length := rfl
 have hkt : k < p.threads.length := by omega
 have hkp : k < s.places.length := by omega
 have hth : p.pure.threads[k]? = some (p.threads[k]).m := by simp [ProgH.pure, hkt]
 have hpl : s.pure.places[k]? = some s.places[k] := List.getElem?_eq_getElem hkp
 have hst : s.pure.status[k]? = some 1 := by rw [← s1]; exact List.getElem?_eq_getElem hk
 obtain ⟨a0, a1, h4⟩ := ft.threads k _ _ _ hth hpl hst
 have hz : s.places[k] = ((s.places[k]).toNat : Int) := (Int.toNat_of_nonneg a0).symm
 obtain ⟨op, hop⟩ : ∃ op, (p.threads[k]).m[(s.places[k]).toNat]? = some op := by
   rcases h4 with ⟨_, e, _⟩ | ⟨op, e, _⟩
   · exact absurd e (by decide)
   · exact ⟨op, e⟩
 have hlo := (List.getElem?_eq_some_iff.1 hop).1
 have hopg : (p.threads[k]).m[(s.places[k]).toNat] = op := (List.getElem?_eq_some_iff.1 hop).2
 have hM : waitsM p.pure s.pure (k : Int) = (op, true) := by
   rw [waitsM, if_pos ⟨ft, by omega, hst⟩]
   show (((p.pure.threads.getD k []).getD (s.pure.places.getD k 0).toNat ⟨0, 0, 0⟩), true) = _
   rw [List.getD_eq_getElem?_getD, List.getD_eq_getElem?_getD, List.getD_eq_getElem?_getD, hth, hpl]
   simp only [Option.getD_some, hop]
 refine draw_start tabOk z86 z86 z86 200 [((0, 4), .v (p.h4.val p.threads.length)), ((1, 0), .v (s.h0.val s.places.length))] [0, 1] [_, _] z105 z114 ⟨rfl, rfl, trivial⟩ rfl ?_
 refine d_idx (ti := tiOf tab) encOpSH tabOk rfl rfl rfl rfl rfl ⟨rfl, rfl⟩ (rdVia 0 rfl (.trans (.R_R (progO_threads p)) (.ofR nest_h))) k rfl z34 (fun ad1 => ?_)
 refine d_idx (ti := tiOf tab) encInt tabOk rfl rfl rfl rfl rfl ⟨rfl, rfl⟩ (rdVia 1 rfl (.ofR (stateO_places s))) k rfl z34 (fun ad2 => ?_)
 refine d_idx (ti := tiOf tab) encOp tabOk rfl rfl rfl rfl rfl ⟨rfl, rfl⟩ (rdVia 0 rfl (.trans (.R_R (progO_threads p)) (.ofR (threadsO_0 _ _ k hkt)))) (s.places[k]).toNat hz z34 (fun ad3 => ?_)
 rw [hopg]
 exact ret0 ⟨by rw [hM], rfl⟩ (fun _ => rfl)
end Go.Proofs.YtjkkoonennpceaaGreat
