/- FnStepOthers: texts that its proof stands on, part 11. -/
import Derived.Test.YtjkkoonennpceaaGreatQStepOthersj
namespace Go.Proofs.YtjkkoonennpceaaGreat
open Go Go.Sx Go.RowKit
set_option maxRecDepth 100000 in
theorem of_c (g : Nat) (bi : Sl) (rb : List UInt8) (p : Nat) (i : Sl) (xs : List Str) (w : World) (hg : Blk w g 139 (rdrV bi rb p)) (h : AtP w g [slo bi cByte 1 rb, slo i cTxt 1 xs]) (hb : rb.length ≤ 2000) (hp : p < 1000000000) (h0 : 0 < xs.length) :
   Calls Tryz.prog 124 #[.pointer (some ⟨g, 0, none⟩), i.val xs.length] w (RetP w g 139 2 fun v cs L => ∃ x : Str, v = .string (bs x) ∧ x ∈ xs ∧ cs = rdrV bi rb (p + 1) ∧ L = []) := by
 refine callsP2 Tryz.func124 rfl tabOk w _ rfl _ rfl _ 139 _ 2 rfl hg _ h ⟨rfl, rfl, rfl, rfl, trivial⟩ _ (by decide) ?_
 refine stop_callP _ cl41 rfl rfl rfl rfl ⟨rfl, rfl⟩ rfl rfl (fun A w ga hga hW hblk => (pick_c ga bi rb p xs.length w hblk ⟨z28, trivial⟩ hb hp)) ?_
 rintro v cs L ⟨k, rfl, hk, _, rfl, rfl⟩
 have hlt : k < xs.length := by have := hk (by omega); omega
 refine stop_idx encTxt tabOk rfl rfl rfl rfl rfl ⟨rfl, rfl⟩ z30 k rfl z38 (fun ad => ?_)
 exact retP [] ⟨_, rfl, List.getElem_mem hlt, rfl, rfl⟩ rfl rfl trivial rfl trivial (fun _ => rfl)
set_option maxRecDepth 100000 in
theorem samples_c (w : World) : Calls Tryz.prog 125 #[] w (Ret w fun v L => ∃ y : Sl, v = y.val samplesL.length ∧ L = [own y 9 cTxt 1 samplesL]) := by
 refine calls0 Tryz.func125 rfl tabOk w _ rfl _ rfl [] trivial trivial  ?_
 refine AllSl.mk fun y => ?_
 exact retw [0] ⟨y, rfl, rfl⟩ z133 rfl ⟨rfl, trivial⟩ (fun _ => rfl)
set_option maxHeartbeats 8000000 in
set_option maxRecDepth 100000 in
theorem op6_c (g : Nat) (bi : Sl) (rb : List UInt8) (p : Nat) (q : ProgH) (w : World) (hg : Blk w g 139 (rdrV bi rb p)) (h : AtP w g [slo bi cByte 1 rb, fR (progO q)]) (hb : rb.length ≤ 2000) (hp : p < 1000000) :
   Calls Tryz.prog 126 #[.pointer (some ⟨g, 0, none⟩), progV q] w (RetP w g 139 2 fun v cs L => ∃ (o : Op) (p2 : Nat), v = .agg (cOp o).toArray ∧ OpOk q.pure o ∧ cs = rdrV bi rb p2 ∧ p2 ≤ p + 4 ∧ L = []) := by
 refine callsP2 Tryz.func126 rfl tabOk w _ rfl _ rfl _ 139 _ 2 rfl hg _ h ⟨rfl, rfl, rfl, rfl, trivial⟩ _ (by decide) ?_
 refine AllSl.mk fun l1 => ?_
 refine stop_callP _ cl71 rfl rfl rfl rfl ⟨rfl, rfl⟩ rfl rfl (fun A w ga hga hW hblk => (num_c ga bi rb _ _ [1, 2, 3, 4, 5, 6, 7, 8, 9, 10, 1, 2, 3] w hblk ⟨z28, z28, trivial⟩ hb (by omega) (by decide))) ?_
 rintro v cs L ⟨k, rfl, _, rfl, rfl⟩
 refine stop_callP _ cl41 rfl rfl rfl rfl ⟨rfl, rfl⟩ rfl rfl (fun A w ga hga hW hblk => (pick_c ga bi rb _ _ w hblk ⟨z28, trivial⟩ hb (by omega))) ?_
 rintro v cs L ⟨on, rfl, _, _, rfl, rfl⟩
 refine CaseB.mk (fun e2 => ?_) (fun e2 => ?_)
 refine CaseB.mk (fun _ => ?_) (fun h => by rw [e2] at h; cases h)
 refine AllSl.mk fun l2 => ?_
 refine stop_callP _ cl71 rfl rfl rfl rfl ⟨rfl, rfl⟩ rfl rfl (fun A w ga hga hW hblk => (num_c ga bi rb _ _ [1, 1, 2] w hblk ⟨z28, z28, trivial⟩ hb (by omega) (by decide))) ?_
 rintro v cs L ⟨a, rfl, _, rfl, rfl⟩
 rotate_left
 refine CaseB.mk (fun e3 => ?_) (fun e3 => ?_)
 refine AllSl.mk fun l2 => ?_
 refine stop_callP _ cl71 rfl rfl rfl rfl ⟨rfl, rfl⟩ rfl rfl (fun A w ga hga hW hblk => (num_c ga bi rb _ _ [1, 1, 2] w hblk ⟨z28, z28, trivial⟩ hb (by omega) (by decide))) ?_
 rintro v cs L ⟨a, rfl, _, rfl, rfl⟩
 rotate_left
 refine CaseB.mk (fun e5 => ?_) (fun e5 => ?_)
 refine AllSl.mk fun l2 => ?_
 refine stop_callP _ cl71 rfl rfl rfl rfl ⟨rfl, rfl⟩ rfl rfl (fun A w ga hga hW hblk => (num_c ga bi rb _ _ [-1, 1, -2] w hblk ⟨z28, z28, trivial⟩ hb (by omega) (by decide))) ?_
 rintro v cs L ⟨a, rfl, _, rfl, rfl⟩
 rotate_left
 refine CaseB.mk (fun e1 => ?_) (fun e1 => ?_)
 refine CaseB.mk (fun _ => ?_) (fun h => by rw [e1] at h; cases h)
 refine AllSl.mk fun l2 => ?_
 refine stop_callP _ cl71 rfl rfl rfl rfl ⟨rfl, rfl⟩ rfl rfl (fun A w ga hga hW hblk => (num_c ga bi rb _ _ [7, 1, 2, 99] w hblk ⟨z28, z28, trivial⟩ hb (by omega) (by decide))) ?_
 rintro v cs L ⟨a, rfl, _, rfl, rfl⟩
 rotate_left
 refine CaseB.mk (fun e4 => ?_) (fun e4 => ?_)
 refine CaseB.mk (fun _ => ?_) (fun h => by rw [e4] at h; cases h)
 refine AllSl.mk fun l2 => ?_
 refine stop_callP _ cl71 rfl rfl rfl rfl ⟨rfl, rfl⟩ rfl rfl (fun A w ga hga hW hblk => (num_c ga bi rb _ _ [7, 1, 2, 99] w hblk ⟨z28, z28, trivial⟩ hb (by omega) (by decide))) ?_
 rintro v cs L ⟨a, rfl, _, rfl, rfl⟩
 rotate_left
 refine CaseB.mk (fun e8 => ?_) (fun e8 => ?_)
 refine AllSl.mk fun l2 => ?_
 refine stop_callP _ cl71 rfl rfl rfl rfl ⟨rfl, rfl⟩ rfl rfl (fun A w ga hga hW hblk => (num_c ga bi rb _ _ [7, 1, 2, 99] w hblk ⟨z28, z28, trivial⟩ hb (by omega) (by decide))) ?_
 rintro v cs L ⟨a, rfl, _, rfl, rfl⟩
 rotate_left
 · refine stop_call _ cl112 rfl rfl rfl rfl ⟨rfl, rfl⟩ (fun A w hW => (opValidS_c q ⟨k, (on : Int), 0⟩ w ⟨hW.get 2 rfl (.refl _), trivial⟩)) ?_
   rintro v L ⟨b1, rfl, hb1, rfl⟩
   refine CaseB.mk (fun g1 => ?_) (fun g1 => ?_)
   · refine stop_call _ cl112 rfl rfl rfl rfl ⟨rfl, rfl⟩ (fun A w hW => (opValidS_c q ⟨k, 0, 0⟩ w ⟨hW.get 2 rfl (.refl _), trivial⟩)) ?_
     rintro v L ⟨b2, rfl, hb2, rfl⟩
     refine CaseB.mk (fun g2 => ?_) (fun g2 => ?_)
     · refine stop_callP _ cl41 rfl rfl rfl rfl ⟨rfl, rfl⟩ rfl rfl (fun A w ga hga hW hblk => (pick_c ga bi rb _ _ w hblk ⟨z28, trivial⟩ hb (by omega))) ?_
       rintro v cs L ⟨e, rfl, he, _, rfl, rfl⟩
       have he9 := he (by decide)
       exact retP [] ⟨⟨1, 0, (e : Int)⟩, _, rfl, (opOk1 rfl).2 ⟨rfl, by simp [isValue]; omega⟩, rfl, by omega, rfl⟩ rfl rfl trivial rfl trivial (fun _ => rfl)
     · exact retP [] ⟨⟨k, 0, 0⟩, _, rfl, hb2.1 z87, rfl, by omega, rfl⟩ rfl rfl trivial rfl trivial (fun _ => rfl)
   · have e1 : b1 = true := by simpa using g1
     refine stop_call _ cl112 rfl rfl rfl rfl ⟨rfl, rfl⟩ (fun A w hW => (opValidS_c q ⟨k, (on : Int), 0⟩ w ⟨hW.get 2 rfl (.refl _), trivial⟩)) ?_
     rintro v L ⟨b2, rfl, hb2, rfl⟩
     refine CaseB.mk (fun g2 => by rw [hb2.2 (hb1.1 e1)] at g2; cases g2) (fun _ => ?_)
     exact retP [] ⟨⟨k, (on : Int), 0⟩, _, rfl, hb1.1 e1, rfl, by omega, rfl⟩ rfl rfl trivial rfl trivial (fun _ => rfl)
 all_goals
   refine stop_call _ cl112 rfl rfl rfl rfl ⟨rfl, rfl⟩ (fun A w hW => (opValidS_c q ⟨k, (on : Int), a⟩ w ⟨hW.get 3 rfl (.refl _), trivial⟩)) ?_
   rintro v L ⟨b1, rfl, hb1, rfl⟩
   refine CaseB.mk (fun g1 => ?_) (fun g1 => ?_)
   · refine stop_call _ cl112 rfl rfl rfl rfl ⟨rfl, rfl⟩ (fun A w hW => (opValidS_c q ⟨k, 0, a⟩ w ⟨hW.get 3 rfl (.refl _), trivial⟩)) ?_
     rintro v L ⟨b2, rfl, hb2, rfl⟩
     refine CaseB.mk (fun g2 => ?_) (fun g2 => ?_)
     · refine stop_callP _ cl41 rfl rfl rfl rfl ⟨rfl, rfl⟩ rfl rfl (fun A w ga hga hW hblk => (pick_c ga bi rb _ _ w hblk ⟨z28, trivial⟩ hb (by omega))) ?_
       rintro v cs L ⟨e, rfl, he, _, rfl, rfl⟩
       have he9 := he (by decide)
       exact retP [] ⟨⟨1, 0, (e : Int)⟩, _, rfl, (opOk1 rfl).2 ⟨rfl, by simp [isValue]; omega⟩, rfl, by omega, rfl⟩ rfl rfl trivial rfl trivial (fun _ => rfl)
     · exact retP [] ⟨⟨k, 0, a⟩, _, rfl, hb2.1 z87, rfl, by omega, rfl⟩ rfl rfl trivial rfl trivial (fun _ => rfl)
   · have e1 : b1 = true := by simpa using g1
     refine stop_call _ cl112 rfl rfl rfl rfl ⟨rfl, rfl⟩ (fun A w hW => (opValidS_c q ⟨k, (on : Int), a⟩ w ⟨hW.get 3 rfl (.refl _), trivial⟩)) ?_
     rintro v L ⟨b2, rfl, hb2, rfl⟩
     refine CaseB.mk (fun g2 => by rw [hb2.2 (hb1.1 e1)] at g2; cases g2) (fun _ => ?_)
     exact retP [] ⟨⟨k, (on : Int), a⟩, _, rfl, hb1.1 e1, rfl, by omega, rfl⟩ rfl rfl trivial rfl trivial (fun _ => rfl)
def progR (q : ProgH) : List Fct := [own q.h0 3 cInt 1 q.sems, own q.h1 3 cInt 1 q.groups, own q.h2 3 cInt 1 q.barriers, own q.h3 3 cInt 1 q.rooms] ++ q.threads.flatMap opSO
theorem progO_out (q : ProgH) : (progO q).Perm ([own q.h4 47 cOpSH 1 q.threads] ++ progR q) :=
 (List.Perm.of_eq (by simp [progO, threadsO, nestO] : progO q = [own q.h0 3 cInt 1 q.sems, own q.h1 3 cInt 1 q.groups, own q.h2 3 cInt 1 q.barriers, own q.h3 3 cInt 1 q.rooms] ++ own q.h4 47 cOpSH 1 q.threads :: q.threads.flatMap opSO)).trans List.perm_middle
theorem progO_in (q : ProgH) (x : OpSH) (z : Sl) : ([own z 47 cOpSH 1 (q.threads ++ [x])] ++ (progR q ++ [own x.q 44 cOp 3 x.m])).Perm (progO { q with threads := q.threads ++ [x], h4 := z }) := by
 refine List.Perm.trans ?_ (progO_out { q with threads := q.threads ++ [x], h4 := z }).symm
 exact .of_eq (by simp [progR, opSO])
set_option maxHeartbeats 16000000 in
set_option maxRecDepth 100000 in
theorem draw6_c (g : Nat) (bi : Sl) (rb : List UInt8) (p : Nat) (w : World) (hg : Blk w g 139 (rdrV bi rb p)) (h : AtP w g [slo bi cByte 1 rb]) (hb : rb.length ≤ 2000) (hp : p < 100000) :
   Calls Tryz.prog 74 #[.pointer (some ⟨g, 0, none⟩)] w (RetP w g 139 2 fun v cs L => ∃ (q : ProgH) (p2 : Nat), v = progV q ∧ ProgOk q.pure ∧ cs = rdrV bi rb p2 ∧ p2 ≤ p + 100 ∧ L = [fO (progO q)]) := by
 refine callsP1 Tryz.func74 rfl tabOk w _ rfl _ rfl _ 139 _ 2 rfl hg _ h ⟨rfl, rfl, trivial⟩ (by decide) ?_
 refine stop_callP _ cl41 rfl rfl rfl rfl ⟨rfl, rfl⟩ rfl rfl (fun A w ga hga hW hblk => (pick_c ga bi rb _ _ w hblk ⟨z28, trivial⟩ hb (by omega))) ?_
 rintro v cs L ⟨k0, rfl, _, _, rfl, rfl⟩
 refine CaseB.mk (fun g0 => ?_) (fun g0 => ?_)
 · refine stop_call _ cl125 rfl rfl rfl rfl ⟨rfl, rfl⟩ (fun A w hW => (samples_c w)) ?_
   rintro v L ⟨y, rfl, rfl⟩
   refine stop_callP _ cl124 rfl rfl rfl rfl ⟨rfl, rfl⟩ rfl rfl (fun A w ga hga hW hblk => (of_c ga bi rb _ y samplesL w hblk ⟨z28, z28, trivial⟩ hb (by omega) (by decide))) ?_
   rintro v cs L ⟨x, rfl, hx, rfl, rfl⟩
   obtain ⟨hl, hok, hfm⟩ := samples_ok x hx
   refine stop_call _ cl123 rfl rfl rfl rfl ⟨rfl, rfl⟩ (fun A w hW => (parseProg_c x w (by omega) hok hfm)) ?_
   rintro v L ⟨q, rfl, hq, rfl⟩
   exact retP [0] ⟨q, _, rfl, by rw [hq]; exact hok, rfl, by omega, rfl⟩ rfl rfl z133 rfl ⟨rfl, trivial⟩ (fun _ => rfl)
 refine AllSl.mk fun l1 => ?_
 refine stop_callP _ cl71 rfl rfl rfl rfl ⟨rfl, rfl⟩ rfl rfl (fun A w ga hga hW hblk => (num_c ga bi rb _ _ [1, 2, 3] w hblk ⟨z28, z28, trivial⟩ hb (by omega) (by decide))) ?_
 rintro v cs L ⟨x0, rfl, hx0, rfl, rfl⟩
 refine AllSl.mk fun a0 => ?_
 refine AllSl.mk fun l2 => ?_
 refine stop_callP _ cl71 rfl rfl rfl rfl ⟨rfl, rfl⟩ rfl rfl (fun A w ga hga hW hblk => (num_c ga bi rb _ _ [1, 2, 0] w hblk ⟨z28, z28, trivial⟩ hb (by omega) (by decide))) ?_
 rintro v cs L ⟨x1, rfl, hx1, rfl, rfl⟩
 refine AllSl.mk fun a1 => ?_
 refine AllSl.mk fun a2 => ?_
 refine AllSl.mk fun l3 => ?_
 refine stop_callP _ cl71 rfl rfl rfl rfl ⟨rfl, rfl⟩ rfl rfl (fun A w ga hga hW hblk => (num_c ga bi rb _ _ [1, 0, 2] w hblk ⟨z28, z28, trivial⟩ hb (by omega) (by decide))) ?_
 rintro v cs L ⟨x2, rfl, hx2, rfl, rfl⟩
 refine AllSl.mk fun a3 => ?_
 refine stop_callP _ cl41 rfl rfl rfl rfl ⟨rfl, rfl⟩ rfl rfl (fun A w ga hga hW hblk => (pick_c ga bi rb _ _ w hblk ⟨z28, trivial⟩ hb (by omega))) ?_
 rintro v cs L ⟨k1, rfl, hk1, _, rfl, rfl⟩
 have hk2 := hk1 (by decide)
 have hn0 : IntKind.i64.wrap (2 + (k1 : Int)) = ((2 + k1 : Nat) : Int) := by rw [wrap_nn] <;> omega
 have ok0 : ProgOk (Prog.mk [x0, 1] [x1] [2] [x2] [[]]) := by
   simp only [List.mem_cons, List.not_mem_nil, or_false] at hx0 hx1 hx2
   refine ⟨⟨by simp, fun x hx => ?_⟩, ⟨by simp, fun x hx => ?_⟩, ⟨by simp, fun x hx => ?_⟩, ⟨by simp, fun x hx => ?_⟩, by simp, by simp, fun t ht => ?_⟩
   · simp at hx; omega
   · simp at hx; omega
   · simp at hx; omega
   · simp at hx; omega
   · simp at ht; subst ht; exact ⟨by simp, fun o ho => by cases ho⟩
 clear hx0 hx1 hx2
 refine LoopW.mk ⟨{ u : Nat × ProgH × Nat // u.1 + u.2.1.threads.length = 2 + k1 ∧ (∀ t ∈ u.2.1.threads, t.m.length ≤ 8 ∧ ∀ o ∈ t.m, OpOk (Prog.mk [x0, 1] [x1] [2] [x2] [[]]) o) ∧ (u.2.1.sems = [x0, 1] ∧ u.2.1.groups = [x1] ∧ u.2.1.barriers = [2] ∧ u.2.1.rooms = [x2]) ∧ u.2.2 ≤ p + 5 + 20 * u.2.1.threads.length },
   fun u => .mk [(0, .p 0 0), (2, .p 1 0), (5, .p 2 0), (6, .v (.int .i64 (u.1.1 : Int)))] 3 0 [(2, 37, 5), (1, 37, 5), (0, 139, 2)] [((0, 0), .v (bi.val rb.length)), ((0, 1), .v (.int .i64 (u.1.2.2 : Int))), ((2, 0), .v (u.1.2.1.h0.val u.1.2.1.sems.length)), ((2, 1), .v (u.1.2.1.h1.val u.1.2.1.groups.length)), ((2, 2), .v (u.1.2.1.h2.val u.1.2.1.barriers.length)), ((2, 3), .v (u.1.2.1.h3.val u.1.2.1.rooms.length)), ((2, 4), .v (u.1.2.1.h4.val u.1.2.1.threads.length))] [fO (progO u.1.2.1), slo bi cByte 1 rb],
   fun u => u.1.1, ⟨(2 + k1, ⟨[x0, 1], [x1], [2], [x2], [], a0, a1, a2, a3, ⟨none, 0⟩⟩, p + 5), rfl, fun t ht => (by cases ht), ⟨rfl, rfl, rfl, rfl⟩, Nat.le_refl _⟩, ?_, ?_⟩
 · refine weak_shift (.joinO [5, 3, 2, 0, 90] (Gs := [[_], [_], [_], [_], [own ⟨none, 0⟩ 47 cOpSH 1 ([] : List OpSH)]]) ⟨.inl ⟨_, rfl, .own⟩, .inl ⟨_, rfl, .own⟩, .inl ⟨_, rfl, .own⟩, .inl ⟨_, rfl, .own⟩, .inr ⟨Nat.le_of_ble_eq_true rfl, fun g hg => by simp only [List.mem_singleton] at hg; subst hg; exact ⟨rfl, rfl, rfl, rfl⟩⟩, trivial⟩ rfl (G := progO ⟨[x0, 1], [x1], [2], [x2], [], a0, a1, a2, a3, ⟨none, 0⟩⟩) (.of_eq rfl)) ?_
   refine weak_mk [0, 4] ?_ ?_ ?_ ?_ ?_ rfl rfl
   · exact zw19
   · exact zw0
   · exact zw19
   · exact zw5
   · repeat (first | exact trivial | refine ⟨.inl ⟨_, rfl, (by first | rfl | ((exact congrArg (fun z => SV.v (Value.int .i64 z)) hn0)))⟩, ?_⟩ | refine ⟨.inr z128, ?_⟩)
 rintro ⟨⟨i, q, p1⟩, i1, i2, i3, i4⟩
 simp only at i1 i2 i3 i4 ⊢
 refine CaseB.mk (fun gi => ?_) (fun gi => ?_)
 · have hi : 0 < i := by have := of_decide_eq_true gi; omega
   have hwi : IntKind.i64.wrap ((i : Int) - 1) = ((i - 1 : Nat) : Int) := by rw [wrap_nn] <;> omega
   refine AllSl.mk fun z0 => ?_
   refine AllSl.mk fun l4 => ?_
   refine stop_callP _ cl71 rfl rfl rfl rfl ⟨rfl, rfl⟩ rfl rfl (fun A w ga hga hW hblk => (num_c ga bi rb _ _ [2, 3, 1, 4, 0] w hblk ⟨z28, z28, trivial⟩ hb (by omega) (by decide))) ?_
   rintro v cs L ⟨m, rfl, hm, rfl, rfl⟩
   have hm4 : 0 ≤ m ∧ m ≤ 4 := by simp at hm; omega
   clear hm
   refine LoopW.mk ⟨{ u : Int × Sl × List Op × Nat // 0 ≤ u.1 ∧ u.1 + u.2.2.1.length = m ∧ (∀ o ∈ u.2.2.1, OpOk q.pure o) ∧ u.2.2.2 ≤ p1 + 1 + 4 * u.2.2.1.length },
     fun u => .mk [(0, .p 0 0), (2, .p 1 0), (5, .p 2 0), (6, .v (.int .i64 (i : Int))), (7, .v (u.1.2.1.val u.1.2.2.1.length)), (8, .v (.int .i64 u.1.1))] 3 0 [(2, 37, 5), (1, 37, 5), (0, 139, 2)] [((0, 0), .v (bi.val rb.length)), ((0, 1), .v (.int .i64 (u.1.2.2.2 : Int))), ((2, 0), .v (q.h0.val q.sems.length)), ((2, 1), .v (q.h1.val q.groups.length)), ((2, 2), .v (q.h2.val q.barriers.length)), ((2, 3), .v (q.h3.val q.rooms.length)), ((2, 4), .v (q.h4.val q.threads.length))] [own u.1.2.1 44 cOp 3 u.1.2.2.1, fO (progO q), slo bi cByte 1 rb],
     fun u => u.1.1.toNat, ⟨(m, z0, [], p1 + 1), hm4.1, by simp, by simp, Nat.le_refl _⟩, ?_, ?_⟩
   · exact weak_mk [1, 2, 3] zw2 zw0 zw2 zw5 zw4 rfl rfl
   rintro ⟨⟨j, z, ops, p2⟩, j1, j2, j3, j4⟩
   simp only at j1 j2 j3 j4 ⊢
   refine CaseB.mk (fun gj => ?_) (fun gj => ?_)
   · have hj : 0 < j := by have := of_decide_eq_true gj; omega
     have hwj : IntKind.i64.wrap (j - 1) = j - 1 := by rw [wrap_nn] <;> omega
     refine stop_callP _ cl126 rfl rfl rfl rfl ⟨rfl, rfl⟩ rfl rfl (fun A w ga hga hW hblk => (op6_c ga bi rb _ q w hblk ⟨hW.getP _ hga rfl 2 rfl (.refl _), hW.getP _ hga rfl 1 rfl (.O_R fun _ h => h), trivial⟩ hb (by omega))) ?_
     rintro v cs L ⟨o, p3, rfl, ho, rfl, hp3, rfl⟩
     refine AllSl.mk fun b => ?_
     refine stop_app encOp 1 tabOk (xs := ops) (ys := [o]) rfl rfl rfl rfl rfl rfl rfl rfl rfl (by decide) ⟨rfl, rfl⟩ rfl z30 z38 z38 (fun z3 => ?_)
     refine ⟨⟨(j - 1, z3, ops ++ [o], p3), show 0 ≤ j - 1 by omega, by simp; omega, fun o' ho' => ?_, by simp; omega⟩, ?_, by simp only; omega⟩
     · rcases List.mem_append.1 ho' with h | h
       · exact j3 _ h
       · simp only [List.mem_singleton] at h; subst h; exact ho
     · exact weak_mk [0, 2, 3] zw6 zw0 zw6 zw5 zw12 rfl rfl
   refine AllSl.mk fun b => ?_
   refine stop_shift (.splitO 2 (L := [own q.h4 47 cOpSH 1 q.threads]) (G' := progR q) rfl (progO_out q)) ?_
   obtain ⟨x, hx⟩ : ∃ x : OpSH, x = ⟨ops, z⟩ := ⟨_, rfl⟩
   refine stop_app encOpSH 0 tabOk (xs := q.threads) (ys := [⟨ops, z⟩]) rfl rfl rfl rfl rfl rfl rfl rfl rfl (by decide) ⟨rfl, rfl⟩ rfl z30 z38 z38 (fun z5 => ?_)
   rw [← hx]
   refine ⟨⟨(i - 1, { q with threads := q.threads ++ [x], h4 := z5 }, p2), by simp; omega, fun t ht => ?_, i3, by simp; omega⟩, ?_, by simp only; omega⟩
   · have hq : q.pure = ⟨[x0, 1], [x1], [2], [x2], q.threads.map (·.m)⟩ := by simp [ProgH.pure, i3.1, i3.2.1, i3.2.2.1, i3.2.2.2]
     rcases List.mem_append.1 ht with ht | ht
     · exact i2 t ht
     · simp only [List.mem_singleton] at ht
       rw [ht, hx]
       exact ⟨by show ops.length ≤ 8; omega, fun o ho => by have := j3 o ho; rw [hq] at this; exact this⟩
   · refine weak_shift (.joinO [0, 1, 3] (Gs := [[_], _, [_]]) ⟨.inl ⟨_, rfl, .own⟩, .inl ⟨_, rfl, .o⟩, .inl ⟨_, rfl, .own⟩, trivial⟩ rfl (G := progO { q with threads := q.threads ++ [x], h4 := z5 }) (by subst hx; exact progO_in q _ z5)) ?_
     exact weak_mk [0, 2] zw9 zw0 zw9 zw5 zw21 rfl rfl
 have hi : i = 0 := by have := of_decide_eq_false gi; omega
 have hq : q.pure = ⟨[x0, 1], [x1], [2], [x2], q.threads.map (·.m)⟩ := by simp [ProgH.pure, i3.1, i3.2.1, i3.2.2.1, i3.2.2.2]
 have hops : ∀ t ∈ q.threads.map (·.m), t.length ≤ 8 ∧ ∀ o ∈ t, OpOk (Prog.mk [x0, 1] [x1] [2] [x2] [[]]) o := fun t ht => by
   obtain ⟨t', ht', rfl⟩ := List.mem_map.1 ht
   exact i2 t' ht'
 have hl : (q.threads.map (·.m)).length = 2 + k1 := by rw [List.length_map]; omega
 have ok : ProgOk q.pure := by
   rw [hq]
   exact ⟨ok0.sems, ok0.groups, ok0.barriers, ok0.rooms, by show 1 ≤ (q.threads.map (·.m)).length; omega, by show (q.threads.map (·.m)).length ≤ 4; omega, hops⟩
 exact retP [0] ⟨q, _, rfl, ok, rfl, by omega, rfl⟩ rfl rfl z133 rfl ⟨rfl, trivial⟩ (fun _ => rfl)
set_option maxRecDepth 100000 in
theorem l1Copy_c (m : Sem) (q : Sl) (w : World) (h : At w [slo q cWaiter 2 m.queue]) (hb : m.queue.length ≤ 1048576) :
   Calls Tryz.prog 143 #[semV m q] w (Ret w fun v L => ∃ y : Sl, v = semV m y ∧ L = [own y 137 cWaiter 2 m.queue]) := by
 refine calls1 Tryz.func143 rfl tabOk w _ rfl _ rfl _ h ⟨rfl, rfl, trivial⟩ _ (by decide) ?_
 refine draw_start tabOk z95 z95 z95 200 [((0, 0), .v (.int .i64 m.free)), ((0, 1), .v (.int .i64 m.limit)), ((0, 2), .v (q.val m.queue.length))] [0] [_] z118 z130 ⟨rfl, trivial⟩ rfl ?_
 repeat' ((conv => whnf); (first
   | refine BothW.mk ?_ ?_
   | refine AllSl.mk fun y => ?_
   | (refine opd_app rfl rfl ?_; refine d_appK (ti := tiOf tab) encWaiter tabOk (xs := ([] : List Waiter)) rfl rfl rfl rfl rfl rfl rfl rfl rfl (by decide) ⟨rfl, rfl⟩ z34 z30 z38 z38 z93 (fun y => ?_))
   | fail))
 exact retw [0] ⟨_, rfl, rfl⟩ z133 rfl ⟨rfl, trivial⟩ (fun _ => rfl)
set_option maxRecDepth 100000 in
theorem l2Once_c (m : Once) (q : Sl) (w : World) (h : At w [slo q cInt 1 m.waits]) (hb : m.waits.length ≤ 1048576) :
   Calls Tryz.prog 144 #[onceV m q] w (Ret w fun v L => ∃ y : Sl, v = onceV m y ∧ L = [own y 3 cInt 1 m.waits]) := by
 refine calls1 Tryz.func144 rfl tabOk w _ rfl _ rfl _ h ⟨rfl, rfl, trivial⟩ _ (by decide) ?_
 refine draw_start tabOk z95 z95 z95 200 [((0, 0), .v (.int .i64 m.state)), ((0, 1), .v (.int .i64 m.owner)), ((0, 2), .v (.int .i64 m.value)), ((0, 3), .v (q.val m.waits.length))] [0] [_] z111 z125 ⟨rfl, trivial⟩ rfl ?_
 repeat' ((conv => whnf); (first
   | refine BothW.mk ?_ ?_
   | refine AllSl.mk fun y => ?_
   | (refine opd_app rfl rfl ?_; refine d_appK (ti := tiOf tab) encInt tabOk (xs := ([] : List Int)) rfl rfl rfl rfl rfl rfl rfl rfl rfl (by decide) ⟨rfl, rfl⟩ z34 z30 z38 z38 z93 (fun y => ?_))
   | fail))
 exact retw [0] ⟨_, rfl, rfl⟩ z133 rfl ⟨rfl, trivial⟩ (fun _ => rfl)
set_option maxHeartbeats 4000000 in
set_option maxRecDepth 100000 in
theorem acquireS_c (m : Sem) (q : Sl) (t n : Int) (w : World) (h : At w [slo q cWaiter 2 m.queue]) (ok : SemOk m) (ht : isThread t = true) (hn : t ∉ m.queue.map (·.t)) (h1 : 1 ≤ n) (h2 : n ≤ m.limit) :
   Calls Tryz.prog 134 #[semV m q, .int .i64 t, .int .i64 n] w (Ret w (AcqR (m.acquire t n))) := by
 have hb := ok.q6
 have l9 := ok.l9
 have fl := ok.fl
 refine calls3 Tryz.func134 rfl tabOk w _ rfl _ rfl _ h ⟨rfl, rfl, trivial⟩ _ _ _ (by decide) ?_
 refine stop_call _ cl113 rfl rfl rfl rfl ⟨rfl, rfl⟩ (fun A w hW => semValidS_c m q w ⟨z29, trivial⟩ (by omega)) ?_
 rintro v L ⟨b, rfl, hbb, rfl⟩
 obtain rfl : b = true := hbb.2 ok
 refine CaseB.mk (fun g => by simp at g) (fun _ => ?_)
 refine stop_call _ cl157 rfl rfl rfl rfl ⟨rfl, rfl⟩ (fun A w hW => l1Thread_c _ w) ?_
 rintro v L ⟨rfl, rfl⟩
 refine CaseB.mk (fun g => by rw [ht] at g; simp at g) (fun _ => ?_)
 refine CaseB.mk (fun g => by have g' := of_decide_eq_true g; omega) (fun _ => ?_)
 refine CaseB.mk (fun g => by have g' := of_decide_eq_true g; omega) (fun _ => ?_)
 refine stop_call _ cl159 rfl rfl rfl rfl ⟨rfl, rfl⟩ (fun A w hW => l1Find_c q m.queue t w ⟨z29, trivial⟩ (by omega)) ?_
 rintro v L ⟨a, rfl, ha, rfl⟩
 have ha0 : ¬ 0 ≤ a := fun h => hn ((atM_mem _ _).1 (ha ▸ h))
 refine CaseB.mk (fun g => by have g' := of_decide_eq_true g; exact (ha0 g').elim) (fun _ => ?_)
 refine stop_call _ cl143 rfl rfl rfl rfl ⟨rfl, rfl⟩ (fun A w hW => l1Copy_c m q w ⟨z29, trivial⟩ (by omega)) ?_
 rintro v L ⟨y, rfl, rfl⟩
 have hac : ¬ (m.queue = [] ∧ n ≤ m.free) → m.acquire t n = ({ m with queue := m.queue ++ [⟨t, n⟩] }, false) := fun h => by rw [Sem.acquire, if_neg h]
 apply CaseB.mk <;> intro g
 · have hq : m.queue = [] := List.eq_nil_of_length_eq_zero (by have g' := of_decide_eq_true g; omega)
   apply CaseB.mk <;> intro g
   · have hf : n ≤ m.free := by simpa using g
     have hw := wrap_sub (a := m.free) (b := n) (by omega) (by omega)
     have e : m.acquire t n = ({ m with free := m.free - n }, true) := by rw [Sem.acquire, if_pos ⟨hq, hf⟩]
     rw [e]
     exact retw [0] ⟨y, rfl, rfl⟩ ⟨.inl ⟨_, rfl, z69⟩, trivial⟩ rfl ⟨rfl, trivial⟩ (fun _ => z69)
   · have hf : ¬ n ≤ m.free := by simpa using g
     rw [hac fun h => hf h.2]
     refine AllSl.mk fun z => ?_
     refine stop_appK encWaiter tabOk (ys := [⟨t, n⟩]) rfl rfl rfl rfl rfl rfl rfl rfl rfl (by decide) ⟨rfl, rfl⟩ z34 z30 z38 z38 (fun y2 => ?_)
     exact retw [0] ⟨y2, rfl, rfl⟩ z133 rfl ⟨rfl, trivial⟩ (fun _ => rfl)
 · have hq : ¬ m.queue = [] := fun e => by rw [e] at g; simp at g
   rw [hac fun h => hq h.1]
   refine AllSl.mk fun z => ?_
   refine stop_appK encWaiter tabOk (ys := [⟨t, n⟩]) rfl rfl rfl rfl rfl rfl rfl rfl rfl (by decide) ⟨rfl, rfl⟩ z34 z30 z38 z38 (fun y2 => ?_)
   exact retw [0] ⟨y2, rfl, rfl⟩ z133 rfl ⟨rfl, trivial⟩ (fun _ => rfl)
structure HandZ (f0 : Int) (Q : List Waiter) where
 f : Int
 R : List Waiter
 G : List Int
 q : Sl
 y : Sl
 h : handL f0 Q = ((handL f R).1, G ++ (handL f R).2.1, (handL f R).2.2)
 l0 : 0 ≤ f
 l1 : f ≤ f0
 c : ∀ x ∈ R, 1 ≤ x.n
 n : R.length + G.length = Q.length
set_option maxHeartbeats 8000000 in
set_option maxRecDepth 100000 in
theorem l1Serve_c (m : Sem) (q : Sl) (w : World) (h : At w [slo q cWaiter 2 m.queue]) (hb : m.queue.length ≤ 100) (hf0 : 0 ≤ m.free) (hf9 : m.free ≤ 100) (hc : ∀ x ∈ m.queue, 1 ≤ x.n) :
   Calls Tryz.prog 167 #[semV m q] w (Ret w fun v L => ∃ y z : Sl, v = .tuple #[semV ⟨(handL m.free m.queue).1, m.limit, (handL m.free m.queue).2.2⟩ y, z.val (handL m.free m.queue).2.1.length] ∧ L = [own y 137 cWaiter 2 (handL m.free m.queue).2.2, own z 3 cInt 1 (handL m.free m.queue).2.1]) := by
 refine calls1 Tryz.func167 rfl tabOk w _ rfl _ rfl _ h ⟨rfl, rfl, trivial⟩ _ (by decide) ?_
 refine stop_call _ cl143 rfl rfl rfl rfl ⟨rfl, rfl⟩ (fun A w hW => l1Copy_c m q w ⟨z29, trivial⟩ (by omega)) ?_
 rintro v L ⟨y1, rfl, rfl⟩
 refine AllSl.mk fun z0 => ?_
 refine LoopW.mk ⟨HandZ m.free m.queue,
   fun y => .mk [(2, .p 1 0), (4, .p 2 0), (5, .v (y.y.val y.G.length))] 3 0 [(1, 57, 3), (2, 57, 3)] [((2, 0), .v (.int .i64 y.f)), ((2, 1), .v (.int .i64 m.limit)), ((2, 2), .v (y.q.val y.R.length))] [own y.q 137 cWaiter 2 y.R, own y.y 3 cInt 1 y.G],
   fun y => y.R.length, ⟨m.free, m.queue, [], y1, z0, by simp, hf0, by omega, hc, by simp⟩, ?_, ?_⟩
 · exact weak_mk [1, 0] zw2 zw0 zw2 zw5 zw4 rfl rfl
 · rintro ⟨f, R, G, q, y, hh, l0, l1, hcR, hn⟩
   simp only
   have fin : (¬ ∃ h0 : 0 < R.length, R[0].n ≤ f) → handL m.free m.queue = (f, G, R) := fun hn => by
     rw [hh, handL_no (fun h0 hle => hn ⟨h0, hle⟩)]; simp
   refine draw_start tabOk z95 z95 z95 200 [((2, 0), .v (.int .i64 f)), ((2, 2), .v (q.val R.length))] [0] [_] z124 z134 ⟨rfl, trivial⟩ rfl ?_
   refine CaseB.mk (fun h1 => ?_) (fun h1 => ?_)
   · have h0 : 0 < R.length := by simpa using h1
     refine d_idx (ti := tiOf tab) encWaiter tabOk rfl rfl rfl rfl rfl ⟨rfl, rfl⟩ (rdVia 0 rfl (Rd.own (o := false) (o' := false))) 0 rfl z38 (fun ad => ?_)
     refine CaseB.mk (fun h2 => ?_) (fun h2 => ?_)
     · have hle : R[0].n ≤ f := by simpa using h2
       have he := handL_yes h0 hle
       have hw := wrap_sub (a := f) (b := R[0].n) (by omega) (by have := hcR R[0] (List.getElem_mem h0); omega)
       have hn1 := hcR R[0] (List.getElem_mem h0)
       refine draw_start tabOk z95 z95 z95 200 [((2, 2), .v (q.val R.length))] [0] [_] z135 z138 ⟨rfl, trivial⟩ rfl ?_
       refine d_idx (ti := tiOf tab) encWaiter tabOk rfl rfl rfl rfl rfl ⟨rfl, rfl⟩ (rdVia 0 rfl (Rd.own (o := false) (o' := false))) 0 rfl z38 (fun ad => ?_)
       refine stop_idx encWaiter tabOk rfl rfl rfl rfl rfl ⟨rfl, rfl⟩ (rdVia 0 rfl (Rd.own (o := false) (o' := false))) 0 rfl z38 (fun ad2 => ?_)
       refine AllSl.mk fun z1 => ?_
       refine stop_appK encInt tabOk (xs := G) (ys := [R[0].t]) rfl rfl rfl rfl rfl rfl rfl rfl rfl (by decide) ⟨rfl, rfl⟩ z34 z30 z38 z38 (fun y2 => ?_)
       refine AllSl.mk fun z2 => ?_
       refine stop_cut tabOk rfl rfl rfl rfl ⟨rfl, rfl⟩ rfl rfl z30 (1) (R.length) ((R.drop 1)).length rfl rfl z38 z38 z38 ?_
       refine stop_appK encWaiter tabOk (xs := []) rfl rfl rfl rfl rfl rfl rfl rfl rfl (by decide) ⟨rfl, rfl⟩ z34 (rdDrop encWaiter 1 (by omega) z30) z38 z38 (fun q2 => ?_)
       refine ⟨⟨f - R[0].n, R.drop 1, G ++ [R[0].t], q2, y2, by rw [hh, he]; simp, by omega, by omega, fun x hx => hcR x (List.mem_of_mem_drop hx), by simp; omega⟩, ?_, by simp; omega⟩
       exact weak_mk [0, 1] zw1 zw0 zw1 zw5 zw3 rfl rfl
     · have hle : ¬ R[0].n ≤ f := by simpa using h2
       have he := fin fun ⟨_, h⟩ => hle h
       rw [he]
       exact retw [0, 1] ⟨q, y, rfl, rfl⟩ z127 rfl ⟨rfl, rfl, trivial⟩ (fun _ => rfl)
   · have h0 : ¬ 0 < R.length := by simpa using h1
     have he := fin fun ⟨h, _⟩ => h0 h
     rw [he]
     exact retw [0, 1] ⟨q, y, rfl, rfl⟩ z127 rfl ⟨rfl, rfl, trivial⟩ (fun _ => rfl)
set_option maxHeartbeats 4000000 in
set_option maxRecDepth 100000 in
theorem releaseS_c (m : Sem) (q : Sl) (n : Int) (w : World) (h : At w [slo q cWaiter 2 m.queue]) (ok : SemOk m) (h1 : 1 ≤ n) (h2 : n ≤ m.limit) :
   Calls Tryz.prog 135 #[semV m q, .int .i64 n] w (Ret w (RelR (m.release n))) := by
 have hb := ok.q6
 have l9 := ok.l9
 have fl := ok.fl
 have f0 := ok.f0
 refine calls2 Tryz.func135 rfl tabOk w _ rfl _ rfl _ h ⟨rfl, rfl, trivial⟩ _ _ (by decide) ?_
 refine stop_call _ cl113 rfl rfl rfl rfl ⟨rfl, rfl⟩ (fun A w hW => semValidS_c m q w ⟨z29, trivial⟩ (by omega)) ?_
 rintro v L ⟨b, rfl, hbb, rfl⟩
 obtain rfl : b = true := hbb.2 ok
 refine CaseB.mk (fun g => by simp at g) (fun _ => ?_)
 refine CaseB.mk (fun g => by have g' := of_decide_eq_true g; omega) (fun _ => ?_)
 have hw := wrap_sub (a := m.limit) (b := m.free) (by omega) (by omega)
 apply CaseB.mk <;> intro g
 · rw [hw] at g
   have hn : ¬ n ≤ m.limit - m.free := by have g' := of_decide_eq_true g; omega
   rw [Sem.release, if_neg hn]
   refine AllSl.mk fun z => ?_
   exact ret0 ⟨nil4, z, rfl, rfl⟩ (fun _ => rfl)
 rw [hw] at g
 have hn : n ≤ m.limit - m.free := by have g' := of_decide_eq_false g; omega
 rw [Sem.release, if_pos hn]
 refine stop_call _ cl143 rfl rfl rfl rfl ⟨rfl, rfl⟩ (fun A w hW => l1Copy_c m q w ⟨z29, trivial⟩ (by omega)) ?_
 rintro v L ⟨y, rfl, rfl⟩
 have hw2 := wrap_add (a := m.free) (b := n) (by omega) (by omega)
 refine stop_call _ cl167 rfl rfl rfl rfl ⟨rfl, rfl⟩ (fun A w hW => l1Serve_c ⟨IntKind.i64.wrap (m.free + n), m.limit, m.queue⟩ y w ⟨z29, trivial⟩ (by simp only; omega) (by simp only [hw2]; omega) (by simp only [hw2]; omega) (fun x hx => (ok.cnt x hx).1)) ?_
 simp only [hw2]
 rintro v L ⟨q2, z, rfl, rfl⟩
 exact retw [0, 1] ⟨q2, z, rfl, rfl⟩ z127 rfl ⟨rfl, rfl, trivial⟩ (fun _ => rfl)
set_option maxHeartbeats 4000000 in
set_option maxRecDepth 100000 in
theorem enterS_c (m : Once) (q : Sl) (t : Int) (w : World) (h : At w [slo q cInt 1 m.waits]) (ok : OnceOk m) (ht : isThread t = true) (hn : t ∉ m.waits) (ho : m.state = 1 → m.owner ≠ t) :
   Calls Tryz.prog 150 #[onceV m q, .int .i64 t] w (Ret w (EntR (m.enter t))) := by
 have hb := onceOk_len ok
 refine calls2 Tryz.func150 rfl tabOk w _ rfl _ rfl _ h ⟨rfl, rfl, trivial⟩ _ _ (by decide) ?_
 refine stop_call _ cl114 rfl rfl rfl rfl ⟨rfl, rfl⟩ (fun A w hW => onceValidS_c m q w ⟨z29, trivial⟩ (by omega)) ?_
 rintro v L ⟨b, rfl, hbb, rfl⟩
 obtain rfl : b = true := hbb.2 ok
 refine CaseB.mk (fun g => by simp at g) (fun _ => ?_)
 refine stop_call _ cl157 rfl rfl rfl rfl ⟨rfl, rfl⟩ (fun A w hW => l1Thread_c _ w) ?_
 rintro v L ⟨rfl, rfl⟩
 refine CaseB.mk (fun g => by rw [ht] at g; simp at g) (fun _ => ?_)
 refine stop_call _ cl144 rfl rfl rfl rfl ⟨rfl, rfl⟩ (fun A w hW => l2Once_c m q w ⟨z29, trivial⟩ (by omega)) ?_
 rintro v L ⟨y, rfl, rfl⟩
 apply CaseB.mk <;> intro g
 · have e0 : m.state = 0 := by simpa using g
   rw [Once.enter, if_pos e0]
   exact retw [99] ⟨nil4, rfl, rfl⟩ z120 rfl ⟨rfl, trivial⟩ (fun _ => rfl)
 have e0 : ¬ m.state = 0 := by simpa using g
 rw [Once.enter, if_neg e0]
 apply CaseB.mk <;> intro g
 · have e2 : m.state = 2 := by simpa using g
   rw [if_neg (by omega)]
   exact retw [0] ⟨y, rfl, rfl⟩ z133 rfl ⟨rfl, trivial⟩ (fun _ => rfl)
 have e2 : ¬ m.state = 2 := by simpa using g
 have e1 : m.state = 1 := by
   rcases ok with h | h | h
   · exact (e0 h.1).elim
   · exact h.1
   · exact (e2 h.1).elim
 rw [if_pos e1]
 have hno := ho e1
 refine CaseB.mk (fun g => by exact (hno (by have g' : t = m.owner := z91; exact g'.symm)).elim) (fun _ => ?_)
 refine stop_call _ cl94 rfl rfl rfl rfl ⟨rfl, rfl⟩ (fun A w hW => l2At_c q m.waits t w ⟨z29, trivial⟩ (by omega)) ?_
 rintro v L ⟨rfl, rfl⟩
 refine CaseB.mk (fun g => by have g' := of_decide_eq_true g; exact (hn ((atM_mem _ _).1 g')).elim) (fun _ => ?_)
 refine AllSl.mk fun z => ?_
 refine stop_appK encInt tabOk (ys := [t]) rfl rfl rfl rfl rfl rfl rfl rfl rfl (by decide) ⟨rfl, rfl⟩ z34 z30 z38 z38 (fun y2 => ?_)
 exact retw [0] ⟨y2, rfl, rfl⟩ z133 rfl ⟨rfl, trivial⟩ (fun _ => rfl)
set_option maxHeartbeats 4000000 in
set_option maxRecDepth 100000 in
theorem finishS_c (m : Once) (q : Sl) (t u : Int) (w : World) (h : At w [slo q cInt 1 m.waits]) (ok : OnceOk m) (h1 : m.state = 1) (ho : m.owner = t) (hv : isValue u = true) :
   Calls Tryz.prog 151 #[onceV m q, .int .i64 t, .int .i64 u] w (Ret w (FinR (m.finish t u))) := by
 have hb := onceOk_len ok
 refine calls3 Tryz.func151 rfl tabOk w _ rfl _ rfl _ h ⟨rfl, rfl, trivial⟩ _ _ _ (by decide) ?_
 refine stop_call _ cl120 rfl rfl rfl rfl ⟨rfl, rfl⟩ (fun A w hW => runs_c m q t w ⟨z29, trivial⟩ (by omega)) ?_
 rintro v L ⟨b, rfl, hbb, rfl⟩
 obtain rfl : b = true := hbb.2 ⟨ok, h1, ho⟩
 refine CaseB.mk (fun g => by simp at g) (fun _ => ?_)
 refine stop_call _ cl67 rfl rfl rfl rfl ⟨rfl, rfl⟩ (fun A w hW => l2Value_c _ w) ?_
 rintro v L ⟨rfl, rfl⟩
 refine CaseB.mk (fun g => by simp [hv] at g) (fun _ => ?_)
 refine AllSl.mk fun z => ?_
 refine stop_appK encInt tabOk (xs := []) rfl rfl rfl rfl rfl rfl rfl rfl rfl (by decide) ⟨rfl, rfl⟩ z34 z30 z38 z38 (fun y => ?_)
 exact retw [99, 0] ⟨nil4, y, rfl, rfl⟩ z115 rfl ⟨rfl, rfl, trivial⟩ (fun _ => rfl)
set_option maxHeartbeats 4000000 in
set_option maxRecDepth 100000 in
theorem addS_c (m : Group) (q : Sl) (n : Int) (w : World) (h : At w [slo q cInt 1 m.waits]) (ok : GroupOk m) (h1 : -9 ≤ n) (h9 : n ≤ 9) :
   Calls Tryz.prog 138 #[groupV m q, .int .i64 n] w (Ret w (AddR (m.add n))) := by
 have hb := groupOk_len ok
 have hv : 0 ≤ m.count ∧ m.count ≤ 99 := by have := ok.1; simp [isValue] at this; omega
 have hw : IntKind.i64.wrap (m.count + n) = m.count + n := by rw [IntKind.wrap_i64]; omega
 refine calls2 Tryz.func138 rfl tabOk w _ rfl _ rfl _ h ⟨rfl, rfl, trivial⟩ _ _ (by decide) ?_
 refine stop_call _ cl115 rfl rfl rfl rfl ⟨rfl, rfl⟩ (fun A w hW => groupValidS_c m q w ⟨z29, trivial⟩ (by omega)) ?_
 rintro v L ⟨b, rfl, hbb, rfl⟩
 obtain rfl : b = true := hbb.2 ok
 refine CaseB.mk (fun g => by simp at g) (fun _ => ?_)
 refine CaseB.mk (fun g => by have g' := of_decide_eq_true g; omega) (fun _ => ?_)
 refine CaseB.mk (fun g => by have g' := of_decide_eq_true g; omega) (fun _ => ?_)
 refine stop_call _ cl67 rfl rfl rfl rfl ⟨rfl, rfl⟩ (fun A w hW => l2Value_c _ w) ?_
 rw [hw]
 rintro v L ⟨rfl, rfl⟩
 apply CaseB.mk <;> intro g
 · have hn : ¬ isValue (m.count + n) = true := by simpa using g
   rw [Group.add, if_neg hn]
   refine AllSl.mk fun z => ?_
   exact ret0 ⟨nil4, z, rfl, rfl⟩ (fun _ => rfl)
 have hn : isValue (m.count + n) = true := by simpa using g
 rw [Group.add, if_pos hn]
 apply CaseB.mk <;> intro g
 · rw [hw] at g
   have h0 : m.count + n = 0 := by simpa using g
   rw [if_pos h0]
   refine AllSl.mk fun z => ?_
   refine stop_appK encInt tabOk (xs := []) rfl rfl rfl rfl rfl rfl rfl rfl rfl (by decide) ⟨rfl, rfl⟩ z34 z30 z38 z38 (fun y => ?_)
   exact retw [99, 0] ⟨nil4, y, rfl, rfl⟩ z115 rfl ⟨rfl, rfl, trivial⟩ (fun _ => rfl)
 rw [hw] at g
 have h0 : ¬ m.count + n = 0 := by simpa using g
 rw [if_neg h0]
 refine AllSl.mk fun z => ?_
 refine stop_appK encInt tabOk (xs := []) rfl rfl rfl rfl rfl rfl rfl rfl rfl (by decide) ⟨rfl, rfl⟩ z34 z30 z38 z38 (fun y => ?_)
 refine AllSl.mk fun z2 => ?_
 exact retw [1, 0] ⟨y, z2, rfl, rfl⟩ ⟨.inl ⟨_, rfl, z66⟩, .inl ⟨_, rfl, z66⟩, trivial⟩ rfl ⟨rfl, rfl, trivial⟩ (fun _ => z66)
set_option maxHeartbeats 4000000 in
set_option maxRecDepth 100000 in
theorem waitS_c (m : Group) (q : Sl) (t : Int) (w : World) (h : At w [slo q cInt 1 m.waits]) (ok : GroupOk m) (ht : isThread t = true) (hn : t ∉ m.waits) :
   Calls Tryz.prog 139 #[groupV m q, .int .i64 t] w (Ret w (WaiR (m.wait t))) := by
 have hb := groupOk_len ok
 refine calls2 Tryz.func139 rfl tabOk w _ rfl _ rfl _ h ⟨rfl, rfl, trivial⟩ _ _ (by decide) ?_
 refine stop_call _ cl115 rfl rfl rfl rfl ⟨rfl, rfl⟩ (fun A w hW => groupValidS_c m q w ⟨z29, trivial⟩ (by omega)) ?_
 rintro v L ⟨b, rfl, hbb, rfl⟩
 obtain rfl : b = true := hbb.2 ok
 refine CaseB.mk (fun g => by simp at g) (fun _ => ?_)
 refine stop_call _ cl157 rfl rfl rfl rfl ⟨rfl, rfl⟩ (fun A w hW => l1Thread_c _ w) ?_
 rintro v L ⟨rfl, rfl⟩
 refine CaseB.mk (fun g => by rw [ht] at g; simp at g) (fun _ => ?_)
 refine stop_call _ cl94 rfl rfl rfl rfl ⟨rfl, rfl⟩ (fun A w hW => l2At_c q m.waits t w ⟨z29, trivial⟩ (by omega)) ?_
 rintro v L ⟨rfl, rfl⟩
 refine CaseB.mk (fun g => by have g' := of_decide_eq_true g; exact (hn ((atM_mem _ _).1 g')).elim) (fun _ => ?_)
 refine draw_cut Sl (fun y => .mk [(1, .v (.int .i64 t)), (2, .p 0 0), (4, .p 1 0), (7, .p 2 0)] 3 0 [(0, 74, 2), (1, 74, 2), (2, 74, 2)] [((0, 0), .v (.int .i64 m.count)), ((2, 0), .v (.int .i64 m.count)), ((2, 1), .v (y.val m.waits.length))] [own y 3 cInt 1 m.waits]) ?_ ?_
 · refine draw_start tabOk z95 z95 z95 200 [((0, 0), .v (.int .i64 m.count)), ((0, 1), .v (q.val m.waits.length))] [0] [_] z124 z134 ⟨rfl, trivial⟩ rfl ?_
   repeat' ((conv => whnf); (first
     | refine BothW.mk ?_ ?_
     | refine AllSl.mk fun y => ?_
     | (refine opd_app rfl rfl ?_; refine d_appK (ti := tiOf tab) encInt tabOk (xs := ([] : List Int)) rfl rfl rfl rfl rfl rfl rfl rfl rfl (by decide) ⟨rfl, rfl⟩ z34 z30 z38 z38 z93 (fun y => ?_))
     | fail))
   all_goals
     refine ⟨y, ?_⟩
     exact weak_mk [0] zw2 zw0 zw2 zw5 zw4 rfl rfl
 intro y
 apply CaseB.mk <;> intro g
 · have h0 : m.count = 0 := by simpa using g
   have hw0 : m.waits = [] := by
     rcases ok.2.2 with h | h
     · omega
     · exact h
   rw [Group.wait, if_pos h0]
   exact retw [0] ⟨y, rfl, rfl⟩ ⟨.inl ⟨_, rfl, z39⟩, trivial⟩ rfl ⟨rfl, trivial⟩ (fun _ => z39)
 have h0 : ¬ m.count = 0 := by simpa using g
 rw [Group.wait, if_neg h0]
 refine AllSl.mk fun z => ?_
 refine stop_appK encInt tabOk (ys := [t]) rfl rfl rfl rfl rfl rfl rfl rfl rfl (by decide) ⟨rfl, rfl⟩ z34 z30 z38 z38 (fun y2 => ?_)
 exact retw [0] ⟨y2, rfl, rfl⟩ z133 rfl ⟨rfl, trivial⟩ (fun _ => rfl)
set_option maxHeartbeats 4000000 in
set_option maxRecDepth 100000 in
theorem arriveS_c (m : Barrier) (q : Sl) (t : Int) (w : World) (h : At w [slo q cInt 1 m.waits]) (ok : BarrierOk m) (ht : isThread t = true) (hn : t ∉ m.waits) :
   Calls Tryz.prog 140 #[barrierV m q, .int .i64 t] w (Ret w (ArrR (m.arrive t))) := by
 have hb := barrierOk_len ok
 obtain ⟨p1, p6, r0, r9, wl, dis⟩ := ok
 have hw : IntKind.i64.wrap (m.round + 1) = m.round + 1 := by rw [IntKind.wrap_i64]; omega
 refine calls2 Tryz.func140 rfl tabOk w _ rfl _ rfl _ h ⟨rfl, rfl, trivial⟩ _ _ (by decide) ?_
 refine stop_call _ cl116 rfl rfl rfl rfl ⟨rfl, rfl⟩ (fun A w hW => barrierValidS_c m q w ⟨z29, trivial⟩ (by omega)) ?_
 rintro v L ⟨b, rfl, hbb, rfl⟩
 obtain rfl : b = true := hbb.2 ⟨p1, p6, r0, r9, wl, dis⟩
 refine CaseB.mk (fun g => by simp at g) (fun _ => ?_)
 refine stop_call _ cl157 rfl rfl rfl rfl ⟨rfl, rfl⟩ (fun A w hW => l1Thread_c _ w) ?_
 rintro v L ⟨rfl, rfl⟩
 refine CaseB.mk (fun g => by rw [ht] at g; simp at g) (fun _ => ?_)
 refine stop_call _ cl94 rfl rfl rfl rfl ⟨rfl, rfl⟩ (fun A w hW => l2At_c q m.waits t w ⟨z29, trivial⟩ (by omega)) ?_
 rintro v L ⟨rfl, rfl⟩
 refine CaseB.mk (fun g => by have g' := of_decide_eq_true g; exact (hn ((atM_mem _ _).1 g')).elim) (fun _ => ?_)
 refine AllSl.mk fun z => ?_
 refine stop_appK encInt tabOk (xs := []) rfl rfl rfl rfl rfl rfl rfl rfl rfl (by decide) ⟨rfl, rfl⟩ z34 z30 z38 z38 (fun y => ?_)
 refine AllSl.mk fun z2 => ?_
 refine stop_appK encInt tabOk (xs := m.waits) (ys := [t]) rfl rfl rfl rfl rfl rfl rfl rfl rfl (by decide) ⟨rfl, rfl⟩ z34 z30 z38 z38 (fun y2 => ?_)
 have hl : (m.waits ++ [t]).length = m.waits.length + 1 := by simp
 apply CaseB.mk <;> intro g
 · have h0 : (m.waits.length : Int) + 1 < m.parties := by have g' := of_decide_eq_true g; rw [hl] at g'; omega
   rw [Barrier.arrive, if_pos h0]
   refine AllSl.mk fun z3 => ?_
   exact retw [1, 0] ⟨y2, z3, rfl, rfl⟩ z127 rfl ⟨rfl, rfl, trivial⟩ (fun _ => rfl)
 have h0 : ¬ (m.waits.length : Int) + 1 < m.parties := by have g' := of_decide_eq_false g; rw [hl] at g'; omega
 rw [Barrier.arrive, if_neg h0]
 apply CaseB.mk <;> intro g
 · have h9 : m.round = 9999 := by simpa using g
   rw [if_pos h9]
   refine AllSl.mk fun z3 => ?_
   exact ret0 ⟨z3, rfl, rfl⟩ (fun _ => rfl)
 have h9 : ¬ m.round = 9999 := by simpa using g
 rw [if_neg h9]
 refine AllSl.mk fun z3 => ?_
 exact retw [0, 1] ⟨z3, y2, rfl, rfl⟩ ⟨.inl ⟨_, rfl, z65⟩, .inl ⟨_, rfl, z65⟩, trivial⟩ rfl ⟨rfl, rfl, trivial⟩ (fun _ => z65)
set_option maxRecDepth 100000 in
theorem l7Stop_c (y : StateH) (f : Int) (w : World) :
   Calls Tryz.prog 136 #[stateV y, .int .i64 f] w (Ret w fun v L => v = stateV { y with fault := f } ∧ L = []) := by
 refine calls2 Tryz.func136 rfl tabOk w _ rfl _ rfl [] trivial trivial _ _ (by decide) ?_
 exact ret0 ⟨rfl, rfl⟩ (fun _ => rfl)
def stV (y : StateH) (n m : Nat) (zs : Sl) (ln : Nat) : Value := .agg #[y.h0.val n, y.h1.val m, y.h2.val y.sems.length, y.h3.val y.onces.length, y.h4.val y.groups.length, y.h5.val y.barriers.length, y.h6.val y.chans.length, zs.val ln, .int .i64 y.fault]
set_option maxHeartbeats 16000000 in
set_option maxRecDepth 100000 in
theorem l7On_c (n m : Nat) (P : ProgH) (y : StateH) (zs : Sl) (ln : Nat) (z : Sl) (who : List Int) (s : State) (w : World)
   (h : AtG w [own y.h0 3 cInt 1 s.places, own y.h1 3 cInt 1 s.status] [fR (progO P), slo z cInt 1 who])
   (h1 : s.places.length = n) (h2 : s.status.length = m) (hm : n = m) (hn : P.threads.length = n) (hw : ∀ t ∈ who, 0 ≤ t ∧ t < n) (hl : who.length ≤ 100) (hp : ∀ a ∈ s.places, 0 ≤ a ∧ a ≤ 100) (hn4 : n ≤ 100) :
   Calls Tryz.prog 141 #[progV P, stV y n m zs ln, z.val who.length] w (RetG w [own y.h0 3 cInt 1 s.places, own y.h1 3 cInt 1 s.status]
     fun v L => v = stV y n m zs ln ∧ L = [own y.h0 3 cInt 1 (onM P.pure who s).places, own y.h1 3 cInt 1 (onM P.pure who s).status]) := by
 subst hm
 refine callsG_fn Tryz.func141 rfl tabOk w _ rfl _ rfl _ _ h ⟨rfl, rfl, rfl, rfl, trivial⟩ _ _ rfl rfl ?_
 refine LoopW.mk ⟨{ q : Nat × List Int × List Int // q.1 ≤ who.length ∧ q.2.1 = (onM P.pure (who.take q.1) s).places ∧ q.2.2 = (onM P.pure (who.take q.1) s).status },
   fun q => .mk [(2, .v (z.val who.length)), (3, .p 0 0), (4, .p 1 0), (6, .p 2 0), (7, .v (.int .i64 (q.1.1 : Int)))] 3 0 [(0, 37, 5), (1, 30, 9), (2, 30, 9)]
     [((0, 0), .v (P.h0.val P.sems.length)), ((0, 1), .v (P.h1.val P.groups.length)), ((0, 2), .v (P.h2.val P.barriers.length)), ((0, 3), .v (P.h3.val P.rooms.length)), ((0, 4), .v (P.h4.val P.threads.length)), ((1, 0), .v (y.h0.val q.1.2.1.length)), ((1, 1), .v (y.h1.val q.1.2.2.length)), ((1, 2), .v (y.h2.val y.sems.length)), ((1, 3), .v (y.h3.val y.onces.length)), ((1, 4), .v (y.h4.val y.groups.length)), ((1, 5), .v (y.h5.val y.barriers.length)), ((1, 6), .v (y.h6.val y.chans.length)), ((1, 7), .v (zs.val ln)), ((1, 8), .v (.int .i64 y.fault))]
     [own y.h0 3 cInt 1 q.1.2.1, own y.h1 3 cInt 1 q.1.2.2, fR (progO P), slo z cInt 1 who],
   fun q => who.length - q.1.1, ⟨(0, s.places, s.status), Nat.zero_le _, rfl, rfl⟩, ?_, ?_⟩
 · exact weak_mk [0, 1, 2, 3] zw13 zw0 zw13 zw5 zw27 rfl rfl
 rintro ⟨⟨k, pl, st⟩, hk, hpl, hst⟩
 simp only at hk hpl hst
 have l1 : pl.length = n := by rw [hpl, (onM_len _ _ _).1, h1]
 have l2 : st.length = n := by rw [hst, (onM_len _ _ _).2, h2]
 refine CaseB.mk (fun g3 => ?_) (fun g3 => ?_)
 · have hlt : k < who.length := by simpa using g3
   have hw' := e_succ k _ hlt (by omega)
   obtain ⟨t0, t1⟩ := hw _ (List.getElem_mem hlt)
   obtain ⟨τ, hτ⟩ : ∃ τ : Nat, who[k] = (τ : Int) := ⟨_, (Int.toNat_of_nonneg t0).symm⟩
   have hτn : τ < n := by omega
   have hτp : τ < pl.length := by omega
   have hτs : τ < st.length := by omega
   have hτP : τ < P.threads.length := by omega
   have hb := onM_bound P.pure (who.take k) s 100 (by omega) hp
   rw [← hpl] at hb
   have hpb := hb _ (List.getElem_mem hτp)
   have htl : ((who.take k).length : Int) ≤ 100 := by simp; omega
   have hw1 : IntKind.i64.wrap (pl[τ] + 1) = pl[τ] + 1 := by rw [IntKind.wrap_i64]; omega
   have hgo := onM_succ P.pure who s hlt
   have hset : (pl.set τ (pl[τ] + 1))[τ]'(by simpa using hτp) = pl[τ] + 1 := by simp
   have hpg : (onM P.pure (who.take k) s).places.getD τ 0 = pl[τ] := by rw [← hpl, List.getD_eq_getElem?_getD, List.getElem?_eq_getElem hτp]; rfl
   have hPg : (P.pure.threads.getD τ []).length = P.threads[τ].m.length := by simp [ProgH.pure, List.getD_eq_getElem?_getD, hτP]
   have hgo1 : (onM P.pure (who.take (k + 1)) s).places = pl.set τ (pl[τ] + 1) := by rw [hgo, hτ]; simp only [goM, Int.toNat_natCast, hpg, hpl]
   have hgo2 : (onM P.pure (who.take (k + 1)) s).status = st.set τ (restM P.pure τ (pl[τ] + 1)) := by rw [hgo, hτ]; simp only [goM, Int.toNat_natCast, hpg, hst]
   refine stop_idx encInt tabOk rfl rfl rfl rfl rfl ⟨rfl, rfl⟩ z30 k rfl z38 (fun ad => ?_)
   refine draw_own 0 rfl (show 0 < pl.length by omega) fun gg hgg _ _ => ?_
   refine draw_start tabOk z95 z95 z95 200 [((1, 0), .v (y.h0.val pl.length))] [] [] z135 z138 trivial rfl ?_
   refine d_idxP (ti := tiOf tab) tabOk rfl rfl rfl rfl rfl ⟨rfl, rfl⟩ hgg τ hτ hτp ?_
   refine d_loadW (ti := tiOf tab) encInt 0 tabOk rfl rfl rfl ⟨rfl, rfl⟩ rfl hgg τ 0 rfl hτp rfl ?_
   refine d_idxP (ti := tiOf tab) tabOk rfl rfl rfl rfl rfl ⟨rfl, rfl⟩ hgg τ hτ hτp ?_
   refine d_storeW (ti := tiOf tab) encInt 0 tabOk rfl rfl rfl rfl rfl rfl rfl rfl hgg τ 0 (pl[τ] + 1) rfl hτp rfl [.int .i64 (pl[τ] + 1)] (fun _ => by simp [SV.den, hw1]) rfl z93 ?_
   obtain ⟨pl2, hpl2⟩ : ∃ pl2, pl2 = pl.set τ (pl[τ] + 1) := ⟨_, rfl⟩
   have l3 : pl2.length = pl.length := by rw [hpl2, List.length_set]
   have hτ2 : τ < pl2.length := by omega
   have hg2 : pl2[τ] = pl[τ] + 1 := by simp [hpl2]
   rw [← hpl2] at hgo1 ⊢
   refine draw_own 1 rfl (show 0 < st.length by omega) fun gg2 hgg2 _ _ => ?_
   refine draw_start tabOk z95 z95 z95 200 [((0, 0), .v (P.h0.val P.sems.length)), ((0, 1), .v (P.h1.val P.groups.length)), ((0, 2), .v (P.h2.val P.barriers.length)), ((0, 3), .v (P.h3.val P.rooms.length)), ((0, 4), .v (P.h4.val P.threads.length)), ((1, 0), .v (y.h0.val pl.length)), ((1, 1), .v (y.h1.val st.length))] [0] [_] z104 z116 ⟨rfl, trivial⟩ rfl ?_
   refine d_idx (ti := tiOf tab) (xs := pl2) encInt tabOk rfl (by rw [l3]; rfl) rfl rfl rfl ⟨rfl, rfl⟩ (rdVia 0 rfl (Rd.own (o := false) (o' := false))) τ hτ hτ2 (fun ad3 => ?_)
   rw [hg2]
   refine d_call _ cl146 rfl rfl rfl rfl ⟨rfl, rfl⟩ (fun A w hW => l7Rest_c P _ _ τ hτP hτ w ⟨hW.get 2 rfl (.refl _), trivial⟩) ?_
   rintro v L ⟨rfl, rfl⟩
   refine d_idxP (ti := tiOf tab) tabOk rfl rfl rfl rfl rfl ⟨rfl, rfl⟩ hgg2 τ hτ hτs ?_
   refine d_storeW (ti := tiOf tab) encInt 1 tabOk rfl rfl rfl rfl rfl rfl rfl rfl hgg2 τ 0 (if pl[τ] + 1 = ((P.threads[τ]).m.length : Int) then 3 else 0) rfl hτs rfl [.int .i64 (if pl[τ] + 1 = ((P.threads[τ]).m.length : Int) then 3 else 0)] (fun _ => rfl) rfl z93 ?_
   refine ⟨⟨(k + 1, pl2, st.set τ (if pl[τ] + 1 = ((P.threads[τ]).m.length : Int) then 3 else 0)), hlt, hgo1.symm, by rw [hgo2, restM, hPg]⟩, ?_, by simp only; omega⟩
   refine weak_mk [1, 0, 2, 3] ?_ ?_ ?_ ?_ ?_ rfl rfl
   · exact zw16
   · exact zw0
   · exact zw16
   · exact zw5
   · repeat (first | exact trivial | refine ⟨.inl ⟨_, rfl, (by first | rfl | ((first | exact congrArg (fun z => SV.v (Value.int .i64 z)) hw' | (simp only [l3]; done) | (simp only [List.length_set]; done))))⟩, ?_⟩ | refine ⟨.inr z128, ?_⟩)
 · have hge : who.length ≤ k := by simpa using g3
   rw [List.take_of_length_le hge] at hpl hst
   rw [← hpl, ← hst]
   exact retG [0, 1] ⟨rfl, rfl⟩ ⟨.inl ⟨_, rfl, z40⟩, .inl ⟨_, rfl, z40⟩, trivial⟩ rfl ⟨rfl, rfl, trivial⟩ (fun _ => z40)
theorem d_callG {E : Env} {o : Oper} {Ms : List ((Nat × Nat) × SV)} {Fs : List Fct} {next : St → Prop} {T : List (Nat × SV)} {n c : Nat} {B : List (Nat × TypeId × Nat)} {M : List ((Nat × Nat) × SV)} {F : List Fct}
   (R : Value → List Fct → Prop) (ix : List Nat) {G : List Fct} {k : Call} {fo : Operand} {g : FuncId} {cap : List (Nat × Nat)} {l : List SV} {d : Nat} (hc : callable E.P g = true)
   (hop : o.op = .call k) (hk : k.callee = .value fo) (hf : evalO T fo = some (.f g cap)) (ha : evalOs T k.args.toList = some l) (hd : Dst E o d) (hG : FK F ix G) (hok : grantOk G) (hkeep : keepF Fs F → ∀ L, keepF Fs (L ++ dropAt ix 0 F))
   (hcall : ∀ A w, WD E A n B M F w → Calls E.P g ((l.map (SV.den A)) ++ cap.map (fun x => ptr A x.1 x.2)).toArray w (RetG w G R))
   (hnext : ∀ v L, R v L → next (.mk ((d, .v v) :: T) n (c + 1) B M (L ++ dropAt ix 0 F))) :
   OpW (opD E o Ms Fs next T n c B M F) := by
 refine ⟨fun hkm hkf A a w hW hT => ?_⟩
 unfold Oper.wp
 rw [call_enter hT hc hop hk hf ha, Oper.upon_enter]
 refine (hcall A w hW).mono ?_
 rintro e w' ⟨v, L, rfl, he, hL, hR⟩
 refine ⟨A, _, n, _, B, M, _, fun _ _ => rfl, Nat.le_refl _, fun _ h => h, hkm, hkeep hkf L, hW.callG hG hok he hL, fun w2 => ?_, hnext v L hR⟩
 rw [hd.1]
 exact (hT.step w2).put (v := .v v) hd.lt trivial
def Fct.fresh : Fct → Fct
 | .sl _ i sz cs n => .sl false i sz cs n
 | .own _ i _ sz cs n => .sl false i sz cs n
 | .other _ _ foot P st => .other false false foot P st
theorem fresh_rd : ∀ {f g : Fct}, Rd f g.aged → Rd f (Fct.fresh g)
 | _, .sl .., h => ⟨h.p, h.foot⟩
 | _, .own .., h => ⟨h.p, h.foot⟩
 | _, .other .., h => ⟨h.p, h.foot⟩
abbrev fN (G : List Fct) : Fct := fB false (G.map Fct.fresh)
theorem fN_fR (G : List Fct) : Rd (fN G) (fR G) := by
 have key : ∀ g : Fct, (∀ w, (Fct.fresh g).P w → g.aged.P w) ∧ ∀ b, g.aged.foot b → (Fct.fresh g).foot b := fun g => by
   cases g <;> exact z136
 refine ⟨fun w hw g hg => ?_, ?_⟩
 · obtain ⟨f, hf, rfl⟩ := List.mem_map.1 hg
   exact (key f).1 w (hw _ (List.mem_map_of_mem hf))
 · rintro b ⟨g, hg, hb⟩
   obtain ⟨f, hf, rfl⟩ := List.mem_map.1 hg
   exact ⟨_, List.mem_map_of_mem hf, (key f).2 b hb⟩
theorem Shift.pack {F G : List Fct} (hG : ∀ g ∈ G, ∃ f ∈ F, f.old = false ∧ Rd f g.aged) : Shift F [fN G] := by
 intro E A n B M w h
 refine ⟨h.key, h.inj, h.mem, h.a0, h.n0, h.ext, fun f hf => ?_, List.pairwise_singleton _ _⟩
 obtain rfl := List.mem_singleton.1 hf
 refine ⟨fun g' hg' => ?_, ?_, ?_⟩
 · obtain ⟨g, hg, rfl⟩ := List.mem_map.1 hg'
   obtain ⟨f, hf, _, hr⟩ := hG g hg
   exact (fresh_rd hr).p w (h.fct f hf).1
 · rintro b ⟨g', hg', hb⟩
   obtain ⟨g, hg, rfl⟩ := List.mem_map.1 hg'
   obtain ⟨f, hf, _, hr⟩ := hG g hg
   exact (h.fct f hf).2.1 b ((fresh_rd hr).foot b hb)
 · rintro _ b ⟨g', hg', hb⟩
   obtain ⟨g, hg, rfl⟩ := List.mem_map.1 hg'
   obtain ⟨f, hf, ho, hr⟩ := hG g hg
   exact (h.fct f hf).2.2 ho b ((fresh_rd hr).foot b hb)
theorem stateN {F : List Fct} (y : StateH) (ho : ∀ g ∈ outerO y, g ∈ F) (hin : ∀ g ∈ innerO y, ∃ f ∈ F, f.old = false ∧ Rd f g.aged) : ∀ g ∈ stateO y, ∃ f ∈ F, f.old = false ∧ Rd f g.aged := by
 intro g hg
 rcases List.mem_append.1 ((stateO_perm y).mem_iff.1 hg) with hg | hg
 · refine ⟨g, ho g hg, ?_, .aged g⟩
   simp only [outerO, List.mem_cons, List.not_mem_nil, or_false] at hg
   rcases hg with rfl | rfl | rfl | rfl | rfl | rfl | rfl | rfl <;> rfl
 · exact hin g hg
theorem inON {Zs G : List Fct} (k : Nat) (hk : Zs[k]? = some (fO G)) {g : Fct} (hg : g ∈ G) : ∃ f ∈ Zs, f.old = false ∧ Rd f g.aged := ⟨_, List.mem_of_getElem? hk, rfl, .ofO ⟨g, hg, .refl _⟩⟩
theorem inFN {Zs : List Fct} (k : Nat) {g : Fct} (hk : Zs[k]? = some g) (ho : g.old = false) : ∃ f ∈ Zs, f.old = false ∧ Rd f g.aged := ⟨g, List.mem_of_getElem? hk, ho, .aged g⟩
theorem rdSem (y : StateH) (i : Nat) (h : i < y.sems.length) : RdIn (innerO y) (slo (y.sems[i]).q cWaiter 2 (y.sems[i]).m.queue) :=
 RdIn.own (o := false) (e := 137) (List.mem_append_left _ (List.mem_flatMap.2 ⟨_, List.getElem_mem h, by simp [semO]⟩))
theorem rdOnce (y : StateH) (i : Nat) (h : i < y.onces.length) : RdIn (innerO y) (slo (y.onces[i]).q cInt 1 (y.onces[i]).m.waits) :=
 RdIn.own (o := false) (e := 3) (List.mem_append_right _ (List.mem_append_left _ (List.mem_flatMap.2 ⟨_, List.getElem_mem h, by simp [onceO]⟩)))
theorem rdGroup (y : StateH) (i : Nat) (h : i < y.groups.length) : RdIn (innerO y) (slo (y.groups[i]).q cInt 1 (y.groups[i]).m.waits) :=
 RdIn.own (o := false) (e := 3) (List.mem_append_right _ (List.mem_append_right _ (List.mem_append_left _ (List.mem_flatMap.2 ⟨_, List.getElem_mem h, by simp [groupO]⟩))))
theorem rdBarrier (y : StateH) (i : Nat) (h : i < y.barriers.length) : RdIn (innerO y) (slo (y.barriers[i]).q cInt 1 (y.barriers[i]).m.waits) :=
 RdIn.own (o := false) (e := 3) (List.mem_append_right _ (List.mem_append_right _ (List.mem_append_right _ (List.mem_append_left _ (List.mem_flatMap.2 ⟨_, List.getElem_mem h, by simp [barrierO]⟩)))))
theorem rdChan0 (y : StateH) (i : Nat) (h : i < y.chans.length) : RdIn (innerO y) (slo (y.chans[i]).q0 cInt 1 (y.chans[i]).m.items) :=
 RdIn.own (o := false) (e := 3) (List.mem_append_right _ (List.mem_append_right _ (List.mem_append_right _ (List.mem_append_right _ (List.mem_flatMap.2 ⟨_, List.getElem_mem h, by simp [chanO]⟩)))))
theorem rdChan1 (y : StateH) (i : Nat) (h : i < y.chans.length) : RdIn (innerO y) (slo (y.chans[i]).q1 cLet 2 (y.chans[i]).m.senders) :=
 RdIn.own (o := false) (e := 144) (List.mem_append_right _ (List.mem_append_right _ (List.mem_append_right _ (List.mem_append_right _ (List.mem_flatMap.2 ⟨_, List.getElem_mem h, by simp [chanO]⟩)))))
theorem rdChan2 (y : StateH) (i : Nat) (h : i < y.chans.length) : RdIn (innerO y) (slo (y.chans[i]).q2 cInt 1 (y.chans[i]).m.getters) :=
 RdIn.own (o := false) (e := 3) (List.mem_append_right _ (List.mem_append_right _ (List.mem_append_right _ (List.mem_append_right _ (List.mem_flatMap.2 ⟨_, List.getElem_mem h, by simp [chanO]⟩)))))
theorem Rdy.lens {P : ProgH} {y : StateH} {k : Nat} {ops : List Op} {a st : Int} {op : Op} (r : Rdy P.pure y.pure k ops a st op) :
   y.places.length = P.threads.length ∧ y.status.length = P.threads.length ∧ k < P.threads.length ∧ P.threads.length ≤ 4 ∧ (∀ a ∈ y.pure.places, 0 ≤ a ∧ a ≤ 20) := by
 have ft := r.ft
 have lt : P.pure.threads.length = P.threads.length := by simp [ProgH.pure]
 refine ⟨by rw [← lt]; exact ft.np, by rw [← lt]; exact ft.ns, by rw [← lt]; exact r.kn, by rw [← lt]; exact ft.prog.n4, fun x hx => ?_⟩
 obtain ⟨u, hu, rfl⟩ := List.getElem_of_mem hx
 have hu2 : u < P.pure.threads.length := by rw [← ft.np]; exact hu
 obtain ⟨c0, c1, _⟩ := ft.threads u _ _ _ (List.getElem?_eq_getElem hu2) (List.getElem?_eq_getElem hu) (List.getElem?_eq_getElem (by rw [ft.ns]; exact hu2))
 have := (ft.prog.ops _ (List.getElem_mem hu2)).1
 exact ⟨c0, by omega⟩
def DoR (s' : State) (v : Value) (L : List Fct) : Prop := ∃ y : StateH, v = stateV y ∧ y.pure = s' ∧ L = [fN (stateO y)]
end Go.Proofs.YtjkkoonennpceaaGreat
