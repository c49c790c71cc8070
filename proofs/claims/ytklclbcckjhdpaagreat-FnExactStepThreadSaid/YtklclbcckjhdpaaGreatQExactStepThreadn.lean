/- FnExactStepThread: texts that its proof stands on, part 14. -/
import Derived.ProofKit
import Derived.Deep.Slices
import Derived.Laws.StructEq
import Derived.Test.YtklclbcckjhdpaaGreatRows
import Derived.Test.YtklclbcckjhdpaaGreatQExactStepThreadm
namespace Go.Proofs.YtklclbcckjhdpaaGreat
open Go Go.Sx Go.RowKit
theorem doM_small {p : Prog} {s : State} {t : Int} (ft : Fits p s) (h : t ∈ readyM s) (hl : (doM p s t).said.length ≤ 64) : (doM p s t).small20 := by
 by_cases hw : Worn p s t
 · obtain ⟨k, ops, a, st, op, rfl, r⟩ := rdy ft h
   rw [Worn, r.at_] at hw
   obtain ⟨k7, hw⟩ := hw
   have e : doM p s (k : Int) = waitM (setBarrier s op ⟨0, 0, []⟩) k 1 := by
     simp only [doM, r.at_, doOp, k7, doArrive, hw]
     simp
   rw [e]
   obtain ⟨b0, b1, b2, b3, b4, b5, b6, b7⟩ := ft.small
   refine ⟨b0, by simpa [waitM, setBarrier] using b1, b2, b3, b4, ⟨by simpa [waitM, setBarrier] using b5.1, fun x hx => ?_⟩, b6, b7⟩
   rcases List.mem_or_eq_of_mem_set hx with hx | rfl
   · exact b5.2 x hx
   · simp [Barrier.small20]
 · exact (step_fits ft h hl hw).small
def StepRS (p : Prog) (s : State) (t : Int) (v : Value) (L : List Fct) : Prop := ∃ (y : StateH) (b : Bool), v = .tuple #[stateV y, .bool b] ∧ (b = true ↔ StepOk p s t) ∧ (b = true → y.pure = doM p s t) ∧ (b = false → y.pure = State.zero) ∧ L = [fN (stateO y)]
set_option maxHeartbeats 32000000 in
set_option maxRecDepth 100000 in
theorem stepThreadS_c (p : ProgH) (s : StateH) (t : Int) (w : World) (h : At w [fR (progO p), fR (stateO s)]) (hp : p.pure.small20) (hs : s.pure.small20) :
   Calls Tryz.prog 14 #[progV p, stateV s, .int .i64 t] w (Ret w (StepRS p.pure s.pure t)) := by
 have hb : s.status.length ≤ 1048576 := hs.2.1
 obtain ⟨A, hA, one⟩ := readyAns_one p.pure s.pure hs
 refine calls3 Tryz.func14 rfl tabOk w _ rfl _ rfl _ h ⟨rfl, rfl, rfl, rfl, trivial⟩ _ _ _ (by decide) ?_
 refine stop_call _ cl34 rfl rfl rfl rfl ⟨rfl, rfl⟩ (fun A w hW => readyThreadsS_c p s w ⟨hW.get 0 rfl (.refl _), hW.get 1 rfl (.refl _), trivial⟩ hp hs) ?_
 rintro v L ⟨yr, xs, rfl, h1, h2, rfl⟩
 have hxl : xs.length ≤ 1048576 := by rw [one xs h1 h2]; exact hA
 refine stop_call _ cl51 rfl rfl rfl rfl ⟨rfl, rfl⟩ (fun A w hW => l2At_c yr xs t w ⟨z39, trivial⟩ (by omega)) ?_
 rintro v L ⟨rfl, rfl⟩
 apply CaseB.mk <;> intro g
 · have hn : t ∉ xs := fun hm => by have := (atM_mem xs t).2 hm; have g' := of_decide_eq_true g; omega
   have n : ¬ StepOk p.pure s.pure t := fun e => hn (by rw [h1 e.1]; exact e.2.1)
   refine ret_shift (.joinO [90] (Gs := [_]) ⟨.inr ⟨Nat.le_of_ble_eq_true rfl, zero_nil⟩, trivial⟩ rfl (G := stateO StateH.zero) (.of_eq (by simp))) ?_
   refine ret_shift (Shift.pack (G := stateO StateH.zero) (fun g hg => inON 0 rfl hg)) ?_
   exact retw [0] ⟨StateH.zero, false, rfl, tno n, fun e => z111, fun _ => rfl, rfl⟩ z146 rfl ⟨rfl, trivial⟩ (fun _ => rfl)
 have hmx : t ∈ xs := (atM_mem xs t).1 (by have g' := of_decide_eq_false g; omega)
 have ft : Fits p.pure s.pure := Classical.byContradiction fun n => by rw [h2 n] at hmx; cases hmx
 have hm : t ∈ readyM s.pure := by rw [← h1 ft]; exact hmx
 obtain ⟨_, k, _, rfl, _⟩ := readyM_mem hm
 refine draw_cut { y : StateH // y.pure = doM p.pure s.pure k } (fun y => .mk [(3, .p 0 0), (6, .p 2 0), (8, .p 3 0)] 4 0 [(0, 46, 5), (2, 41, 9), (3, 41, 9)] [((0, 0), .v (p.h0.val p.sems.length)), ((0, 1), .v (p.h1.val p.groups.length)), ((0, 2), .v (p.h2.val p.barriers.length)), ((0, 3), .v (p.h3.val p.rooms.length)), ((0, 4), .v (p.h4.val p.threads.length)), ((3, 0), .v (y.1.h0.val y.1.places.length)), ((3, 1), .v (y.1.h1.val y.1.status.length)), ((3, 2), .v (y.1.h2.val y.1.sems.length)), ((3, 3), .v (y.1.h3.val y.1.onces.length)), ((3, 4), .v (y.1.h4.val y.1.groups.length)), ((3, 5), .v (y.1.h5.val y.1.barriers.length)), ((3, 6), .v (y.1.h6.val y.1.chans.length)), ((3, 7), .v (y.1.h7.val y.1.said.length)), ((3, 8), .v (.int .i64 y.1.fault))] [fN (stateO y.1), fR (progO p)]) ?_ ?_
 · refine draw_start tabOk z107 z107 z107 200 [((0, 0), .v (p.h0.val p.sems.length)), ((0, 1), .v (p.h1.val p.groups.length)), ((0, 2), .v (p.h2.val p.barriers.length)), ((0, 3), .v (p.h3.val p.rooms.length)), ((0, 4), .v (p.h4.val p.threads.length)), ((1, 0), .v (s.h0.val s.places.length)), ((1, 1), .v (s.h1.val s.status.length)), ((1, 2), .v (s.h2.val s.sems.length)), ((1, 3), .v (s.h3.val s.onces.length)), ((1, 4), .v (s.h4.val s.groups.length)), ((1, 5), .v (s.h5.val s.barriers.length)), ((1, 6), .v (s.h6.val s.chans.length)), ((1, 7), .v (s.h7.val s.said.length)), ((1, 8), .v (.int .i64 s.fault))] [] [] z112 z116 trivial rfl ?_
   refine BothW.mk ?_ ?_
   all_goals
     refine d_call _ cl53 rfl rfl rfl rfl ⟨rfl, rfl⟩ (fun A w hW => l7Copy_c s w ⟨hW.get 2 rfl (.refl _), trivial⟩ hs) ?_
     rintro v L ⟨y, rfl, hy, rfl⟩
   refine BothW.mk ?_ ?_
   all_goals
     conv => whnf
     refine d_shift (Shift.splitO 0 (L := outerO y) (G := stateO y) (G' := innerO y) rfl (stateO_perm y)) z105 ?_
     refine d_callG _ [0, 1, 2, 3, 4, 5, 6, 7, 8] (G := [_, _, _, _, _, _, _, _, _]) cl52 rfl rfl rfl rfl ⟨rfl, rfl⟩ z137 z123 z105 (fun A w hW => (l7Do_c p y k (by rw [hy]; exact ft) (by rw [hy]; exact hm) w (hW.atG [0, 1, 2, 3, 4, 5, 6, 7, 8] (G := [_, _, _, _, _, _, _, _, _]) z137 rfl z123 [10] (Fo := [_]) z152 rfl))) ?_
     rintro v L ⟨y2, rfl, hy2, rfl⟩
     rw [hy] at hy2
     refine ⟨⟨y2, hy2⟩, ?_⟩
     exact weak_mk [0, 2] zw2 zw0 zw2 zw5 zw4 rfl rfl
 rintro ⟨y2, hy2⟩
 simp only
 apply CaseB.mk <;> intro g
 · have hl : ¬ (doM p.pure s.pure k).said.length ≤ 64 := by
     have g' := of_decide_eq_true g
     rw [← hy2]
     show ¬ y2.said.length ≤ 64
     omega
   have n : ¬ StepOk p.pure s.pure k := fun e => hl e.2.2.1
   refine ret_shift (.joinO [90] (Gs := [_]) ⟨.inr ⟨Nat.le_of_ble_eq_true rfl, zero_nil⟩, trivial⟩ rfl (G := stateO StateH.zero) (.of_eq (by simp))) ?_
   refine ret_shift (Shift.pack (G := stateO StateH.zero) (fun g hg => inON 0 rfl hg)) ?_
   exact retw [0] ⟨StateH.zero, false, rfl, tno n, fun e => z111, fun _ => rfl, rfl⟩ z146 rfl ⟨rfl, trivial⟩ (fun _ => rfl)
 have hl : (doM p.pure s.pure k).said.length ≤ 64 := by
   have g' := of_decide_eq_false g
   rw [← hy2]
   show y2.said.length ≤ 64
   omega
 refine stop_call _ cl23 rfl rfl rfl rfl ⟨rfl, rfl⟩ (fun A w hW => stateFitsS_c p y2 w ⟨hW.get 1 rfl (.refl _), hW.get 0 rfl (fN_fR _), trivial⟩ hp (by rw [hy2]; exact doM_small ft hm hl)) ?_
 rintro v L ⟨b, rfl, hbb, rfl⟩
 rw [hy2] at hbb
 apply CaseB.mk <;> intro g
 · have n : ¬ StepOk p.pure s.pure k := fun e => by rw [hbb.2 e.2.2.2] at g; cases g
   refine ret_shift (.joinO [90] (Gs := [_]) ⟨.inr ⟨Nat.le_of_ble_eq_true rfl, zero_nil⟩, trivial⟩ rfl (G := stateO StateH.zero) (.of_eq (by simp))) ?_
   refine ret_shift (Shift.pack (G := stateO StateH.zero) (fun g hg => inON 0 rfl hg)) ?_
   exact retw [0] ⟨StateH.zero, false, rfl, tno n, fun e => z111, fun _ => rfl, rfl⟩ z146 rfl ⟨rfl, trivial⟩ (fun _ => rfl)
 have hok : StepOk p.pure s.pure k := ⟨ft, hm, hl, hbb.1 z104⟩
 exact retw [0] ⟨y2, true, rfl, tyes hok, fun _ => hy2, fun e => z111, rfl⟩ z146 rfl ⟨rfl, trivial⟩ (fun _ => rfl)
theorem heldState_V2 (s : StateH) (k : Nat) (w : World) (hh : At w [fR (stateO (mkState k s))]) (hb : s.pure.small20) (hk : k ≤ 36028797018963968) :
   Calls Tryz.prog 22 #[stateV s, .int .i64 (k : Int)] w (Ret w fun v L => v = .int .i64 ((atState7 k s : Nat) : Int) ∧ L = []) := by
 have := heldState_c s k w hh hb hk
 rwa [show stateV (mkState k s) = stateV s by simp [stateV, mkState, marks_len, mkL_len]] at this
theorem stateZero_small : State.zero.small20 := by
 refine ⟨by simp [State.zero], by simp [State.zero], ⟨by simp [State.zero], ?_⟩, ⟨by simp [State.zero], ?_⟩, ⟨by simp [State.zero], ?_⟩, ⟨by simp [State.zero], ?_⟩, ⟨by simp [State.zero], ?_⟩, by simp [State.zero]⟩
 all_goals
   intro x hx
   simp [State.zero] at hx
theorem step_one (p : Prog) (s : State) (t : Int) : ∃ (S : State) (c : Bool), S.small20 ∧ ∀ (y : StateH) (b : Bool), (b = true ↔ StepOk p s t) → (b = true → y.pure = doM p s t) → (b = false → y.pure = State.zero) → y.pure = S ∧ b = c := by
 by_cases ok : StepOk p s t
 · refine ⟨doM p s t, true, ok.2.2.2.small, fun y b h1 h2 _ => ?_⟩
   have := h1.2 ok
   exact ⟨h2 this, this⟩
 · refine ⟨State.zero, false, stateZero_small, fun y b h1 _ h3 => ?_⟩
   cases b with
   | true => exact (ok (h1.1 rfl)).elim
   | false => exact ⟨h3 rfl, rfl⟩
set_option maxHeartbeats 32000000 in
set_option maxRecDepth 100000 in
theorem exactStepThread_c (p : ProgH) (s : StateH) (t : Int) (w : World) (h : At w [fR (progO p), fR (stateO s)]) :
   Calls Tryz.prog 3 #[progV p, stateV s, .int .i64 t] w (Ret w fun v L => v = .bool true ∧ L = []) := by
 obtain ⟨S, c, hS, one⟩ := step_one p.pure s.pure t
 refine calls3 Tryz.func3 rfl tabOk w _ rfl _ rfl _ h ⟨rfl, rfl, rfl, rfl, trivial⟩ _ _ _ (by decide) ?_
 refine stop_call _ cl12 rfl rfl rfl rfl ⟨rfl, rfl⟩ (fun A w hW => ret_abs (szProg_c p 1048576 w ⟨hW.get 0 rfl (.refl _), trivial⟩ (by omega) (by omega))) ?_
 rintro v L ⟨l0, e0, rfl, rfl⟩
 refine CaseB.mk (fun _ => ?_) (fun hz => ?_)
 · exact ret0 ⟨rfl, rfl⟩ (fun _ => rfl)
 have hz0 : ¬ l0 < 0 := by simpa using hz
 obtain ⟨ha, hl⟩ := szProgM_gen p.pure 1048576 (by omega) (by rw [← e0]; exact hz0)
 rw [← e0] at hl
 refine stop_call _ cl13 rfl rfl rfl rfl ⟨rfl, rfl⟩ (fun A w hW => ret_abs (szState_c s l0 w ⟨hW.get 1 rfl (.refl _), trivial⟩ (by omega) hl)) ?_
 rintro v L ⟨l1, e1, rfl, rfl⟩
 refine CaseB.mk (fun _ => ?_) (fun hz => ?_)
 · exact ret0 ⟨rfl, rfl⟩ (fun _ => rfl)
 have hz1 : ¬ l1 < 0 := by simpa using hz
 obtain ⟨hb, _⟩ := szStateM_gen s.pure l0 hl (by rw [← e1]; exact hz1)
 refine draw_cut { y : StateH // y.pure = S } (fun y => .mk [(2, .v (.int .i64 t)), (3, .p 0 0), (4, .p 1 0), (8, .p 2 0), (9, .v (.bool c))] 3 0 [(0, 25, 5), (1, 32, 9), (2, 41, 9)] [((0, 0), .v (p.h0.val p.sems.length)), ((0, 1), .v (p.h1.val p.groups.length)), ((0, 2), .v (p.h2.val p.barriers.length)), ((0, 3), .v (p.h3.val p.rooms.length)), ((0, 4), .v (p.h4.val p.threads.length)), ((1, 0), .v (s.h0.val s.places.length)), ((1, 1), .v (s.h1.val s.status.length)), ((1, 2), .v (s.h2.val s.sems.length)), ((1, 3), .v (s.h3.val s.onces.length)), ((1, 4), .v (s.h4.val s.groups.length)), ((1, 5), .v (s.h5.val s.barriers.length)), ((1, 6), .v (s.h6.val s.chans.length)), ((1, 7), .v (s.h7.val s.said.length)), ((1, 8), .v (.int .i64 s.fault)), ((2, 0), .v (y.1.h0.val y.1.places.length)), ((2, 1), .v (y.1.h1.val y.1.status.length)), ((2, 2), .v (y.1.h2.val y.1.sems.length)), ((2, 3), .v (y.1.h3.val y.1.onces.length)), ((2, 4), .v (y.1.h4.val y.1.groups.length)), ((2, 5), .v (y.1.h5.val y.1.barriers.length)), ((2, 6), .v (y.1.h6.val y.1.chans.length)), ((2, 7), .v (y.1.h7.val y.1.said.length)), ((2, 8), .v (.int .i64 y.1.fault))] [fN (stateO y.1), fR (progO p), fR (stateO s)]) ?_ ?_
 · refine draw_start tabOk z107 z107 z107 200 [((0, 0), .v (p.h0.val p.sems.length)), ((0, 1), .v (p.h1.val p.groups.length)), ((0, 2), .v (p.h2.val p.barriers.length)), ((0, 3), .v (p.h3.val p.rooms.length)), ((0, 4), .v (p.h4.val p.threads.length)), ((1, 0), .v (s.h0.val s.places.length)), ((1, 1), .v (s.h1.val s.status.length)), ((1, 2), .v (s.h2.val s.sems.length)), ((1, 3), .v (s.h3.val s.onces.length)), ((1, 4), .v (s.h4.val s.groups.length)), ((1, 5), .v (s.h5.val s.barriers.length)), ((1, 6), .v (s.h6.val s.chans.length)), ((1, 7), .v (s.h7.val s.said.length)), ((1, 8), .v (.int .i64 s.fault))] [] [] z112 z116 trivial rfl ?_
   refine BothW.mk ?_ ?_
   refine d_call _ cl15 rfl rfl rfl rfl ⟨rfl, rfl⟩ (fun A w hW => toProg_c p w ⟨hW.get 0 rfl (.refl _), trivial⟩ ha) ?_
   rintro v L ⟨y0, rfl, p0, rfl⟩
   refine BothW.mk ?_ ?_
   refine d_call _ cl16 rfl rfl rfl rfl ⟨rfl, rfl⟩ (fun A w hW => toState_c s w ⟨hW.get 2 rfl (.refl _), trivial⟩ hb) ?_
   rintro v L ⟨y1, rfl, p1, rfl⟩
   refine BothW.mk ?_ ?_
   refine d_call _ cl14 rfl rfl rfl rfl ⟨rfl, rfl⟩ (fun A w hW => stepThreadS_c y0 y1 t w ⟨hW.get 1 rfl (.O_R fun _ h => h), hW.get 0 rfl (.O_R fun _ h => h), trivial⟩ z93 z94) ?_
   rintro v L ⟨w0, b0, rfl, i1, i2, i3, rfl⟩
   rotate_left
   refine d_call _ cl14 rfl rfl rfl rfl ⟨rfl, rfl⟩ (fun A w hW => stepThreadS_c y0 y1 t w ⟨hW.get 1 rfl (.O_R fun _ h => h), hW.get 0 rfl (.O_R fun _ h => h), trivial⟩ z93 z94) ?_
   rintro v L ⟨w0, b0, rfl, i1, i2, i3, rfl⟩
   rotate_left
   refine d_call _ cl16 rfl rfl rfl rfl ⟨rfl, rfl⟩ (fun A w hW => toState_c s w ⟨hW.get 2 rfl (.refl _), trivial⟩ hb) ?_
   rintro v L ⟨y1, rfl, p1, rfl⟩
   refine d_call _ cl14 rfl rfl rfl rfl ⟨rfl, rfl⟩ (fun A w hW => stepThreadS_c y0 y1 t w ⟨hW.get 1 rfl (.O_R fun _ h => h), hW.get 0 rfl (.O_R fun _ h => h), trivial⟩ z93 z94) ?_
   rintro v L ⟨w0, b0, rfl, i1, i2, i3, rfl⟩
   rotate_left
   refine d_call _ cl15 rfl rfl rfl rfl ⟨rfl, rfl⟩ (fun A w hW => toProg_c p w ⟨hW.get 0 rfl (.refl _), trivial⟩ ha) ?_
   rintro v L ⟨y0, rfl, p0, rfl⟩
   refine d_call _ cl16 rfl rfl rfl rfl ⟨rfl, rfl⟩ (fun A w hW => toState_c s w ⟨hW.get 2 rfl (.refl _), trivial⟩ hb) ?_
   rintro v L ⟨y1, rfl, p1, rfl⟩
   refine d_call _ cl14 rfl rfl rfl rfl ⟨rfl, rfl⟩ (fun A w hW => stepThreadS_c y0 y1 t w ⟨hW.get 1 rfl (.O_R fun _ h => h), hW.get 0 rfl (.O_R fun _ h => h), trivial⟩ z93 z94) ?_
   rintro v L ⟨w0, b0, rfl, i1, i2, i3, rfl⟩
   all_goals
     rw [p0, p1] at i1 i2
     obtain ⟨hw0, rfl⟩ := one w0 b0 i1 i2 i3
     refine ⟨⟨w0, hw0⟩, ?_⟩
     exact weak_mk [0, 3, 4] zw2 zw0 zw2 zw5 zw4 rfl rfl
 rintro ⟨w0, hw0⟩
 simp only
 refine stop_call _ cl15 rfl rfl rfl rfl ⟨rfl, rfl⟩ (fun A w hW => toProg_c p w ⟨hW.get 1 rfl (.refl _), trivial⟩ ha) ?_
 rintro v L ⟨x0, rfl, hx0, rfl⟩
 refine stop_call _ cl16 rfl rfl rfl rfl ⟨rfl, rfl⟩ (fun A w hW => toState_c s w ⟨hW.get 3 rfl (.refl _), trivial⟩ hb) ?_
 rintro v L ⟨x1, rfl, hx1, rfl⟩
 refine stop_call _ cl17 rfl rfl rfl rfl ⟨rfl, rfl⟩ (fun A w hW => stepThread_c x0 x1 t w ⟨hW.get 1 rfl (.O_R fun _ h => h), hW.get 0 rfl (.O_R fun _ h => h), trivial⟩ (by rw [hx0]; exact ha) (by rw [hx1]; exact hb)) ?_
 rintro v L ⟨g0, b1, rfl, j1, j2, j3, rfl⟩
 rw [hx0, hx1] at j1 j2
 obtain ⟨hg0, hb1⟩ := one g0 b1 j1 j2 j3
 subst hb1
 refine stop_call _ cl18 rfl rfl rfl rfl ⟨rfl, rfl⟩ (fun A w hW => eqState_c g0 w0 w ⟨hW.get 0 rfl (.O_R fun _ h => h), hW.get 3 rfl (fN_fR _), trivial⟩ z92 (by rw [hw0]; exact hS)) ?_
 rintro v L ⟨rfl, rfl⟩
 refine CaseB.mk (fun g => by simp [hg0, hw0] at g) (fun _ => ?_)
 refine CaseB.mk (fun g => by simp at g) (fun _ => ?_)
 refine draw_start tabOk z107 z107 z107 200 [((0, 0), .v (p.h0.val p.sems.length)), ((0, 1), .v (p.h1.val p.groups.length)), ((0, 2), .v (p.h2.val p.barriers.length)), ((0, 3), .v (p.h3.val p.rooms.length)), ((0, 4), .v (p.h4.val p.threads.length)), ((3, 0), .v (x0.h0.val x0.sems.length)), ((3, 1), .v (x0.h1.val x0.groups.length)), ((3, 2), .v (x0.h2.val x0.barriers.length)), ((3, 3), .v (x0.h3.val x0.rooms.length)), ((3, 4), .v (x0.h4.val x0.threads.length))] [] [] ⟨⟨_, rfl, rfl, z79⟩, ⟨_, rfl, rfl, z79⟩, ⟨_, rfl, rfl, z79⟩, ⟨_, rfl, rfl, z79⟩, ⟨_, rfl, rfl, z79⟩, ⟨_, rfl, rfl, z79⟩, ⟨_, rfl, rfl, z79⟩, ⟨_, rfl, rfl, z79⟩, ⟨_, rfl, rfl, z79⟩, ⟨_, rfl, rfl, z79⟩, trivial⟩ ⟨⟨_, rfl⟩, ⟨_, rfl⟩, ⟨_, rfl⟩, ⟨_, rfl⟩, ⟨_, rfl⟩, ⟨_, rfl⟩, ⟨_, rfl⟩, ⟨_, rfl⟩, ⟨_, rfl⟩, ⟨_, rfl⟩, trivial⟩ trivial rfl ?_
 refine d_call _ cl15 rfl rfl rfl rfl ⟨rfl, rfl⟩ (fun A w hW => toProg_c p w ⟨hW.get 4 rfl (.refl _), trivial⟩ ha) ?_
 rintro v L ⟨z0, rfl, r0, rfl⟩
 refine d_call _ cl19 rfl rfl rfl rfl ⟨rfl, rfl⟩ (fun A w hW => eqProg_c x0 z0 w ⟨hW.get 3 rfl (.O_R fun _ h => h), hW.get 0 rfl (.O_R fun _ h => h), trivial⟩ (by rw [hx0]; exact ha) (by rw [r0]; exact ha)) ?_
 rintro v L ⟨rfl, rfl⟩
 refine CaseB.mk (fun g => by simp [hx0, r0] at g) (fun _ => ?_)
 refine draw_start tabOk z107 z107 z107 200 [((1, 0), .v (s.h0.val s.places.length)), ((1, 1), .v (s.h1.val s.status.length)), ((1, 2), .v (s.h2.val s.sems.length)), ((1, 3), .v (s.h3.val s.onces.length)), ((1, 4), .v (s.h4.val s.groups.length)), ((1, 5), .v (s.h5.val s.barriers.length)), ((1, 6), .v (s.h6.val s.chans.length)), ((1, 7), .v (s.h7.val s.said.length)), ((1, 8), .v (.int .i64 s.fault)), ((4, 0), .v (x1.h0.val x1.places.length)), ((4, 1), .v (x1.h1.val x1.status.length)), ((4, 2), .v (x1.h2.val x1.sems.length)), ((4, 3), .v (x1.h3.val x1.onces.length)), ((4, 4), .v (x1.h4.val x1.groups.length)), ((4, 5), .v (x1.h5.val x1.barriers.length)), ((4, 6), .v (x1.h6.val x1.chans.length)), ((4, 7), .v (x1.h7.val x1.said.length)), ((4, 8), .v (.int .i64 x1.fault))] [] [] ⟨⟨_, rfl, rfl, z79⟩, ⟨_, rfl, rfl, z79⟩, ⟨_, rfl, rfl, z79⟩, ⟨_, rfl, rfl, z79⟩, ⟨_, rfl, rfl, z79⟩, ⟨_, rfl, rfl, z79⟩, ⟨_, rfl, rfl, z79⟩, ⟨_, rfl, rfl, z79⟩, ⟨_, rfl, rfl, z79⟩, ⟨_, rfl, rfl, z79⟩, ⟨_, rfl, rfl, z79⟩, ⟨_, rfl, rfl, z79⟩, ⟨_, rfl, rfl, z79⟩, ⟨_, rfl, rfl, z79⟩, ⟨_, rfl, rfl, z79⟩, ⟨_, rfl, rfl, z79⟩, ⟨_, rfl, rfl, z79⟩, ⟨_, rfl, rfl, z79⟩, trivial⟩ ⟨⟨_, rfl⟩, ⟨_, rfl⟩, ⟨_, rfl⟩, ⟨_, rfl⟩, ⟨_, rfl⟩, ⟨_, rfl⟩, ⟨_, rfl⟩, ⟨_, rfl⟩, ⟨_, rfl⟩, ⟨_, rfl⟩, ⟨_, rfl⟩, ⟨_, rfl⟩, ⟨_, rfl⟩, ⟨_, rfl⟩, ⟨_, rfl⟩, ⟨_, rfl⟩, ⟨_, rfl⟩, ⟨_, rfl⟩, trivial⟩ trivial rfl ?_
 refine d_call _ cl16 rfl rfl rfl rfl ⟨rfl, rfl⟩ (fun A w hW => toState_c s w ⟨hW.get 6 rfl (.refl _), trivial⟩ hb) ?_
 rintro v L ⟨z1, rfl, r1, rfl⟩
 refine d_call _ cl18 rfl rfl rfl rfl ⟨rfl, rfl⟩ (fun A w hW => eqState_c x1 z1 w ⟨hW.get 3 rfl (.O_R fun _ h => h), hW.get 0 rfl (.O_R fun _ h => h), trivial⟩ (by rw [hx1]; exact hb) (by rw [r1]; exact hb)) ?_
 rintro v L ⟨rfl, rfl⟩
 refine CaseB.mk (fun g => by simp [hx1, r1] at g) (fun _ => ?_)
 have hx0s : x0.pure.small20 := by rw [hx0]; exact ha
 have hx1s : x1.pure.small20 := by rw [hx1]; exact hb
 have hk := atProg4_le x0 1 hx0s
 refine stop_callG _ [4] (G := [_]) cl20 rfl rfl rfl rfl ⟨rfl, rfl⟩ ⟨rfl, trivial⟩ ⟨rfl, rfl, trivial⟩ (fun A w hW => (markProg_c x0 1 w (hW.atG [4] (G := [_]) ⟨rfl, trivial⟩ rfl ⟨rfl, rfl, trivial⟩ [] (Fo := []) trivial rfl) hx0s (by decide))) ?_
 rintro v L ⟨rfl, rfl⟩
 generalize atProg4 1 x0 = k0 at hk ⊢
 refine stop_callG _ [4] (G := [_]) cl21 rfl rfl rfl rfl ⟨rfl, rfl⟩ ⟨rfl, trivial⟩ ⟨rfl, rfl, trivial⟩ (fun A w hW => (markState_c x1 k0 w (hW.atG [4] (G := [_]) ⟨rfl, trivial⟩ rfl ⟨rfl, rfl, trivial⟩ [] (Fo := []) trivial rfl) hx1s (by omega))) ?_
 rintro v L ⟨rfl, rfl⟩
 refine CaseB.mk (fun g => by have g' := of_decide_eq_true g; omega) (fun _ => ?_)
 refine stop_call _ cl18 rfl rfl rfl rfl ⟨rfl, rfl⟩ (fun A w hW => eqState_c g0 w0 w ⟨hW.get 4 rfl (.O_R fun _ h => h), hW.get 5 rfl (fN_fR _), trivial⟩ z92 (by rw [hw0]; exact hS)) ?_
 rintro v L ⟨rfl, rfl⟩
 refine CaseB.mk (fun g => by simp [hg0, hw0] at g) (fun _ => ?_)
 refine CaseB.mk (fun g => by simp at g) (fun _ => ?_)
 refine stop_callG _ [4] (G := [_]) cl21 rfl rfl rfl rfl ⟨rfl, rfl⟩ ⟨rfl, trivial⟩ ⟨rfl, rfl, trivial⟩ (fun A w hW => (markState_c g0 1 w (hW.atG [4] (G := [_]) ⟨rfl, trivial⟩ rfl ⟨rfl, rfl, trivial⟩ [] (Fo := []) trivial rfl) z92 (by decide))) ?_
 rintro v L ⟨rfl, rfl⟩
 refine stop_call _ cl22 rfl rfl rfl rfl ⟨rfl, rfl⟩ (fun A w hW => heldState_V2 g0 1 w ⟨hW.get 0 rfl (.O_R fun _ h => h), trivial⟩ z92 (by decide)) ?_
 rintro v L ⟨rfl, rfl⟩
 refine CaseB.mk (fun g => by have g' := of_decide_eq_true g; omega) (fun _ => ?_)
 refine CaseB.mk (fun g => by simp at g) (fun _ => ?_)
 refine draw_cut { y : StateH // y.pure = S } (fun y => .mk [(8, .p 2 0), (9, .v (.bool b1)), (12, .p 5 0), (15, .v (.int .i64 ((atState7 1 g0 : Nat) : Int))), (17, .p 6 0), (18, .v (.bool b1))] 7 0 [(2, 41, 9), (5, 41, 9), (6, 41, 9)] [((2, 0), .v (w0.h0.val w0.places.length)), ((2, 1), .v (w0.h1.val w0.status.length)), ((2, 2), .v (w0.h2.val w0.sems.length)), ((2, 3), .v (w0.h3.val w0.onces.length)), ((2, 4), .v (w0.h4.val w0.groups.length)), ((2, 5), .v (w0.h5.val w0.barriers.length)), ((2, 6), .v (w0.h6.val w0.chans.length)), ((2, 7), .v (w0.h7.val w0.said.length)), ((2, 8), .v (.int .i64 w0.fault)), ((5, 0), .v (g0.h0.val g0.places.length)), ((5, 1), .v (g0.h1.val g0.status.length)), ((5, 2), .v (g0.h2.val g0.sems.length)), ((5, 3), .v (g0.h3.val g0.onces.length)), ((5, 4), .v (g0.h4.val g0.groups.length)), ((5, 5), .v (g0.h5.val g0.barriers.length)), ((5, 6), .v (g0.h6.val g0.chans.length)), ((5, 7), .v (g0.h7.val g0.said.length)), ((5, 8), .v (.int .i64 g0.fault)), ((6, 0), .v (y.1.h0.val y.1.places.length)), ((6, 1), .v (y.1.h1.val y.1.status.length)), ((6, 2), .v (y.1.h2.val y.1.sems.length)), ((6, 3), .v (y.1.h3.val y.1.onces.length)), ((6, 4), .v (y.1.h4.val y.1.groups.length)), ((6, 5), .v (y.1.h5.val y.1.barriers.length)), ((6, 6), .v (y.1.h6.val y.1.chans.length)), ((6, 7), .v (y.1.h7.val y.1.said.length)), ((6, 8), .v (.int .i64 y.1.fault))] [fO (stateO y.1), fO (stateO (mkState 1 g0)), fN (stateO w0)]) ?_ ?_
 · refine draw_start tabOk z107 z107 z107 200 [((0, 0), .v (p.h0.val p.sems.length)), ((0, 1), .v (p.h1.val p.groups.length)), ((0, 2), .v (p.h2.val p.barriers.length)), ((0, 3), .v (p.h3.val p.rooms.length)), ((0, 4), .v (p.h4.val p.threads.length)), ((1, 0), .v (s.h0.val s.places.length)), ((1, 1), .v (s.h1.val s.status.length)), ((1, 2), .v (s.h2.val s.sems.length)), ((1, 3), .v (s.h3.val s.onces.length)), ((1, 4), .v (s.h4.val s.groups.length)), ((1, 5), .v (s.h5.val s.barriers.length)), ((1, 6), .v (s.h6.val s.chans.length)), ((1, 7), .v (s.h7.val s.said.length)), ((1, 8), .v (.int .i64 s.fault))] [] [] z112 z116 trivial rfl ?_
   refine BothW.mk ?_ ?_
   refine d_call _ cl15 rfl rfl rfl rfl ⟨rfl, rfl⟩ (fun A w hW => toProg_c p w ⟨hW.get 6 rfl (.refl _), trivial⟩ ha) ?_
   rintro v L ⟨p2, rfl, p0, rfl⟩
   refine BothW.mk ?_ ?_
   refine d_call _ cl16 rfl rfl rfl rfl ⟨rfl, rfl⟩ (fun A w hW => toState_c s w ⟨hW.get 8 rfl (.refl _), trivial⟩ hb) ?_
   rintro v L ⟨s2, rfl, p1, rfl⟩
   refine BothW.mk ?_ ?_
   refine d_call _ cl17 rfl rfl rfl rfl ⟨rfl, rfl⟩ (fun A w hW => stepThread_c p2 s2 t w ⟨hW.get 1 rfl (.O_R fun _ h => h), hW.get 0 rfl (.O_R fun _ h => h), trivial⟩ z93 z94) ?_
   rintro v L ⟨v0, b2, rfl, i1, i2, i3, rfl⟩
   rotate_left
   refine d_call _ cl17 rfl rfl rfl rfl ⟨rfl, rfl⟩ (fun A w hW => stepThread_c p2 s2 t w ⟨hW.get 1 rfl (.O_R fun _ h => h), hW.get 0 rfl (.O_R fun _ h => h), trivial⟩ z93 z94) ?_
   rintro v L ⟨v0, b2, rfl, i1, i2, i3, rfl⟩
   rotate_left
   refine d_call _ cl16 rfl rfl rfl rfl ⟨rfl, rfl⟩ (fun A w hW => toState_c s w ⟨hW.get 8 rfl (.refl _), trivial⟩ hb) ?_
   rintro v L ⟨s2, rfl, p1, rfl⟩
   refine d_call _ cl17 rfl rfl rfl rfl ⟨rfl, rfl⟩ (fun A w hW => stepThread_c p2 s2 t w ⟨hW.get 1 rfl (.O_R fun _ h => h), hW.get 0 rfl (.O_R fun _ h => h), trivial⟩ z93 z94) ?_
   rintro v L ⟨v0, b2, rfl, i1, i2, i3, rfl⟩
   rotate_left
   refine d_call _ cl15 rfl rfl rfl rfl ⟨rfl, rfl⟩ (fun A w hW => toProg_c p w ⟨hW.get 6 rfl (.refl _), trivial⟩ ha) ?_
   rintro v L ⟨p2, rfl, p0, rfl⟩
   refine d_call _ cl16 rfl rfl rfl rfl ⟨rfl, rfl⟩ (fun A w hW => toState_c s w ⟨hW.get 8 rfl (.refl _), trivial⟩ hb) ?_
   rintro v L ⟨s2, rfl, p1, rfl⟩
   refine d_call _ cl17 rfl rfl rfl rfl ⟨rfl, rfl⟩ (fun A w hW => stepThread_c p2 s2 t w ⟨hW.get 1 rfl (.O_R fun _ h => h), hW.get 0 rfl (.O_R fun _ h => h), trivial⟩ z93 z94) ?_
   rintro v L ⟨v0, b2, rfl, i1, i2, i3, rfl⟩
   all_goals
     rw [p0, p1] at i1 i2
     obtain ⟨hw0, rfl⟩ := one v0 b2 i1 i2 i3
     refine ⟨⟨v0, hw0⟩, ?_⟩
     exact weak_mk [0, 3, 8] zw2 zw0 zw2 zw5 zw4 rfl rfl
 rintro ⟨v0, hv0⟩
 simp only
 refine stop_call _ cl18 rfl rfl rfl rfl ⟨rfl, rfl⟩ (fun A w hW => eqState_c v0 w0 w ⟨hW.get 0 rfl (.O_R fun _ h => h), hW.get 2 rfl (fN_fR _), trivial⟩ (by rw [hv0]; exact hS) (by rw [hw0]; exact hS)) ?_
 rintro v L ⟨rfl, rfl⟩
 refine CaseB.mk (fun g => by simp [hv0, hw0] at g) (fun _ => ?_)
 refine CaseB.mk (fun g => by simp at g) (fun _ => ?_)
 refine stop_call _ cl22 rfl rfl rfl rfl ⟨rfl, rfl⟩ (fun A w hW => heldState_V2 g0 1 w ⟨hW.get 1 rfl (.O_R fun _ h => h), trivial⟩ z92 (by decide)) ?_
 rintro v L ⟨rfl, rfl⟩
 refine CaseB.mk (fun g => by have g' := of_decide_eq_true g; omega) (fun _ => ?_)
 refine CaseB.mk (fun g => by simp at g) (fun _ => ?_)
 exact ret0 ⟨rfl, rfl⟩ (fun _ => rfl)
end Go.Proofs.YtklclbcckjhdpaaGreat
namespace Go.Sx
open Go Go.RowKit Go.ChangeShapes Go.WideShapes
theorem trodAll_below {H : Type} {enc : TypeId × Value → H} {P : Program} (hl : laidOutB P = true) {W W' : World} (hb : Below W.heap.size W W') (sp : Nat → Bool) : ∀ {ts : List TypeId} {vs : List Value} {ds : List (DataW H)} {ps : List MemPlace}, (∀ t ∈ ts, P.readableRec t = true ∧ t < P.types.size) →
   DataW.TrodAll enc P W 0 (fun _ => true) true ts vs ds ps → (∀ x ∈ ps, x.block < W.heap.size) → (∀ x ∈ ps, sp x.block = true) → DataW.TrodAll enc P W' 0 sp true ts vs ds ps
 | [], [], [], ps, _, h, _, _ => h
 | t :: ts, v :: vs, d :: ds, ps, hr, h, hlt, hsp => by
   obtain ⟨p, q, h1, h2, rfl⟩ := h
   have ht := hr t (by simp)
   exact ⟨p, q, WideElems.Trod_stays hl ht.1 ht.2 h1 (fun x hx => hb.same (hlt x (by simp [hx]))) (fun x hx => hsp x (by simp [hx])),
     trodAll_below hl hb sp (fun t ht => hr t (by simp [ht])) h2 (fun x hx => hlt x (by simp [hx])) (fun x hx => hsp x (by simp [hx])), rfl⟩
 | [], _ :: _, _, _, _, h, _, _ => h.elim
 | _ :: _, [], _, _, _, h, _, _ => h.elim
 | [], [], _ :: _, _, _, h, _, _ => h.elim
 | _ :: _, _ :: _, [], _, _, h, _, _ => h.elim
theorem law_post {H : Type} {enc : TypeId × Value → H} {P : Program} {f : Func} {s : ChangeSpec} {apart fresh handsOn again : Bool} {W W' : World} {args : Array Value} {ds gs : List (DataW H)} {before : List MemPlace} {tb : TypeId} {pl : List TypeId}
   (hl : laidOutB P = true) (hpl : f.params.toList = pl) (hp : pl.all (fun t => P.readableRec t && decide (t < P.types.size)) = true) (hvars : s.vars = []) (hres : f.resultTypes = #[tb]) (htb : P.underlying tb = some .bool)
   (hspec : s.fn H (ds ++ gs) = { results := [.lit (.bool true)], args := ds })
   (hW : DataW.Whole enc P f.params.toList s.vars apart W args.toList ds gs before) (hb : Below W.heap.size W W') :
   s.post enc P f apart fresh handsOn again W args (.bool true) W' := by
 have hold : ∀ p ∈ before, p.block < W.heap.size := fun p hp => by simpa using hW.lt p hp
 have hW0 := hW
 obtain ⟨pa, pv, hA, hV, hbef, hfz, hnd⟩ := hW
 have hbef' := hbef.symm; clear hbef
 rw [hvars] at hV
 obtain ⟨rfl, rfl⟩ := trodVars_none hV
 rw [List.append_nil] at hbef'
 subst hbef'
 rw [List.append_nil] at hspec
 have hp' : ∀ t ∈ f.params.toList, P.readableRec t = true ∧ t < P.types.size := fun t ht => by
   rw [hpl] at ht
   have := List.all_eq_true.1 hp t ht
   simpa using this
 have hB : ∀ (b : Nat) (sp : Nat → Bool) (hd : Bool), DataW.Trod enc P W' b sp hd tb (.bool true) (.lit (.bool true)) [] := fun b sp hd => ⟨1, by simp [DataW.trod, Value.cells, htb]⟩
 have hrl : (Value.bool true).resultList f.resultTypes.size = [.bool true] := by rw [hres]; rfl
 have hR : ∀ (b : Nat) (sp : Nat → Bool) (hd : Bool), DataW.TrodAll enc P W' b sp hd f.resultTypes.toList ((Value.bool true).resultList f.resultTypes.size) [.lit (.bool true)] [] := fun b sp hd => by
   rw [hrl, hres]; exact trodAll_mk1 (hB b sp hd)
 have hAr := fun sp h => trodAll_below hl hb sp hp' hA hold h
 have hvv : ∀ sp, DataW.TrodVars enc P W' sp s.vars ([] : List (DataW H)) [] := fun sp => by rw [hvars]; rfl
 refine ⟨ds, [], pa, [], pa, [], hW0, ?_, ?_, ?_, ?_, fun _ => ⟨?_, [.lit (.bool true)] ++ ds, [], [] ++ pa, ⟨[] ++ pa, [], trodAll_append (hAr _ (fun _ _ => rfl)) (hR _ _ _), hvv _, by simp, ?_, ?_⟩, fun p hp _ => by simpa using hp⟩⟩
 · simp only [List.append_nil, hspec]; exact hR _ _ _
 · simp only [List.append_nil, hspec]; exact hAr _ (fun p hp => by simpa using hold p hp)
 · simp only [List.append_nil, hspec]; exact hvv _
 · exact World.keptBut_mono (fun p hp => hp.elim) (hb.frame (fun _ => False))
 · intro j t r hj hv
   rw [hrl] at hv
   rw [hres] at hj
   cases j with
   | succ j => simp at hv
   | zero =>
     simp at hj hv
     subst hj; subst hv
     simp [Value.okWide, htb, Cell.okWide, Cell.ok]
 · intro b off hp
   rw [hb.frozen (hold _ (by simpa using hp))]
   exact hfz b off (by simpa using hp)
 · intro h
   simpa using hnd h
section
variable {H : Type} {enc : TypeId × Value → H} {P : Program} {W : World}
theorem cells_inv {α : Type} {el : α → List Value} {sz : Nat} (he : Enc el sz) (h0 : 0 < sz) {xs : List α} {j : Nat} {u : Value} (h : (cells el xs)[j]? = some u) : ∃ (k r : Nat) (hk : k < xs.length), j = k * sz + r ∧ (el xs[k])[r]? = some u := by
 have hlt : j < xs.length * sz := by rw [← cells_length he]; exact (List.getElem?_eq_some_iff.1 h).1
 have hk : j / sz < xs.length := Nat.div_lt_of_lt_mul (by rwa [Nat.mul_comm] at hlt)
 have hr : j % sz < sz := Nat.mod_lt _ h0
 have hj : j = j / sz * sz + j % sz := (Nat.div_add_mod' j sz).symm
 refine ⟨j / sz, j % sz, hk, hj, ?_⟩
 have hr' : j % sz < (el xs[j / sz]).length := by rw [he.len]; exact hr
 have := cells_at he hk (List.getElem?_eq_getElem hr')
 rw [← hj, h] at this
 rw [List.getElem?_eq_getElem hr', ← this]
theorem open_sl {α : Type} {el : α → List Value} {sz : Nat} (he : Enc el sz) (h0 : 0 < sz) {t e : TypeId} {fuel : Nat} {cs : List Value} {x : DataW H × List MemPlace} (ht : P.underlying t = some (.slice e)) (hc : P.cellsOf e = sz)
   (hel : ∀ n cs y, DataW.trod enc P W 0 (fun _ => true) true n e cs = some y → ∃ a : α, cs = el a)
   (h : DataW.trod enc P W 0 (fun _ => true) true fuel t cs = some x) :
   ∃ (i : Sl) (xs : List α), cs = [i.val xs.length] ∧ RdS W i sz (cells el xs) xs.length ∧ ∀ b, (fSl true i sz (cells el xs) xs.length).foot b → b < W.heap.size := by
 rcases Deep.open_slice ht h with ⟨rfl, rfl⟩ | ⟨a, len, cap, m, n, D, Pl, rfl, hb, hl, hm, hmm, rfl, hx⟩
 · exact ⟨⟨none, 0⟩, [], rfl, ⟨by simp [cells], by simp, by simp [maxLen], fun h => by simp at h⟩, fun b hb => by have := hb.1; simp at this⟩
 · rw [hc] at hx
   have hlm : len ≤ m := by rw [hmm]; simp; omega
   have hone : ∀ i, i < len → ∃ y : α, ∀ r u, (el y)[r]? = some u → W.cell? (a.add (i * sz + r)) = some u := fun i hi => by
     obtain ⟨cs', h1, h2⟩ := hx i (by omega)
     obtain ⟨y, rfl⟩ := hel _ _ _ h2
     obtain ⟨_, g1, g2⟩ := World.cells?_some h1
     refine ⟨y, fun r u hu => ?_⟩
     have hr : r < sz := by rw [← g1]; exact (List.getElem?_eq_some_iff.1 hu).1
     have := g2 r hr
     rw [addr_add_add, hu] at this
     exact this
   rcases Nat.eq_zero_or_pos len with hz | hz
   · subst hz
     exact ⟨⟨some a, cap⟩, [], rfl, ⟨by simp [cells], by simp, hm, fun h => by simp at h⟩, fun b hb => by have := hb.1; simp at this⟩
   · have : Inhabited α := ⟨(hone 0 hz).choose⟩
     obtain ⟨X, hX⟩ := Deep.choose_lt hone
     have hlen : ((List.range len).map X).length = len := by simp
     refine ⟨⟨some a, cap⟩, (List.range len).map X, by rw [hlen]; rfl, ⟨by rw [cells_length he], by rw [hlen]; exact hl, hm, fun _ => ⟨a, rfl, fun j u hu => ?_⟩⟩, ?_⟩
     · obtain ⟨k, r, hk, rfl, hu'⟩ := cells_inv he h0 hu
       have hk' : k < len := by simpa using hk
       exact hX k hk' r u (by simpa using hu')
     · rintro b ⟨_, ad, had, rfl⟩
       injection had with had
       subst had
       have hr : 0 < (el (X 0)).length := by rw [he.len]; exact h0
       have hc0 := hX 0 hz 0 _ (List.getElem?_eq_getElem hr)
       unfold World.cell? at hc0
       rw [block_add] at hc0
       cases hh : W.heap[a.block]? with
       | none => rw [hh] at hc0; simp at hc0
       | some o => exact (Array.getElem?_eq_some_iff.1 hh).1
theorem trod_fields {t : TypeId} {sp : Nat → Bool} {hd : Bool} {b fuel sz : Nat} {cs : List Value} {x : DataW H × List MemPlace} {l : List (TypeId × Nat × Nat)} (hS : P.underlying t = some (.struct (P.fieldsOf t)))
   (hF : (P.fieldsOf t).toList.map (fun f => (f.type, f.offset, P.cellsOf f.type)) = l) (hsz : P.cellsOf t = sz) (h : DataW.trod enc P W b sp hd fuel t cs = some x) :
   cs.length = sz ∧ ∃ n, ∀ (j : Nat) (ty : TypeId) (off c : Nat), l[j]? = some (ty, off, c) → ∃ y, DataW.trod enc P W b sp hd n ty ((cs.drop off).take c) = some y := by
 obtain ⟨xs, n, _, _, hl, hn, hf⟩ := DataW.trod_struct hS h
 refine ⟨hl.trans hsz, n, fun j ty off c hj => ?_⟩
 rw [← hF, List.getElem?_map] at hj
 cases hfj : (P.fieldsOf t).toList[j]? with
 | none => rw [hfj] at hj; simp at hj
 | some f =>
   rw [hfj] at hj
   simp only [Option.map_some, Option.some.injEq, Prod.mk.injEq] at hj
   obtain ⟨rfl, rfl, rfl⟩ := hj
   have hfj' : (P.fieldsOf t)[j]? = some f := by simpa using hfj
   have := hf j f hfj'
   have hlt : j < xs.length := by rw [hn]; exact (Array.getElem?_eq_some_iff.1 hfj').1
   rw [List.getElem?_eq_getElem hlt] at this
   exact ⟨_, this⟩
end
end Go.Sx
namespace Go.Proofs.YtklclbcckjhdpaaGreat
open Go Go.Sx Go.RowKit Go.ChangeShapes Go.WideShapes
theorem ownNone : ownKnob Tryz.prog.godebug = none := by kernel_rfl
theorem laidOut : laidOutB Tryz.prog = true := by kernel_rfl
theorem undBool : Tryz.prog.underlying 4 = some .bool := by kernel_rfl
end Go.Proofs.YtklclbcckjhdpaaGreat
namespace Go.Sx
open Go Go.RowKit Go.ChangeShapes Go.WideShapes
def AllR (W : World) (G : List Fct) : Prop := ∀ f ∈ G, f.aged.P W ∧ ∀ b, f.aged.foot b → b < W.heap.size
theorem AllR.nil (W : World) : AllR W [] := fun _ h => by cases h
theorem AllR.cons {W : World} {f : Fct} {G : List Fct} (h : f.aged.P W ∧ ∀ b, f.aged.foot b → b < W.heap.size) (k : AllR W G) : AllR W (f :: G) := fun g hg => by
 rcases List.mem_cons.1 hg with rfl | hg
 · exact h
 · exact k g hg
theorem AllR.append {W : World} {G H : List Fct} (h : AllR W G) (k : AllR W H) : AllR W (G ++ H) := fun g hg => by
 rcases List.mem_append.1 hg with hg | hg
 · exact h g hg
 · exact k g hg
theorem AllR.flat {W : World} {α : Type} {xs : List α} {inner : α → List Fct} (h : ∀ x ∈ xs, AllR W (inner x)) : AllR W (xs.flatMap inner) := fun g hg => by
 obtain ⟨x, hx, hg⟩ := List.mem_flatMap.1 hg
 exact h x hx g hg
theorem AllR.at {W : World} {G : List Fct} (h : AllR W G) : (fR G).P W ∧ ∀ b, (fR G).foot b → b < W.heap.size := by
 refine ⟨fun g hg => ?_, ?_⟩
 · obtain ⟨f, hf, rfl⟩ := List.mem_map.1 hg
   exact (h f hf).1
 · rintro b ⟨g, hg, hb⟩
   obtain ⟨f, hf, rfl⟩ := List.mem_map.1 hg
   exact (h f hf).2 b hb
section
variable {H : Type} {enc : TypeId × Value → H} {P : Program} {W : World}
theorem open_slQ {α : Type} {el : α → List Value} {sz : Nat} {Q : α → Prop} (he : Enc el sz) (h0 : 0 < sz) {t e : TypeId} {fuel : Nat} {cs : List Value} {x : DataW H × List MemPlace} (ht : P.underlying t = some (.slice e)) (hc : P.cellsOf e = sz)
   (hel : ∀ n cs y, DataW.trod enc P W 0 (fun _ => true) true n e cs = some y → ∃ a : α, cs = el a ∧ Q a)
   (h : DataW.trod enc P W 0 (fun _ => true) true fuel t cs = some x) :
   ∃ (i : Sl) (xs : List α), cs = [i.val xs.length] ∧ RdS W i sz (cells el xs) xs.length ∧ (∀ b, (fSl true i sz (cells el xs) xs.length).foot b → b < W.heap.size) ∧ ∀ x ∈ xs, Q x := by
 rcases Deep.open_slice ht h with ⟨rfl, rfl⟩ | ⟨a, len, cap, m, n, D, Pl, rfl, hb, hl, hm, hmm, rfl, hx⟩
 · exact ⟨⟨none, 0⟩, [], rfl, ⟨by simp [cells], by simp, by simp [maxLen], fun h => by simp at h⟩, fun b hb => by have := hb.1; simp at this, by simp⟩
 · rw [hc] at hx
   have hlm : len ≤ m := by rw [hmm]; simp; omega
   have hone : ∀ i, i < len → ∃ y : α, (∀ r u, (el y)[r]? = some u → W.cell? (a.add (i * sz + r)) = some u) ∧ Q y := fun i hi => by
     obtain ⟨cs', h1, h2⟩ := hx i (by omega)
     obtain ⟨y, rfl, hq⟩ := hel _ _ _ h2
     obtain ⟨_, g1, g2⟩ := World.cells?_some h1
     refine ⟨y, fun r u hu => ?_, hq⟩
     have hr : r < sz := by rw [← g1]; exact (List.getElem?_eq_some_iff.1 hu).1
     have := g2 r hr
     rw [addr_add_add, hu] at this
     exact this
   rcases Nat.eq_zero_or_pos len with hz | hz
   · subst hz
     exact ⟨⟨some a, cap⟩, [], rfl, ⟨by simp [cells], by simp, hm, fun h => by simp at h⟩, fun b hb => by have := hb.1; simp at this, by simp⟩
   · have : Inhabited α := ⟨(hone 0 hz).choose⟩
     obtain ⟨X, hX⟩ := Deep.choose_lt hone
     have hlen : ((List.range len).map X).length = len := by simp
     refine ⟨⟨some a, cap⟩, (List.range len).map X, by rw [hlen]; rfl, ⟨by rw [cells_length he], by rw [hlen]; exact hl, hm, fun _ => ⟨a, rfl, fun j u hu => ?_⟩⟩, ?_, ?_⟩
     · obtain ⟨k, r, hk, rfl, hu'⟩ := cells_inv he h0 hu
       have hk' : k < len := by simpa using hk
       exact (hX k hk').1 r u (by simpa using hu')
     · rintro b ⟨_, ad, had, rfl⟩
       injection had with had
       subst had
       have hr : 0 < (el (X 0)).length := by rw [he.len]; exact h0
       have hc0 := (hX 0 hz).1 0 _ (List.getElem?_eq_getElem hr)
       unfold World.cell? at hc0
       rw [block_add] at hc0
       cases hh : W.heap[a.block]? with
       | none => rw [hh] at hc0; simp at hc0
       | some o => exact (Array.getElem?_eq_some_iff.1 hh).1
     · intro x hx
       obtain ⟨k, hk, rfl⟩ := List.mem_map.1 hx
       exact (hX k (by simpa using hk)).2
end
end Go.Sx
namespace Go.Proofs.YtklclbcckjhdpaaGreat
open Go Go.Sx Go.RowKit Go.ChangeShapes Go.WideShapes
theorem undI : Tryz.prog.underlying 3 = some (.int .i64) := by kernel_rfl
theorem undIs : Tryz.prog.underlying 22 = some (.slice 3) := by kernel_rfl
theorem el_int {H : Type} {enc : TypeId × Value → H} {W : World} : ∀ (n : Nat) (cs : List Value) (y : DataW H × List MemPlace), DataW.trod enc Tryz.prog W 0 (fun _ => true) true n 3 cs = some y → ∃ a : Int, cs = cInt a := fun n cs y hy => by
 obtain ⟨k, h1, _, _⟩ := DataW.trod_int undI hy
 exact ⟨k, h1⟩
theorem structWaiter : Tryz.prog.underlying 242 = some (.struct (Tryz.prog.fieldsOf 242)) := by kernel_rfl
theorem fieldsWaiter : (Tryz.prog.fieldsOf 242).toList.map (fun f => (f.type, f.offset, Tryz.prog.cellsOf f.type)) = [(3, 0, 1), (3, 1, 1)] := by kernel_rfl
theorem undWaiterS : Tryz.prog.underlying 163 = some (.slice 242) := by kernel_rfl
set_option maxRecDepth 100000 in
theorem el_Waiter {H : Type} {enc : TypeId × Value → H} {W : World} : ∀ (n : Nat) (cs : List Value) (y : DataW H × List MemPlace), DataW.trod enc Tryz.prog W 0 (fun _ => true) true n 242 cs = some y → ∃ a : Waiter, cs = cWaiter a := fun n cs y hy => by
 obtain ⟨hl, k, hx⟩ := trod_fields structWaiter fieldsWaiter (sz := 2) z107 hy
 match cs, hl with
 | [a0, a1], _ =>
   obtain ⟨_, h0⟩ := hx 0 _ _ _ rfl
   obtain ⟨p0, e0⟩ := el_int _ _ _ h0
   obtain ⟨_, h1⟩ := hx 1 _ _ _ rfl
   obtain ⟨p1, e1⟩ := el_int _ _ _ h1
   simp [cInt] at e0 e1
   exact ⟨⟨p0, p1⟩, by simp [cWaiter, e0, e1]⟩
theorem structLetter : Tryz.prog.underlying 244 = some (.struct (Tryz.prog.fieldsOf 244)) := by kernel_rfl
theorem fieldsLetter : (Tryz.prog.fieldsOf 244).toList.map (fun f => (f.type, f.offset, Tryz.prog.cellsOf f.type)) = [(3, 0, 1), (3, 1, 1)] := by kernel_rfl
theorem undLetterS : Tryz.prog.underlying 173 = some (.slice 244) := by kernel_rfl
set_option maxRecDepth 100000 in
theorem el_Letter {H : Type} {enc : TypeId × Value → H} {W : World} : ∀ (n : Nat) (cs : List Value) (y : DataW H × List MemPlace), DataW.trod enc Tryz.prog W 0 (fun _ => true) true n 244 cs = some y → ∃ a : Letter, cs = cLet a := fun n cs y hy => by
 obtain ⟨hl, k, hx⟩ := trod_fields structLetter fieldsLetter (sz := 2) z107 hy
 match cs, hl with
 | [a0, a1], _ =>
   obtain ⟨_, h0⟩ := hx 0 _ _ _ rfl
   obtain ⟨p0, e0⟩ := el_int _ _ _ h0
   obtain ⟨_, h1⟩ := hx 1 _ _ _ rfl
   obtain ⟨p1, e1⟩ := el_int _ _ _ h1
   simp [cInt] at e0 e1
   exact ⟨⟨p0, p1⟩, by simp [cLet, e0, e1]⟩
theorem structOp : Tryz.prog.underlying 228 = some (.struct (Tryz.prog.fieldsOf 228)) := by kernel_rfl
theorem fieldsOp : (Tryz.prog.fieldsOf 228).toList.map (fun f => (f.type, f.offset, Tryz.prog.cellsOf f.type)) = [(3, 0, 1), (3, 1, 1), (3, 2, 1)] := by kernel_rfl
theorem undOpS : Tryz.prog.underlying 161 = some (.slice 228) := by kernel_rfl
set_option maxRecDepth 100000 in
theorem el_Op {H : Type} {enc : TypeId × Value → H} {W : World} : ∀ (n : Nat) (cs : List Value) (y : DataW H × List MemPlace), DataW.trod enc Tryz.prog W 0 (fun _ => true) true n 228 cs = some y → ∃ a : Op, cs = cOp a := fun n cs y hy => by
 obtain ⟨hl, k, hx⟩ := trod_fields structOp fieldsOp (sz := 3) z107 hy
 match cs, hl with
 | [a0, a1, a2], _ =>
   obtain ⟨_, h0⟩ := hx 0 _ _ _ rfl
   obtain ⟨p0, e0⟩ := el_int _ _ _ h0
   obtain ⟨_, h1⟩ := hx 1 _ _ _ rfl
   obtain ⟨p1, e1⟩ := el_int _ _ _ h1
   obtain ⟨_, h2⟩ := hx 2 _ _ _ rfl
   obtain ⟨p2, e2⟩ := el_int _ _ _ h2
   simp [cInt] at e0 e1 e2
   exact ⟨⟨p0, p1, p2⟩, by simp [cOp, e0, e1, e2]⟩
theorem undOpSS : Tryz.prog.underlying 23 = some (.slice 161) := by kernel_rfl
theorem el_OpS {H : Type} {enc : TypeId × Value → H} {W : World} : ∀ (n : Nat) (cs : List Value) (y : DataW H × List MemPlace), DataW.trod enc Tryz.prog W 0 (fun _ => true) true n 161 cs = some y → ∃ a : OpSH, cs = cOpSH a ∧ AllR W (opSO a) := fun n cs y hy => by
 obtain ⟨i, xs, e, r, f⟩ := open_sl encOp (by decide) undOpS z107 el_Op hy
 exact ⟨⟨xs, i⟩, e, AllR.cons ⟨r, f⟩ (AllR.nil W)⟩
theorem structSem : Tryz.prog.underlying 165 = some (.struct (Tryz.prog.fieldsOf 165)) := by kernel_rfl
theorem fieldsSem : (Tryz.prog.fieldsOf 165).toList.map (fun f => (f.type, f.offset, Tryz.prog.cellsOf f.type)) = [(3, 0, 1), (3, 1, 1), (163, 2, 1)] := by kernel_rfl
theorem undSemS : Tryz.prog.underlying 26 = some (.slice 165) := by kernel_rfl
set_option maxRecDepth 100000 in
theorem el_Sem {H : Type} {enc : TypeId × Value → H} {W : World} : ∀ (n : Nat) (cs : List Value) (y : DataW H × List MemPlace), DataW.trod enc Tryz.prog W 0 (fun _ => true) true n 165 cs = some y → ∃ a : SemH, cs = cSemH a ∧ AllR W (semO a) := fun n cs y hy => by
 obtain ⟨hl, k, hx⟩ := trod_fields structSem fieldsSem (sz := 3) z107 hy
 match cs, hl with
 | [a0, a1, a2], _ =>
   obtain ⟨_, h0⟩ := hx 0 _ _ _ rfl
   obtain ⟨p0, e0⟩ := el_int _ _ _ h0
   obtain ⟨_, h1⟩ := hx 1 _ _ _ rfl
   obtain ⟨p1, e1⟩ := el_int _ _ _ h1
   obtain ⟨_, h2⟩ := hx 2 _ _ _ rfl
   obtain ⟨i2, p2, e2, r2, f2⟩ := open_sl encWaiter (by decide) undWaiterS z107 el_Waiter h2
   simp [cInt] at e0 e1 e2
   exact ⟨⟨⟨p0, p1, p2⟩, i2⟩, by simp [cSemH, e0, e1, e2], AllR.cons ⟨r2, f2⟩ (AllR.nil W)⟩
theorem structOnce : Tryz.prog.underlying 167 = some (.struct (Tryz.prog.fieldsOf 167)) := by kernel_rfl
theorem fieldsOnce : (Tryz.prog.fieldsOf 167).toList.map (fun f => (f.type, f.offset, Tryz.prog.cellsOf f.type)) = [(3, 0, 1), (3, 1, 1), (3, 2, 1), (22, 3, 1)] := by kernel_rfl
theorem undOnceS : Tryz.prog.underlying 27 = some (.slice 167) := by kernel_rfl
set_option maxRecDepth 100000 in
theorem el_Once {H : Type} {enc : TypeId × Value → H} {W : World} : ∀ (n : Nat) (cs : List Value) (y : DataW H × List MemPlace), DataW.trod enc Tryz.prog W 0 (fun _ => true) true n 167 cs = some y → ∃ a : OnceH, cs = cOnceH a ∧ AllR W (onceO a) := fun n cs y hy => by
 obtain ⟨hl, k, hx⟩ := trod_fields structOnce fieldsOnce (sz := 4) z107 hy
 match cs, hl with
 | [a0, a1, a2, a3], _ =>
   obtain ⟨_, h0⟩ := hx 0 _ _ _ rfl
   obtain ⟨p0, e0⟩ := el_int _ _ _ h0
   obtain ⟨_, h1⟩ := hx 1 _ _ _ rfl
   obtain ⟨p1, e1⟩ := el_int _ _ _ h1
   obtain ⟨_, h2⟩ := hx 2 _ _ _ rfl
   obtain ⟨p2, e2⟩ := el_int _ _ _ h2
   obtain ⟨_, h3⟩ := hx 3 _ _ _ rfl
   obtain ⟨i3, p3, e3, r3, f3⟩ := open_sl encInt Nat.zero_lt_one undIs z107 el_int h3
   simp [cInt] at e0 e1 e2 e3
   exact ⟨⟨⟨p0, p1, p2, p3⟩, i3⟩, by simp [cOnceH, e0, e1, e2, e3], AllR.cons ⟨r3, f3⟩ (AllR.nil W)⟩
theorem structGroup : Tryz.prog.underlying 169 = some (.struct (Tryz.prog.fieldsOf 169)) := by kernel_rfl
theorem fieldsGroup : (Tryz.prog.fieldsOf 169).toList.map (fun f => (f.type, f.offset, Tryz.prog.cellsOf f.type)) = [(3, 0, 1), (22, 1, 1)] := by kernel_rfl
theorem undGroupS : Tryz.prog.underlying 28 = some (.slice 169) := by kernel_rfl
set_option maxRecDepth 100000 in
theorem el_Group {H : Type} {enc : TypeId × Value → H} {W : World} : ∀ (n : Nat) (cs : List Value) (y : DataW H × List MemPlace), DataW.trod enc Tryz.prog W 0 (fun _ => true) true n 169 cs = some y → ∃ a : GroupH, cs = cGroupH a ∧ AllR W (groupO a) := fun n cs y hy => by
 obtain ⟨hl, k, hx⟩ := trod_fields structGroup fieldsGroup (sz := 2) z107 hy
 match cs, hl with
 | [a0, a1], _ =>
   obtain ⟨_, h0⟩ := hx 0 _ _ _ rfl
   obtain ⟨p0, e0⟩ := el_int _ _ _ h0
   obtain ⟨_, h1⟩ := hx 1 _ _ _ rfl
   obtain ⟨i1, p1, e1, r1, f1⟩ := open_sl encInt Nat.zero_lt_one undIs z107 el_int h1
   simp [cInt] at e0 e1
   exact ⟨⟨⟨p0, p1⟩, i1⟩, by simp [cGroupH, e0, e1], AllR.cons ⟨r1, f1⟩ (AllR.nil W)⟩
theorem structBarrier : Tryz.prog.underlying 171 = some (.struct (Tryz.prog.fieldsOf 171)) := by kernel_rfl
theorem fieldsBarrier : (Tryz.prog.fieldsOf 171).toList.map (fun f => (f.type, f.offset, Tryz.prog.cellsOf f.type)) = [(3, 0, 1), (3, 1, 1), (22, 2, 1)] := by kernel_rfl
theorem undBarrierS : Tryz.prog.underlying 29 = some (.slice 171) := by kernel_rfl
set_option maxRecDepth 100000 in
theorem el_Barrier {H : Type} {enc : TypeId × Value → H} {W : World} : ∀ (n : Nat) (cs : List Value) (y : DataW H × List MemPlace), DataW.trod enc Tryz.prog W 0 (fun _ => true) true n 171 cs = some y → ∃ a : BarrierH, cs = cBarrierH a ∧ AllR W (barrierO a) := fun n cs y hy => by
 obtain ⟨hl, k, hx⟩ := trod_fields structBarrier fieldsBarrier (sz := 3) z107 hy
 match cs, hl with
 | [a0, a1, a2], _ =>
   obtain ⟨_, h0⟩ := hx 0 _ _ _ rfl
   obtain ⟨p0, e0⟩ := el_int _ _ _ h0
   obtain ⟨_, h1⟩ := hx 1 _ _ _ rfl
   obtain ⟨p1, e1⟩ := el_int _ _ _ h1
   obtain ⟨_, h2⟩ := hx 2 _ _ _ rfl
   obtain ⟨i2, p2, e2, r2, f2⟩ := open_sl encInt Nat.zero_lt_one undIs z107 el_int h2
   simp [cInt] at e0 e1 e2
   exact ⟨⟨⟨p0, p1, p2⟩, i2⟩, by simp [cBarrierH, e0, e1, e2], AllR.cons ⟨r2, f2⟩ (AllR.nil W)⟩
theorem structChan : Tryz.prog.underlying 175 = some (.struct (Tryz.prog.fieldsOf 175)) := by kernel_rfl
theorem fieldsChan : (Tryz.prog.fieldsOf 175).toList.map (fun f => (f.type, f.offset, Tryz.prog.cellsOf f.type)) = [(3, 0, 1), (22, 1, 1), (173, 2, 1), (22, 3, 1), (4, 4, 1)] := by kernel_rfl
theorem undChanS : Tryz.prog.underlying 30 = some (.slice 175) := by kernel_rfl
set_option maxRecDepth 100000 in
theorem el_Chan {H : Type} {enc : TypeId × Value → H} {W : World} : ∀ (n : Nat) (cs : List Value) (y : DataW H × List MemPlace), DataW.trod enc Tryz.prog W 0 (fun _ => true) true n 175 cs = some y → ∃ a : ChanH, cs = cChanH a ∧ AllR W (chanO a) := fun n cs y hy => by
 obtain ⟨hl, k, hx⟩ := trod_fields structChan fieldsChan (sz := 5) z107 hy
 match cs, hl with
 | [a0, a1, a2, a3, a4], _ =>
   obtain ⟨_, h0⟩ := hx 0 _ _ _ rfl
   obtain ⟨p0, e0⟩ := el_int _ _ _ h0
   obtain ⟨_, h1⟩ := hx 1 _ _ _ rfl
   obtain ⟨i1, p1, e1, r1, f1⟩ := open_sl encInt Nat.zero_lt_one undIs z107 el_int h1
   obtain ⟨_, h2⟩ := hx 2 _ _ _ rfl
   obtain ⟨i2, p2, e2, r2, f2⟩ := open_sl encLet (by decide) undLetterS z107 el_Letter h2
   obtain ⟨_, h3⟩ := hx 3 _ _ _ rfl
   obtain ⟨i3, p3, e3, r3, f3⟩ := open_sl encInt Nat.zero_lt_one undIs z107 el_int h3
   obtain ⟨_, h4⟩ := hx 4 _ _ _ rfl
   obtain ⟨p4, e4, _⟩ := DataW.trod_bool undBool h4
   simp [cInt] at e0 e1 e2 e3 e4
   exact ⟨⟨⟨p0, p1, p2, p3, p4⟩, i1, i2, i3⟩, by simp [cChanH, e0, e1, e2, e3, e4], AllR.cons ⟨r1, f1⟩ (AllR.cons ⟨r2, f2⟩ (AllR.cons ⟨r3, f3⟩ (AllR.nil W)))⟩
theorem structProg : Tryz.prog.underlying 25 = some (.struct (Tryz.prog.fieldsOf 25)) := by kernel_rfl
theorem fieldsProg : (Tryz.prog.fieldsOf 25).toList.map (fun f => (f.type, f.offset, Tryz.prog.cellsOf f.type)) = [(22, 0, 1), (22, 1, 1), (22, 2, 1), (22, 3, 1), (23, 4, 1)] := by kernel_rfl
set_option maxRecDepth 100000 in
theorem open_Prog {H : Type} {enc : TypeId × Value → H} {W : World} {base : Nat} {v : Value} {d : DataW H} {p : List MemPlace} (hv : Value.okWide Tryz.prog W .any base 25 v) (h : DataW.Trod enc Tryz.prog W 0 (fun _ => true) true 25 v d p) :
   ∃ s : ProgH, v = progV s ∧ (fR (progO s)).P W ∧ ∀ b, (fR (progO s)).foot b → b < W.heap.size := by
 obtain ⟨vs, rfl, _⟩ := okWide_struct structProg hv
 obtain ⟨fuel, hf⟩ := h
 obtain ⟨hl, k, hx⟩ := trod_fields structProg fieldsProg (sz := 5) z107 hf
 obtain ⟨cs⟩ := vs
 have hl : cs.length = 5 := hl
 match cs, hl with
 | [a0, a1, a2, a3, a4], _ =>
   obtain ⟨_, h0⟩ := hx 0 _ _ _ rfl
   obtain ⟨i0, p0, e0, r0, f0⟩ := open_sl encInt Nat.zero_lt_one undIs z107 el_int h0
   obtain ⟨_, h1⟩ := hx 1 _ _ _ rfl
   obtain ⟨i1, p1, e1, r1, f1⟩ := open_sl encInt Nat.zero_lt_one undIs z107 el_int h1
   obtain ⟨_, h2⟩ := hx 2 _ _ _ rfl
   obtain ⟨i2, p2, e2, r2, f2⟩ := open_sl encInt Nat.zero_lt_one undIs z107 el_int h2
   obtain ⟨_, h3⟩ := hx 3 _ _ _ rfl
   obtain ⟨i3, p3, e3, r3, f3⟩ := open_sl encInt Nat.zero_lt_one undIs z107 el_int h3
   obtain ⟨_, h4⟩ := hx 4 _ _ _ rfl
   obtain ⟨i4, p4, e4, r4, f4, q4⟩ := open_slQ encOpSH (by decide) undOpSS z107 el_OpS h4
   simp [Value.cells] at e0 e1 e2 e3 e4
   refine ⟨⟨p0, p1, p2, p3, p4, i0, i1, i2, i3, i4⟩, ?_, AllR.at ?_⟩
   · simp [progV, e0, e1, e2, e3, e4]
   · exact AllR.cons ⟨r0, f0⟩ (AllR.cons ⟨r1, f1⟩ (AllR.cons ⟨r2, f2⟩ (AllR.cons ⟨r3, f3⟩ ((AllR.cons ⟨r4, f4⟩ (AllR.flat q4))))))
theorem structState : Tryz.prog.underlying 32 = some (.struct (Tryz.prog.fieldsOf 32)) := by kernel_rfl
theorem fieldsState : (Tryz.prog.fieldsOf 32).toList.map (fun f => (f.type, f.offset, Tryz.prog.cellsOf f.type)) = [(22, 0, 1), (22, 1, 1), (26, 2, 1), (27, 3, 1), (28, 4, 1), (29, 5, 1), (30, 6, 1), (22, 7, 1), (3, 8, 1)] := by kernel_rfl
set_option maxRecDepth 100000 in
theorem open_State {H : Type} {enc : TypeId × Value → H} {W : World} {base : Nat} {v : Value} {d : DataW H} {p : List MemPlace} (hv : Value.okWide Tryz.prog W .any base 32 v) (h : DataW.Trod enc Tryz.prog W 0 (fun _ => true) true 32 v d p) :
   ∃ s : StateH, v = stateV s ∧ (fR (stateO s)).P W ∧ ∀ b, (fR (stateO s)).foot b → b < W.heap.size := by
 obtain ⟨vs, rfl, _⟩ := okWide_struct structState hv
 obtain ⟨fuel, hf⟩ := h
 obtain ⟨hl, k, hx⟩ := trod_fields structState fieldsState (sz := 9) z107 hf
 obtain ⟨cs⟩ := vs
 have hl : cs.length = 9 := hl
 match cs, hl with
 | [a0, a1, a2, a3, a4, a5, a6, a7, a8], _ =>
   obtain ⟨_, h0⟩ := hx 0 _ _ _ rfl
   obtain ⟨i0, p0, e0, r0, f0⟩ := open_sl encInt Nat.zero_lt_one undIs z107 el_int h0
   obtain ⟨_, h1⟩ := hx 1 _ _ _ rfl
   obtain ⟨i1, p1, e1, r1, f1⟩ := open_sl encInt Nat.zero_lt_one undIs z107 el_int h1
   obtain ⟨_, h2⟩ := hx 2 _ _ _ rfl
   obtain ⟨i2, p2, e2, r2, f2, q2⟩ := open_slQ encSemH (by decide) undSemS z107 el_Sem h2
   obtain ⟨_, h3⟩ := hx 3 _ _ _ rfl
   obtain ⟨i3, p3, e3, r3, f3, q3⟩ := open_slQ encOnceH (by decide) undOnceS z107 el_Once h3
   obtain ⟨_, h4⟩ := hx 4 _ _ _ rfl
   obtain ⟨i4, p4, e4, r4, f4, q4⟩ := open_slQ encGroupH (by decide) undGroupS z107 el_Group h4
   obtain ⟨_, h5⟩ := hx 5 _ _ _ rfl
   obtain ⟨i5, p5, e5, r5, f5, q5⟩ := open_slQ encBarrierH (by decide) undBarrierS z107 el_Barrier h5
   obtain ⟨_, h6⟩ := hx 6 _ _ _ rfl
   obtain ⟨i6, p6, e6, r6, f6, q6⟩ := open_slQ encChanH (by decide) undChanS z107 el_Chan h6
   obtain ⟨_, h7⟩ := hx 7 _ _ _ rfl
   obtain ⟨i7, p7, e7, r7, f7⟩ := open_sl encInt Nat.zero_lt_one undIs z107 el_int h7
   obtain ⟨_, h8⟩ := hx 8 _ _ _ rfl
   obtain ⟨p8, e8⟩ := el_int _ _ _ h8
   simp [cInt, Value.cells] at e0 e1 e2 e3 e4 e5 e6 e7 e8
   refine ⟨⟨p0, p1, p2, p3, p4, p5, p6, p7, p8, i0, i1, i2, i3, i4, i5, i6, i7⟩, ?_, AllR.at ?_⟩
   · simp [stateV, e0, e1, e2, e3, e4, e5, e6, e7, e8]
   · exact AllR.cons ⟨r0, f0⟩ (AllR.cons ⟨r1, f1⟩ ((AllR.append (AllR.cons ⟨r2, f2⟩ (AllR.flat q2)) (AllR.append (AllR.cons ⟨r3, f3⟩ (AllR.flat q3)) (AllR.append (AllR.cons ⟨r4, f4⟩ (AllR.flat q4)) (AllR.append (AllR.cons ⟨r5, f5⟩ (AllR.flat q5)) (AllR.append (AllR.cons ⟨r6, f6⟩ (AllR.flat q6)) (AllR.cons ⟨r7, f7⟩ (AllR.nil W)))))))))
set_option maxRecDepth 100000 in
theorem lifted_PSi {f : FuncId} {fn : Func} {s : ChangeSpec} {conds : List PathCond} (hf : Tryz.checked.prog.funcs[f]? = some fn) (hfn : Tryz.checked.prog.inits.idxOf? f = none) (hpl : fn.params = #[25, 32, 3]) (hres : fn.resultTypes = #[4]) (hvars : s.vars = [])
   (hspec : ∀ (H : Type) (d0 d1 d2 : DataW H), s.fn H [d0, d1, d2] = { results := [.lit (.bool true)], args := [d0, d1, d2] })
   (hc : ∀ (x0 : ProgH) (x1 : StateH) (x2 : Int) (w : World), At w [fR (progO x0), fR (stateO x1)] → Calls Tryz.prog f #[progV x0, stateV x1, .int .i64 x2] w (Ret w fun v L => v = .bool true ∧ L = []))
   (os : Os) (started : os.Started) (H : Type) (enc : TypeId × Value → H)
   (wit : ∃ (w : World) (tape : Tape) (i : Input), w.os = os ∧ (w.forCall tape i).Shaped Tryz.checked.prog ∧ i.vars = [] ∧ Input.okWide Tryz.checked.prog (w.forCall tape i) .any w.heap.size f i ∧
     s.pre6 enc Tryz.checked.prog fn conds false (w.forCall tape i).memory i.args ∧ ({} : Assume).holds Tryz.checked.prog (lone (Frame.enter Tryz.checked.prog f i.args .normal) [] (w.forCall tape i))) :
   ReturnsInHanded {} Tryz.checked os f .any (s.pre6 enc Tryz.checked.prog fn conds false) (s.post enc Tryz.checked.prog fn false true false false) := by
 refine returnsInHanded_of_change (C := Tryz.checked) ownNone started hfn hf wit ?_
 intro W base args ds gs before hval hW _ _
 have hW' := hW
 obtain ⟨p, q, hA0, hV, _, _, _⟩ := hW
 rw [hpl] at hA0
 have hA : DataW.TrodAll enc Tryz.prog W 0 (fun _ => true) true [25, 32, 3] args.toList ds p := hA0
 obtain ⟨v0, vs0, d0, ds0, p0, q0, e0, rfl, _, h0, hA⟩ := trodAll_cons hA
 obtain ⟨v1, vs1, d1, ds1, p1, q1, rfl, rfl, _, h1, hA⟩ := trodAll_cons hA
 obtain ⟨v2, vs2, d2, ds2, p2, q2, rfl, rfl, _, h2, hA⟩ := trodAll_cons hA
 obtain ⟨rfl, rfl, _⟩ := trodAll_nil hA
 obtain rfl : args = #[v0, v1, v2] := by apply Array.ext'; simpa using e0
 obtain ⟨x0, rfl, hat0⟩ := open_Prog (hval 0 25 v0 (by rw [hpl]; rfl) rfl) h0
 obtain ⟨x1, rfl, hat1⟩ := open_State (hval 1 32 v1 (by rw [hpl]; rfl) rfl) h1
 obtain ⟨x2, rfl, _⟩ := open_int undI (hval 2 3 v2 (by rw [hpl]; rfl) rfl) h2
 refine (hc x0 x1 x2 W ⟨hat0, hat1, trivial⟩).mono fun e W' hR => ?_
 obtain ⟨v, L, rfl, he, _, rfl, _⟩ := hR
 rw [hvars] at hV
 obtain ⟨rfl, _⟩ := trodVars_none hV
 exact ⟨_, rfl, law_post (P := Tryz.prog) laidOut (pl := [25, 32, 3]) (by rw [hpl]) z107 hvars hres undBool (hspec H d0 d1 d2) hW' he.below⟩
end Go.Proofs.YtklclbcckjhdpaaGreat
