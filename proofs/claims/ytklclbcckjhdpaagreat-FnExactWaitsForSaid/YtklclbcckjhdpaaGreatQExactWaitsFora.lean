/- FnExactWaitsFor: called with any arguments it returns true. No condition. -/
import Derived.Test.YtklclbcckjhdpaaGreatQExactStateFitsi
namespace Go.Proofs.YtklclbcckjhdpaaGreat

open Go Go.Sx Go.RowKit

theorem cl25 : callable Tryz.prog 25 = true := by kernel_rfl

theorem cl26 : callable Tryz.prog 26 = true := by kernel_rfl

end Go.Proofs.YtklclbcckjhdpaaGreat

namespace Go.Proofs.YtklclbcckjhdpaaGreat

open Go Go.Sx Go.RowKit

open Classical in

/-- What a thread waits for. -/
noncomputable def waitsM (p : Prog) (s : State) (t : Int) : Op × Bool :=
  if Fits p s ∧ 0 ≤ t ∧ s.status[t.toNat]? = some 1 then (((p.threads.getD t.toNat []).getD (s.places.getD t.toNat 0).toNat ⟨0, 0, 0⟩), true) else (⟨0, 0, 0⟩, false)

theorem waitsM_no {p : Prog} {s : State} {t : Int} (h : ¬ (Fits p s ∧ 0 ≤ t ∧ s.status[t.toNat]? = some 1)) : waitsM p s t = (⟨0, 0, 0⟩, false) := if_neg h

set_option maxHeartbeats 4000000 in
set_option maxRecDepth 100000 in
theorem waitsFor_c (p : ProgH) (s : StateH) (t : Int) (w : World) (h : At w [fR (progO p), fR (stateO s)]) (hp : p.pure.small20) (hs : s.pure.small20) :
    Calls Tryz.prog 26 #[progV p, stateV s, .int .i64 t] w (Ret w fun v L => v = .tuple #[.agg (cOp (waitsM p.pure s.pure t).1).toArray, .bool (waitsM p.pure s.pure t).2] ∧ L = []) := by
  have hb : s.status.length ≤ 1048576 := hs.2.1
  refine calls3 Tryz.func26 rfl tabOk w _ rfl _ rfl _ h ⟨rfl, rfl, rfl, rfl, trivial⟩ _ _ _ (by decide) ?_
  refine stop_call _ cl24 rfl rfl rfl rfl ⟨rfl, rfl⟩ (fun A w hW => stateFits_c p s w ⟨hW.get 0 rfl (.refl _), hW.get 1 rfl (.refl _), trivial⟩ hp hs) ?_
  rintro v L ⟨b, rfl, hbb, rfl⟩
  refine CaseB.mk (fun g => ?_) (fun g => ?_)
  · have n : ¬ Fits p.pure s.pure := fun e => by rw [hbb.2 e] at g; cases g
    exact retw [] ⟨by rw [waitsM_no fun e => n e.1], rfl⟩ trivial rfl trivial (fun _ => rfl)
  have ft := hbb.1 (by simpa using g)
  refine CaseB.mk (fun g => ?_) (fun g => ?_)
  · have n : ¬ 0 ≤ t := by have g' := of_decide_eq_true g; omega
    exact retw [] ⟨by rw [waitsM_no fun e => n e.2.1], rfl⟩ trivial rfl trivial (fun _ => rfl)
  have t0 : 0 ≤ t := by have g' := of_decide_eq_false g; omega
  obtain ⟨k, rfl⟩ : ∃ k : Nat, t = (k : Int) := ⟨_, (Int.toNat_of_nonneg t0).symm⟩
  refine CaseB.mk (fun g => ?_) (fun g => ?_)
  · have n : ¬ k < s.status.length := by have g' := of_decide_eq_true g; omega
    have hno : ¬ (Fits p.pure s.pure ∧ 0 ≤ (k : Int) ∧ s.pure.status[(k : Int).toNat]? = some 1) := fun e => n (List.getElem?_eq_some_iff.1 (show s.status[k]? = some 1 from e.2.2)).1
    exact retw [] ⟨by rw [waitsM_no hno], rfl⟩ trivial rfl trivial (fun _ => rfl)
  have hk : k < s.status.length := by have g' := of_decide_eq_false g; omega
  refine stop_idx encInt tabOk rfl rfl rfl rfl rfl ⟨rfl, rfl⟩ (rdVia 1 rfl (.ofR (stateO_status s))) k rfl (by first | omega | (simp; done) | (simp; omega) | (unfold maxLen; omega) | (unfold maxLen; simp; done) | (unfold maxLen; simp; omega)) (fun ad => ?_)
  refine CaseB.mk (fun g => ?_) (fun g => ?_)
  · have n : ¬ s.status[k] = 1 := by simpa using g
    have hno : ¬ (Fits p.pure s.pure ∧ 0 ≤ (k : Int) ∧ s.pure.status[(k : Int).toNat]? = some 1) := fun e => n (List.getElem?_eq_some_iff.1 (show s.status[k]? = some 1 from e.2.2)).2
    exact retw [] ⟨by rw [waitsM_no hno], rfl⟩ trivial rfl trivial (fun _ => rfl)
  have s1 : s.status[k] = 1 := by simpa using g
  have ns := ft.ns
  have np := ft.np
  have lt : p.pure.threads.length = p.threads.length := by simp [ProgH.pure]
  have ls : s.pure.status.length = s.status.length := rfl
  have lp : s.pure.places.length = s.places.length := rfl
  have hkt : k < p.threads.length := by omega
  have hkp : k < s.places.length := by omega
  have hth : p.pure.threads[k]? = some (p.threads[k]).m := by simp [ProgH.pure, hkt]
  have hpl : s.pure.places[k]? = some s.places[k] := List.getElem?_eq_getElem hkp
  have hst : s.pure.status[k]? = some 1 := by rw [← s1]; exact List.getElem?_eq_getElem hk
  obtain ⟨a0, a1, h4⟩ := ft.threads k _ _ _ hth hpl hst
  have hz : s.places[k] = ((s.places[k]).toNat : Int) := (Int.toNat_of_nonneg a0).symm
  obtain ⟨op, hop⟩ : ∃ op, (p.threads[k]).m[(s.places[k]).toNat]? = some op := by
    rcases h4 with ⟨_, e, _⟩ | ⟨op, e, _⟩
    · exact absurd e (by decide)
    · exact ⟨op, e⟩
  have hlo := (List.getElem?_eq_some_iff.1 hop).1
  have hopg : (p.threads[k]).m[(s.places[k]).toNat] = op := (List.getElem?_eq_some_iff.1 hop).2
  have hM : waitsM p.pure s.pure (k : Int) = (op, true) := by
    rw [waitsM, if_pos ⟨ft, by omega, hst⟩]
    show (((p.pure.threads.getD k []).getD (s.pure.places.getD k 0).toNat ⟨0, 0, 0⟩), true) = _
    rw [List.getD_eq_getElem?_getD, List.getD_eq_getElem?_getD, List.getD_eq_getElem?_getD, hth, hpl]
    simp only [Option.getD_some, hop]
  refine draw_start tabOk (by kernel_rfl) (by kernel_rfl) (by kernel_rfl) 200 [((0, 4), .v (p.h4.val p.threads.length)), ((1, 0), .v (s.h0.val s.places.length))] [0, 1] [_, _] ⟨⟨_, rfl, rfl, (by first | exact trivial | exact Nat.le_of_ble_eq_true rfl)⟩, ⟨_, rfl, rfl, (by first | exact trivial | exact Nat.le_of_ble_eq_true rfl)⟩, trivial⟩ ⟨⟨_, rfl⟩, ⟨_, rfl⟩, trivial⟩ ⟨rfl, rfl, trivial⟩ rfl ?_
  refine d_idx (ti := tiOf tab) encOpSH tabOk rfl rfl rfl rfl rfl ⟨rfl, rfl⟩ (rdVia 0 rfl (.trans (.R_R (progO_threads p)) (.ofR nest_h))) k rfl (by first | omega | (simp; done) | (simp; omega) | (unfold maxLen; omega) | (unfold maxLen; simp; done) | (unfold maxLen; simp; omega)) (fun ad1 => ?_)
  refine d_idx (ti := tiOf tab) encInt tabOk rfl rfl rfl rfl rfl ⟨rfl, rfl⟩ (rdVia 1 rfl (.ofR (stateO_places s))) k rfl (by first | omega | (simp; done) | (simp; omega) | (unfold maxLen; omega) | (unfold maxLen; simp; done) | (unfold maxLen; simp; omega)) (fun ad2 => ?_)
  refine d_idx (ti := tiOf tab) encOp tabOk rfl rfl rfl rfl rfl ⟨rfl, rfl⟩ (rdVia 0 rfl (.trans (.R_R (progO_threads p)) (.ofR (threadsO_0 _ _ k hkt)))) (s.places[k]).toNat hz (by first | omega | (simp; done) | (simp; omega) | (unfold maxLen; omega) | (unfold maxLen; simp; done) | (unfold maxLen; simp; omega)) (fun ad3 => ?_)
  rw [hopg]
  exact retw [] ⟨by rw [hM], rfl⟩ trivial rfl trivial (fun _ => rfl)

set_option maxHeartbeats 4000000 in
set_option maxRecDepth 100000 in
theorem waitsForS_c (p : ProgH) (s : StateH) (t : Int) (w : World) (h : At w [fR (progO p), fR (stateO s)]) (hp : p.pure.small20) (hs : s.pure.small20) :
    Calls Tryz.prog 25 #[progV p, stateV s, .int .i64 t] w (Ret w fun v L => v = .tuple #[.agg (cOp (waitsM p.pure s.pure t).1).toArray, .bool (waitsM p.pure s.pure t).2] ∧ L = []) := by
  have hb : s.status.length ≤ 1048576 := hs.2.1
  refine calls3 Tryz.func25 rfl tabOk w _ rfl _ rfl _ h ⟨rfl, rfl, rfl, rfl, trivial⟩ _ _ _ (by decide) ?_
  refine stop_call _ cl23 rfl rfl rfl rfl ⟨rfl, rfl⟩ (fun A w hW => stateFitsS_c p s w ⟨hW.get 0 rfl (.refl _), hW.get 1 rfl (.refl _), trivial⟩ hp hs) ?_
  rintro v L ⟨b, rfl, hbb, rfl⟩
  refine CaseB.mk (fun g => ?_) (fun g => ?_)
  · have n : ¬ Fits p.pure s.pure := fun e => by rw [hbb.2 e] at g; cases g
    exact retw [] ⟨by rw [waitsM_no fun e => n e.1], rfl⟩ trivial rfl trivial (fun _ => rfl)
  have ft := hbb.1 (by simpa using g)
  refine CaseB.mk (fun g => ?_) (fun g => ?_)
  · have n : ¬ 0 ≤ t := by have g' := of_decide_eq_true g; omega
    exact retw [] ⟨by rw [waitsM_no fun e => n e.2.1], rfl⟩ trivial rfl trivial (fun _ => rfl)
  have t0 : 0 ≤ t := by have g' := of_decide_eq_false g; omega
  obtain ⟨k, rfl⟩ : ∃ k : Nat, t = (k : Int) := ⟨_, (Int.toNat_of_nonneg t0).symm⟩
  refine CaseB.mk (fun g => ?_) (fun g => ?_)
  · have n : ¬ k < s.status.length := by have g' := of_decide_eq_true g; omega
    have hno : ¬ (Fits p.pure s.pure ∧ 0 ≤ (k : Int) ∧ s.pure.status[(k : Int).toNat]? = some 1) := fun e => n (List.getElem?_eq_some_iff.1 (show s.status[k]? = some 1 from e.2.2)).1
    exact retw [] ⟨by rw [waitsM_no hno], rfl⟩ trivial rfl trivial (fun _ => rfl)
  have hk : k < s.status.length := by have g' := of_decide_eq_false g; omega
  refine stop_idx encInt tabOk rfl rfl rfl rfl rfl ⟨rfl, rfl⟩ (rdVia 1 rfl (.ofR (stateO_status s))) k rfl (by first | omega | (simp; done) | (simp; omega) | (unfold maxLen; omega) | (unfold maxLen; simp; done) | (unfold maxLen; simp; omega)) (fun ad => ?_)
  refine CaseB.mk (fun g => ?_) (fun g => ?_)
  · have n : ¬ s.status[k] = 1 := by simpa using g
    have hno : ¬ (Fits p.pure s.pure ∧ 0 ≤ (k : Int) ∧ s.pure.status[(k : Int).toNat]? = some 1) := fun e => n (List.getElem?_eq_some_iff.1 (show s.status[k]? = some 1 from e.2.2)).2
    exact retw [] ⟨by rw [waitsM_no hno], rfl⟩ trivial rfl trivial (fun _ => rfl)
  have s1 : s.status[k] = 1 := by simpa using g
  have ns := ft.ns
  have np := ft.np
  have lt : p.pure.threads.length = p.threads.length := by simp [ProgH.pure]
  have ls : s.pure.status.length = s.status.length := rfl
  have lp : s.pure.places.length = s.places.length := rfl
  have hkt : k < p.threads.length := by omega
  have hkp : k < s.places.length := by omega
  have hth : p.pure.threads[k]? = some (p.threads[k]).m := by simp [ProgH.pure, hkt]
  have hpl : s.pure.places[k]? = some s.places[k] := List.getElem?_eq_getElem hkp
  have hst : s.pure.status[k]? = some 1 := by rw [← s1]; exact List.getElem?_eq_getElem hk
  obtain ⟨a0, a1, h4⟩ := ft.threads k _ _ _ hth hpl hst
  have hz : s.places[k] = ((s.places[k]).toNat : Int) := (Int.toNat_of_nonneg a0).symm
  obtain ⟨op, hop⟩ : ∃ op, (p.threads[k]).m[(s.places[k]).toNat]? = some op := by
    rcases h4 with ⟨_, e, _⟩ | ⟨op, e, _⟩
    · exact absurd e (by decide)
    · exact ⟨op, e⟩
  have hlo := (List.getElem?_eq_some_iff.1 hop).1
  have hopg : (p.threads[k]).m[(s.places[k]).toNat] = op := (List.getElem?_eq_some_iff.1 hop).2
  have hM : waitsM p.pure s.pure (k : Int) = (op, true) := by
    rw [waitsM, if_pos ⟨ft, by omega, hst⟩]
    show (((p.pure.threads.getD k []).getD (s.pure.places.getD k 0).toNat ⟨0, 0, 0⟩), true) = _
    rw [List.getD_eq_getElem?_getD, List.getD_eq_getElem?_getD, List.getD_eq_getElem?_getD, hth, hpl]
    simp only [Option.getD_some, hop]
  refine draw_start tabOk (by kernel_rfl) (by kernel_rfl) (by kernel_rfl) 200 [((0, 4), .v (p.h4.val p.threads.length)), ((1, 0), .v (s.h0.val s.places.length))] [0, 1] [_, _] ⟨⟨_, rfl, rfl, (by first | exact trivial | exact Nat.le_of_ble_eq_true rfl)⟩, ⟨_, rfl, rfl, (by first | exact trivial | exact Nat.le_of_ble_eq_true rfl)⟩, trivial⟩ ⟨⟨_, rfl⟩, ⟨_, rfl⟩, trivial⟩ ⟨rfl, rfl, trivial⟩ rfl ?_
  refine d_idx (ti := tiOf tab) encOpSH tabOk rfl rfl rfl rfl rfl ⟨rfl, rfl⟩ (rdVia 0 rfl (.trans (.R_R (progO_threads p)) (.ofR nest_h))) k rfl (by first | omega | (simp; done) | (simp; omega) | (unfold maxLen; omega) | (unfold maxLen; simp; done) | (unfold maxLen; simp; omega)) (fun ad1 => ?_)
  refine d_idx (ti := tiOf tab) encInt tabOk rfl rfl rfl rfl rfl ⟨rfl, rfl⟩ (rdVia 1 rfl (.ofR (stateO_places s))) k rfl (by first | omega | (simp; done) | (simp; omega) | (unfold maxLen; omega) | (unfold maxLen; simp; done) | (unfold maxLen; simp; omega)) (fun ad2 => ?_)
  refine d_idx (ti := tiOf tab) encOp tabOk rfl rfl rfl rfl rfl ⟨rfl, rfl⟩ (rdVia 0 rfl (.trans (.R_R (progO_threads p)) (.ofR (threadsO_0 _ _ k hkt)))) (s.places[k]).toNat hz (by first | omega | (simp; done) | (simp; omega) | (unfold maxLen; omega) | (unfold maxLen; simp; done) | (unfold maxLen; simp; omega)) (fun ad3 => ?_)
  rw [hopg]
  exact retw [] ⟨by rw [hM], rfl⟩ trivial rfl trivial (fun _ => rfl)

end Go.Proofs.YtklclbcckjhdpaaGreat

namespace Go.Proofs.YtklclbcckjhdpaaGreat

open Go Go.Sx Go.RowKit

theorem ret_wf {P : Program} {g : FuncId} {args : Array Value} {w : World} {x : Op × Bool} (h : Calls P g args w (Ret w fun v L => v = .tuple #[.agg (cOp x.1).toArray, .bool x.2] ∧ L = [])) : Calls P g args w (Ret w fun v L => ∃ (o : Op) (b : Bool), (o, b) = x ∧ v = .tuple #[.agg (cOp o).toArray, .bool b] ∧ L = []) :=
  h.mono fun _ _ ⟨v, L, h1, h2, h3, h4, h5⟩ => ⟨v, L, h1, h2, h3, x.1, x.2, rfl, h4, h5⟩

set_option maxHeartbeats 16000000 in
set_option maxRecDepth 100000 in
theorem exactWaitsFor_c (p : ProgH) (s : StateH) (t : Int) (w : World) (h : At w [fR (progO p), fR (stateO s)]) :
    Calls Tryz.prog 5 #[progV p, stateV s, .int .i64 t] w (Ret w fun v L => v = .bool true ∧ L = []) := by
  refine calls3 Tryz.func5 rfl tabOk w _ rfl _ rfl _ h ⟨rfl, rfl, rfl, rfl, trivial⟩ _ _ _ (by decide) ?_
  refine stop_call _ cl12 rfl rfl rfl rfl ⟨rfl, rfl⟩ (fun A w hW => ret_abs (szProg_c p 1048576 w ⟨hW.get 0 rfl (.refl _), trivial⟩ (by omega) (by omega))) ?_
  rintro v L ⟨l0, e0, rfl, rfl⟩
  refine CaseB.mk (fun _ => ?_) (fun hz => ?_)
  · exact retw [] ⟨rfl, rfl⟩ trivial rfl trivial (fun _ => rfl)
  have hz0 : ¬ l0 < 0 := by simpa using hz
  obtain ⟨ha, hl⟩ := szProgM_gen p.pure 1048576 (by omega) (by rw [← e0]; exact hz0)
  rw [← e0] at hl
  refine stop_call _ cl13 rfl rfl rfl rfl ⟨rfl, rfl⟩ (fun A w hW => ret_abs (szState_c s l0 w ⟨hW.get 1 rfl (.refl _), trivial⟩ (by omega) hl)) ?_
  rintro v L ⟨l1, e1, rfl, rfl⟩
  refine CaseB.mk (fun _ => ?_) (fun hz => ?_)
  · exact retw [] ⟨rfl, rfl⟩ trivial rfl trivial (fun _ => rfl)
  have hz1 : ¬ l1 < 0 := by simpa using hz
  obtain ⟨hb, _⟩ := szStateM_gen s.pure l0 hl (by rw [← e1]; exact hz1)
  refine draw_start tabOk (by kernel_rfl) (by kernel_rfl) (by kernel_rfl) 200 [((0, 0), .v (p.h0.val p.sems.length)), ((0, 1), .v (p.h1.val p.groups.length)), ((0, 2), .v (p.h2.val p.barriers.length)), ((0, 3), .v (p.h3.val p.rooms.length)), ((0, 4), .v (p.h4.val p.threads.length)), ((1, 0), .v (s.h0.val s.places.length)), ((1, 1), .v (s.h1.val s.status.length)), ((1, 2), .v (s.h2.val s.sems.length)), ((1, 3), .v (s.h3.val s.onces.length)), ((1, 4), .v (s.h4.val s.groups.length)), ((1, 5), .v (s.h5.val s.barriers.length)), ((1, 6), .v (s.h6.val s.chans.length)), ((1, 7), .v (s.h7.val s.said.length)), ((1, 8), .v (.int .i64 s.fault))] [0, 1] [_, _] ⟨⟨_, rfl, rfl, (by first | exact trivial | exact Nat.le_of_ble_eq_true rfl)⟩, ⟨_, rfl, rfl, (by first | exact trivial | exact Nat.le_of_ble_eq_true rfl)⟩, ⟨_, rfl, rfl, (by first | exact trivial | exact Nat.le_of_ble_eq_true rfl)⟩, ⟨_, rfl, rfl, (by first | exact trivial | exact Nat.le_of_ble_eq_true rfl)⟩, ⟨_, rfl, rfl, (by first | exact trivial | exact Nat.le_of_ble_eq_true rfl)⟩, ⟨_, rfl, rfl, (by first | exact trivial | exact Nat.le_of_ble_eq_true rfl)⟩, ⟨_, rfl, rfl, (by first | exact trivial | exact Nat.le_of_ble_eq_true rfl)⟩, ⟨_, rfl, rfl, (by first | exact trivial | exact Nat.le_of_ble_eq_true rfl)⟩, ⟨_, rfl, rfl, (by first | exact trivial | exact Nat.le_of_ble_eq_true rfl)⟩, ⟨_, rfl, rfl, (by first | exact trivial | exact Nat.le_of_ble_eq_true rfl)⟩, ⟨_, rfl, rfl, (by first | exact trivial | exact Nat.le_of_ble_eq_true rfl)⟩, ⟨_, rfl, rfl, (by first | exact trivial | exact Nat.le_of_ble_eq_true rfl)⟩, ⟨_, rfl, rfl, (by first | exact trivial | exact Nat.le_of_ble_eq_true rfl)⟩, ⟨_, rfl, rfl, (by first | exact trivial | exact Nat.le_of_ble_eq_true rfl)⟩, trivial⟩ ⟨⟨_, rfl⟩, ⟨_, rfl⟩, ⟨_, rfl⟩, ⟨_, rfl⟩, ⟨_, rfl⟩, ⟨_, rfl⟩, ⟨_, rfl⟩, ⟨_, rfl⟩, ⟨_, rfl⟩, ⟨_, rfl⟩, ⟨_, rfl⟩, ⟨_, rfl⟩, ⟨_, rfl⟩, ⟨_, rfl⟩, trivial⟩ ⟨rfl, rfl, trivial⟩ rfl ?_
  refine BothW.mk ?_ ?_
  refine d_call _ cl15 rfl rfl rfl rfl ⟨rfl, rfl⟩ (fun A w hW => toProg_c p w ⟨hW.get 0 rfl (.refl _), trivial⟩ ha) ?_
  rintro v L ⟨y0, rfl, p0, rfl⟩
  refine BothW.mk ?_ ?_
  refine d_call _ cl16 rfl rfl rfl rfl ⟨rfl, rfl⟩ (fun A w hW => toState_c s w ⟨hW.get 2 rfl (.refl _), trivial⟩ hb) ?_
  rintro v L ⟨y1, rfl, p1, rfl⟩
  refine BothW.mk ?_ ?_
  refine d_call _ cl25 rfl rfl rfl rfl ⟨rfl, rfl⟩ (fun A w hW => ret_wf (waitsForS_c y0 y1 t w ⟨hW.get 1 rfl (.O_R fun _ h => h), hW.get 0 rfl (.O_R fun _ h => h), trivial⟩ (by rw [p0]; exact ha) (by rw [p1]; exact hb))) ?_
  rintro v L ⟨o1, b1, hb1, rfl, rfl⟩
  rotate_left
  refine d_call _ cl25 rfl rfl rfl rfl ⟨rfl, rfl⟩ (fun A w hW => ret_wf (waitsForS_c y0 y1 t w ⟨hW.get 1 rfl (.O_R fun _ h => h), hW.get 0 rfl (.O_R fun _ h => h), trivial⟩ (by rw [p0]; exact ha) (by rw [p1]; exact hb))) ?_
  rintro v L ⟨o1, b1, hb1, rfl, rfl⟩
  rotate_left
  refine d_call _ cl16 rfl rfl rfl rfl ⟨rfl, rfl⟩ (fun A w hW => toState_c s w ⟨hW.get 2 rfl (.refl _), trivial⟩ hb) ?_
  rintro v L ⟨y1, rfl, p1, rfl⟩
  refine d_call _ cl25 rfl rfl rfl rfl ⟨rfl, rfl⟩ (fun A w hW => ret_wf (waitsForS_c y0 y1 t w ⟨hW.get 1 rfl (.O_R fun _ h => h), hW.get 0 rfl (.O_R fun _ h => h), trivial⟩ (by rw [p0]; exact ha) (by rw [p1]; exact hb))) ?_
  rintro v L ⟨o1, b1, hb1, rfl, rfl⟩
  rotate_left
  refine d_call _ cl15 rfl rfl rfl rfl ⟨rfl, rfl⟩ (fun A w hW => toProg_c p w ⟨hW.get 0 rfl (.refl _), trivial⟩ ha) ?_
  rintro v L ⟨y0, rfl, p0, rfl⟩
  refine d_call _ cl16 rfl rfl rfl rfl ⟨rfl, rfl⟩ (fun A w hW => toState_c s w ⟨hW.get 2 rfl (.refl _), trivial⟩ hb) ?_
  rintro v L ⟨y1, rfl, p1, rfl⟩
  refine d_call _ cl25 rfl rfl rfl rfl ⟨rfl, rfl⟩ (fun A w hW => ret_wf (waitsForS_c y0 y1 t w ⟨hW.get 1 rfl (.O_R fun _ h => h), hW.get 0 rfl (.O_R fun _ h => h), trivial⟩ (by rw [p0]; exact ha) (by rw [p1]; exact hb))) ?_
  rintro v L ⟨o1, b1, hb1, rfl, rfl⟩
  all_goals
    rw [p0, p1] at hb1
    refine stop_call _ cl15 rfl rfl rfl rfl ⟨rfl, rfl⟩ (fun A w hW => toProg_c p w ⟨hW.get 2 rfl (.refl _), trivial⟩ ha) ?_
    rintro v L ⟨x0, rfl, q0, rfl⟩
    refine stop_call _ cl16 rfl rfl rfl rfl ⟨rfl, rfl⟩ (fun A w hW => toState_c s w ⟨hW.get 4 rfl (.refl _), trivial⟩ hb) ?_
    rintro v L ⟨x1, rfl, q1, rfl⟩
    refine stop_call _ cl26 rfl rfl rfl rfl ⟨rfl, rfl⟩ (fun A w hW => ret_wf (waitsFor_c x0 x1 t w ⟨hW.get 1 rfl (.O_R fun _ h => h), hW.get 0 rfl (.O_R fun _ h => h), trivial⟩ (by rw [q0]; exact ha) (by rw [q1]; exact hb))) ?_
    rintro v L ⟨o2, b2, hb2, rfl, rfl⟩
    rw [q0, q1] at hb2
    obtain ⟨rfl, rfl⟩ : o2 = o1 ∧ b2 = b1 := by
      have := hb2.trans hb1.symm
      simpa using this
    refine stop_call _ cl27 rfl rfl rfl rfl ⟨rfl, rfl⟩ (fun A w hW => eqOp_c _ _ w) ?_
    rintro v L ⟨rfl, rfl⟩
    refine CaseB.mk (fun g => by simp at g) (fun _ => ?_)
    refine CaseB.mk (fun g => by simp at g) (fun _ => ?_)
    refine draw_start tabOk (by kernel_rfl) (by kernel_rfl) (by kernel_rfl) 200 [((0, 0), .v (p.h0.val p.sems.length)), ((0, 1), .v (p.h1.val p.groups.length)), ((0, 2), .v (p.h2.val p.barriers.length)), ((0, 3), .v (p.h3.val p.rooms.length)), ((0, 4), .v (p.h4.val p.threads.length)), ((3, 0), .v (x0.h0.val x0.sems.length)), ((3, 1), .v (x0.h1.val x0.groups.length)), ((3, 2), .v (x0.h2.val x0.barriers.length)), ((3, 3), .v (x0.h3.val x0.rooms.length)), ((3, 4), .v (x0.h4.val x0.threads.length))] [0, 1, 4, 5] [_, _, _, _] ⟨⟨_, rfl, rfl, (by first | exact trivial | exact Nat.le_of_ble_eq_true rfl)⟩, ⟨_, rfl, rfl, (by first | exact trivial | exact Nat.le_of_ble_eq_true rfl)⟩, ⟨_, rfl, rfl, (by first | exact trivial | exact Nat.le_of_ble_eq_true rfl)⟩, ⟨_, rfl, rfl, (by first | exact trivial | exact Nat.le_of_ble_eq_true rfl)⟩, ⟨_, rfl, rfl, (by first | exact trivial | exact Nat.le_of_ble_eq_true rfl)⟩, ⟨_, rfl, rfl, (by first | exact trivial | exact Nat.le_of_ble_eq_true rfl)⟩, ⟨_, rfl, rfl, (by first | exact trivial | exact Nat.le_of_ble_eq_true rfl)⟩, ⟨_, rfl, rfl, (by first | exact trivial | exact Nat.le_of_ble_eq_true rfl)⟩, ⟨_, rfl, rfl, (by first | exact trivial | exact Nat.le_of_ble_eq_true rfl)⟩, ⟨_, rfl, rfl, (by first | exact trivial | exact Nat.le_of_ble_eq_true rfl)⟩, trivial⟩ ⟨⟨_, rfl⟩, ⟨_, rfl⟩, ⟨_, rfl⟩, ⟨_, rfl⟩, ⟨_, rfl⟩, ⟨_, rfl⟩, ⟨_, rfl⟩, ⟨_, rfl⟩, ⟨_, rfl⟩, ⟨_, rfl⟩, trivial⟩ ⟨rfl, rfl, rfl, rfl, trivial⟩ rfl ?_
    refine d_call _ cl15 rfl rfl rfl rfl ⟨rfl, rfl⟩ (fun A w hW => toProg_c p w ⟨hW.get 4 rfl (.refl _), trivial⟩ ha) ?_
    rintro v L ⟨z0, rfl, r0, rfl⟩
    refine d_call _ cl19 rfl rfl rfl rfl ⟨rfl, rfl⟩ (fun A w hW => eqProg_c x0 z0 w ⟨hW.get 2 rfl (.O_R fun _ h => h), hW.get 0 rfl (.O_R fun _ h => h), trivial⟩ (by rw [q0]; exact ha) (by rw [r0]; exact ha)) ?_
    rintro v L ⟨rfl, rfl⟩
    refine CaseB.mk (fun g => by simp [q0, r0] at g) (fun _ => ?_)
    refine draw_start tabOk (by kernel_rfl) (by kernel_rfl) (by kernel_rfl) 200 [((1, 0), .v (s.h0.val s.places.length)), ((1, 1), .v (s.h1.val s.status.length)), ((1, 2), .v (s.h2.val s.sems.length)), ((1, 3), .v (s.h3.val s.onces.length)), ((1, 4), .v (s.h4.val s.groups.length)), ((1, 5), .v (s.h5.val s.barriers.length)), ((1, 6), .v (s.h6.val s.chans.length)), ((1, 7), .v (s.h7.val s.said.length)), ((1, 8), .v (.int .i64 s.fault)), ((4, 0), .v (x1.h0.val x1.places.length)), ((4, 1), .v (x1.h1.val x1.status.length)), ((4, 2), .v (x1.h2.val x1.sems.length)), ((4, 3), .v (x1.h3.val x1.onces.length)), ((4, 4), .v (x1.h4.val x1.groups.length)), ((4, 5), .v (x1.h5.val x1.barriers.length)), ((4, 6), .v (x1.h6.val x1.chans.length)), ((4, 7), .v (x1.h7.val x1.said.length)), ((4, 8), .v (.int .i64 x1.fault))] [1, 6] [_, _] ⟨⟨_, rfl, rfl, (by first | exact trivial | exact Nat.le_of_ble_eq_true rfl)⟩, ⟨_, rfl, rfl, (by first | exact trivial | exact Nat.le_of_ble_eq_true rfl)⟩, ⟨_, rfl, rfl, (by first | exact trivial | exact Nat.le_of_ble_eq_true rfl)⟩, ⟨_, rfl, rfl, (by first | exact trivial | exact Nat.le_of_ble_eq_true rfl)⟩, ⟨_, rfl, rfl, (by first | exact trivial | exact Nat.le_of_ble_eq_true rfl)⟩, ⟨_, rfl, rfl, (by first | exact trivial | exact Nat.le_of_ble_eq_true rfl)⟩, ⟨_, rfl, rfl, (by first | exact trivial | exact Nat.le_of_ble_eq_true rfl)⟩, ⟨_, rfl, rfl, (by first | exact trivial | exact Nat.le_of_ble_eq_true rfl)⟩, ⟨_, rfl, rfl, (by first | exact trivial | exact Nat.le_of_ble_eq_true rfl)⟩, ⟨_, rfl, rfl, (by first | exact trivial | exact Nat.le_of_ble_eq_true rfl)⟩, ⟨_, rfl, rfl, (by first | exact trivial | exact Nat.le_of_ble_eq_true rfl)⟩, ⟨_, rfl, rfl, (by first | exact trivial | exact Nat.le_of_ble_eq_true rfl)⟩, ⟨_, rfl, rfl, (by first | exact trivial | exact Nat.le_of_ble_eq_true rfl)⟩, ⟨_, rfl, rfl, (by first | exact trivial | exact Nat.le_of_ble_eq_true rfl)⟩, ⟨_, rfl, rfl, (by first | exact trivial | exact Nat.le_of_ble_eq_true rfl)⟩, ⟨_, rfl, rfl, (by first | exact trivial | exact Nat.le_of_ble_eq_true rfl)⟩, ⟨_, rfl, rfl, (by first | exact trivial | exact Nat.le_of_ble_eq_true rfl)⟩, ⟨_, rfl, rfl, (by first | exact trivial | exact Nat.le_of_ble_eq_true rfl)⟩, trivial⟩ ⟨⟨_, rfl⟩, ⟨_, rfl⟩, ⟨_, rfl⟩, ⟨_, rfl⟩, ⟨_, rfl⟩, ⟨_, rfl⟩, ⟨_, rfl⟩, ⟨_, rfl⟩, ⟨_, rfl⟩, ⟨_, rfl⟩, ⟨_, rfl⟩, ⟨_, rfl⟩, ⟨_, rfl⟩, ⟨_, rfl⟩, ⟨_, rfl⟩, ⟨_, rfl⟩, ⟨_, rfl⟩, ⟨_, rfl⟩, trivial⟩ ⟨rfl, rfl, trivial⟩ rfl ?_
    refine d_call _ cl16 rfl rfl rfl rfl ⟨rfl, rfl⟩ (fun A w hW => toState_c s w ⟨hW.get 6 rfl (.refl _), trivial⟩ hb) ?_
    rintro v L ⟨z1, rfl, r1, rfl⟩
    refine d_call _ cl18 rfl rfl rfl rfl ⟨rfl, rfl⟩ (fun A w hW => eqState_c x1 z1 w ⟨hW.get 2 rfl (.O_R fun _ h => h), hW.get 0 rfl (.O_R fun _ h => h), trivial⟩ (by rw [q1]; exact hb) (by rw [r1]; exact hb)) ?_
    rintro v L ⟨rfl, rfl⟩
    refine CaseB.mk (fun g => by simp [q1, r1] at g) (fun _ => ?_)
    exact retw [] ⟨rfl, rfl⟩ trivial rfl trivial (fun _ => rfl)

end Go.Proofs.YtklclbcckjhdpaaGreat

namespace Go.Proofs.YtklclbcckjhdpaaGreat

open Go Go.Sx Go.RowKit Go.ChangeShapes Go.WideShapes

theorem undI : Tryz.prog.underlying 3 = some (.int .i64) := by kernel_rfl

theorem undIs : Tryz.prog.underlying 22 = some (.slice 3) := by kernel_rfl

theorem el_int {H : Type} {enc : TypeId × Value → H} {W : World} : ∀ (n : Nat) (cs : List Value) (y : DataW H × List MemPlace), DataW.trod enc Tryz.prog W 0 (fun _ => true) true n 3 cs = some y → ∃ a : Int, cs = cInt a := fun n cs y hy => by
  obtain ⟨k, h1, _, _⟩ := DataW.trod_int undI hy
  exact ⟨k, h1⟩

theorem structWaiter : Tryz.prog.underlying 242 = some (.struct (Tryz.prog.fieldsOf 242)) := by kernel_rfl

theorem fieldsWaiter : (Tryz.prog.fieldsOf 242).toList.map (fun f => (f.type, f.offset, Tryz.prog.cellsOf f.type)) = [(3, 0, 1), (3, 1, 1)] := by kernel_rfl

theorem undWaiterS : Tryz.prog.underlying 163 = some (.slice 242) := by kernel_rfl

set_option maxRecDepth 100000 in
theorem el_Waiter {H : Type} {enc : TypeId × Value → H} {W : World} : ∀ (n : Nat) (cs : List Value) (y : DataW H × List MemPlace), DataW.trod enc Tryz.prog W 0 (fun _ => true) true n 242 cs = some y → ∃ a : Waiter, cs = cWaiter a := fun n cs y hy => by
  obtain ⟨hl, k, hx⟩ := trod_fields structWaiter fieldsWaiter (sz := 2) (by kernel_rfl) hy
  match cs, hl with
  | [a0, a1], _ =>
    obtain ⟨_, h0⟩ := hx 0 _ _ _ rfl
    obtain ⟨p0, e0⟩ := el_int _ _ _ h0
    obtain ⟨_, h1⟩ := hx 1 _ _ _ rfl
    obtain ⟨p1, e1⟩ := el_int _ _ _ h1
    simp [cInt] at e0 e1
    exact ⟨⟨p0, p1⟩, by simp [cWaiter, e0, e1]⟩

theorem structLetter : Tryz.prog.underlying 244 = some (.struct (Tryz.prog.fieldsOf 244)) := by kernel_rfl

theorem fieldsLetter : (Tryz.prog.fieldsOf 244).toList.map (fun f => (f.type, f.offset, Tryz.prog.cellsOf f.type)) = [(3, 0, 1), (3, 1, 1)] := by kernel_rfl

theorem undLetterS : Tryz.prog.underlying 173 = some (.slice 244) := by kernel_rfl

set_option maxRecDepth 100000 in
theorem el_Letter {H : Type} {enc : TypeId × Value → H} {W : World} : ∀ (n : Nat) (cs : List Value) (y : DataW H × List MemPlace), DataW.trod enc Tryz.prog W 0 (fun _ => true) true n 244 cs = some y → ∃ a : Letter, cs = cLet a := fun n cs y hy => by
  obtain ⟨hl, k, hx⟩ := trod_fields structLetter fieldsLetter (sz := 2) (by kernel_rfl) hy
  match cs, hl with
  | [a0, a1], _ =>
    obtain ⟨_, h0⟩ := hx 0 _ _ _ rfl
    obtain ⟨p0, e0⟩ := el_int _ _ _ h0
    obtain ⟨_, h1⟩ := hx 1 _ _ _ rfl
    obtain ⟨p1, e1⟩ := el_int _ _ _ h1
    simp [cInt] at e0 e1
    exact ⟨⟨p0, p1⟩, by simp [cLet, e0, e1]⟩

theorem structOp : Tryz.prog.underlying 228 = some (.struct (Tryz.prog.fieldsOf 228)) := by kernel_rfl

theorem fieldsOp : (Tryz.prog.fieldsOf 228).toList.map (fun f => (f.type, f.offset, Tryz.prog.cellsOf f.type)) = [(3, 0, 1), (3, 1, 1), (3, 2, 1)] := by kernel_rfl

theorem undOpS : Tryz.prog.underlying 161 = some (.slice 228) := by kernel_rfl

set_option maxRecDepth 100000 in
theorem el_Op {H : Type} {enc : TypeId × Value → H} {W : World} : ∀ (n : Nat) (cs : List Value) (y : DataW H × List MemPlace), DataW.trod enc Tryz.prog W 0 (fun _ => true) true n 228 cs = some y → ∃ a : Op, cs = cOp a := fun n cs y hy => by
  obtain ⟨hl, k, hx⟩ := trod_fields structOp fieldsOp (sz := 3) (by kernel_rfl) hy
  match cs, hl with
  | [a0, a1, a2], _ =>
    obtain ⟨_, h0⟩ := hx 0 _ _ _ rfl
    obtain ⟨p0, e0⟩ := el_int _ _ _ h0
    obtain ⟨_, h1⟩ := hx 1 _ _ _ rfl
    obtain ⟨p1, e1⟩ := el_int _ _ _ h1
    obtain ⟨_, h2⟩ := hx 2 _ _ _ rfl
    obtain ⟨p2, e2⟩ := el_int _ _ _ h2
    simp [cInt] at e0 e1 e2
    exact ⟨⟨p0, p1, p2⟩, by simp [cOp, e0, e1, e2]⟩

theorem undOpSS : Tryz.prog.underlying 23 = some (.slice 161) := by kernel_rfl

theorem el_OpS {H : Type} {enc : TypeId × Value → H} {W : World} : ∀ (n : Nat) (cs : List Value) (y : DataW H × List MemPlace), DataW.trod enc Tryz.prog W 0 (fun _ => true) true n 161 cs = some y → ∃ a : OpSH, cs = cOpSH a ∧ AllR W (opSO a) := fun n cs y hy => by
  obtain ⟨i, xs, e, r, f⟩ := open_sl encOp (by decide) undOpS (by kernel_rfl) el_Op hy
  exact ⟨⟨xs, i⟩, e, AllR.cons ⟨r, f⟩ (AllR.nil W)⟩

theorem structSem : Tryz.prog.underlying 165 = some (.struct (Tryz.prog.fieldsOf 165)) := by kernel_rfl

theorem fieldsSem : (Tryz.prog.fieldsOf 165).toList.map (fun f => (f.type, f.offset, Tryz.prog.cellsOf f.type)) = [(3, 0, 1), (3, 1, 1), (163, 2, 1)] := by kernel_rfl

theorem undSemS : Tryz.prog.underlying 26 = some (.slice 165) := by kernel_rfl

set_option maxRecDepth 100000 in
theorem el_Sem {H : Type} {enc : TypeId × Value → H} {W : World} : ∀ (n : Nat) (cs : List Value) (y : DataW H × List MemPlace), DataW.trod enc Tryz.prog W 0 (fun _ => true) true n 165 cs = some y → ∃ a : SemH, cs = cSemH a ∧ AllR W (semO a) := fun n cs y hy => by
  obtain ⟨hl, k, hx⟩ := trod_fields structSem fieldsSem (sz := 3) (by kernel_rfl) hy
  match cs, hl with
  | [a0, a1, a2], _ =>
    obtain ⟨_, h0⟩ := hx 0 _ _ _ rfl
    obtain ⟨p0, e0⟩ := el_int _ _ _ h0
    obtain ⟨_, h1⟩ := hx 1 _ _ _ rfl
    obtain ⟨p1, e1⟩ := el_int _ _ _ h1
    obtain ⟨_, h2⟩ := hx 2 _ _ _ rfl
    obtain ⟨i2, p2, e2, r2, f2⟩ := open_sl encWaiter (by decide) undWaiterS (by kernel_rfl) el_Waiter h2
    simp [cInt] at e0 e1 e2
    exact ⟨⟨⟨p0, p1, p2⟩, i2⟩, by simp [cSemH, e0, e1, e2], AllR.cons ⟨r2, f2⟩ (AllR.nil W)⟩

theorem structOnce : Tryz.prog.underlying 167 = some (.struct (Tryz.prog.fieldsOf 167)) := by kernel_rfl

theorem fieldsOnce : (Tryz.prog.fieldsOf 167).toList.map (fun f => (f.type, f.offset, Tryz.prog.cellsOf f.type)) = [(3, 0, 1), (3, 1, 1), (3, 2, 1), (22, 3, 1)] := by kernel_rfl

theorem undOnceS : Tryz.prog.underlying 27 = some (.slice 167) := by kernel_rfl

set_option maxRecDepth 100000 in
theorem el_Once {H : Type} {enc : TypeId × Value → H} {W : World} : ∀ (n : Nat) (cs : List Value) (y : DataW H × List MemPlace), DataW.trod enc Tryz.prog W 0 (fun _ => true) true n 167 cs = some y → ∃ a : OnceH, cs = cOnceH a ∧ AllR W (onceO a) := fun n cs y hy => by
  obtain ⟨hl, k, hx⟩ := trod_fields structOnce fieldsOnce (sz := 4) (by kernel_rfl) hy
  match cs, hl with
  | [a0, a1, a2, a3], _ =>
    obtain ⟨_, h0⟩ := hx 0 _ _ _ rfl
    obtain ⟨p0, e0⟩ := el_int _ _ _ h0
    obtain ⟨_, h1⟩ := hx 1 _ _ _ rfl
    obtain ⟨p1, e1⟩ := el_int _ _ _ h1
    obtain ⟨_, h2⟩ := hx 2 _ _ _ rfl
    obtain ⟨p2, e2⟩ := el_int _ _ _ h2
    obtain ⟨_, h3⟩ := hx 3 _ _ _ rfl
    obtain ⟨i3, p3, e3, r3, f3⟩ := open_sl encInt Nat.zero_lt_one undIs (by kernel_rfl) el_int h3
    simp [cInt] at e0 e1 e2 e3
    exact ⟨⟨⟨p0, p1, p2, p3⟩, i3⟩, by simp [cOnceH, e0, e1, e2, e3], AllR.cons ⟨r3, f3⟩ (AllR.nil W)⟩

theorem structGroup : Tryz.prog.underlying 169 = some (.struct (Tryz.prog.fieldsOf 169)) := by kernel_rfl

theorem fieldsGroup : (Tryz.prog.fieldsOf 169).toList.map (fun f => (f.type, f.offset, Tryz.prog.cellsOf f.type)) = [(3, 0, 1), (22, 1, 1)] := by kernel_rfl

theorem undGroupS : Tryz.prog.underlying 28 = some (.slice 169) := by kernel_rfl

set_option maxRecDepth 100000 in
theorem el_Group {H : Type} {enc : TypeId × Value → H} {W : World} : ∀ (n : Nat) (cs : List Value) (y : DataW H × List MemPlace), DataW.trod enc Tryz.prog W 0 (fun _ => true) true n 169 cs = some y → ∃ a : GroupH, cs = cGroupH a ∧ AllR W (groupO a) := fun n cs y hy => by
  obtain ⟨hl, k, hx⟩ := trod_fields structGroup fieldsGroup (sz := 2) (by kernel_rfl) hy
  match cs, hl with
  | [a0, a1], _ =>
    obtain ⟨_, h0⟩ := hx 0 _ _ _ rfl
    obtain ⟨p0, e0⟩ := el_int _ _ _ h0
    obtain ⟨_, h1⟩ := hx 1 _ _ _ rfl
    obtain ⟨i1, p1, e1, r1, f1⟩ := open_sl encInt Nat.zero_lt_one undIs (by kernel_rfl) el_int h1
    simp [cInt] at e0 e1
    exact ⟨⟨⟨p0, p1⟩, i1⟩, by simp [cGroupH, e0, e1], AllR.cons ⟨r1, f1⟩ (AllR.nil W)⟩

theorem structBarrier : Tryz.prog.underlying 171 = some (.struct (Tryz.prog.fieldsOf 171)) := by kernel_rfl

theorem fieldsBarrier : (Tryz.prog.fieldsOf 171).toList.map (fun f => (f.type, f.offset, Tryz.prog.cellsOf f.type)) = [(3, 0, 1), (3, 1, 1), (22, 2, 1)] := by kernel_rfl

theorem undBarrierS : Tryz.prog.underlying 29 = some (.slice 171) := by kernel_rfl

set_option maxRecDepth 100000 in
theorem el_Barrier {H : Type} {enc : TypeId × Value → H} {W : World} : ∀ (n : Nat) (cs : List Value) (y : DataW H × List MemPlace), DataW.trod enc Tryz.prog W 0 (fun _ => true) true n 171 cs = some y → ∃ a : BarrierH, cs = cBarrierH a ∧ AllR W (barrierO a) := fun n cs y hy => by
  obtain ⟨hl, k, hx⟩ := trod_fields structBarrier fieldsBarrier (sz := 3) (by kernel_rfl) hy
  match cs, hl with
  | [a0, a1, a2], _ =>
    obtain ⟨_, h0⟩ := hx 0 _ _ _ rfl
    obtain ⟨p0, e0⟩ := el_int _ _ _ h0
    obtain ⟨_, h1⟩ := hx 1 _ _ _ rfl
    obtain ⟨p1, e1⟩ := el_int _ _ _ h1
    obtain ⟨_, h2⟩ := hx 2 _ _ _ rfl
    obtain ⟨i2, p2, e2, r2, f2⟩ := open_sl encInt Nat.zero_lt_one undIs (by kernel_rfl) el_int h2
    simp [cInt] at e0 e1 e2
    exact ⟨⟨⟨p0, p1, p2⟩, i2⟩, by simp [cBarrierH, e0, e1, e2], AllR.cons ⟨r2, f2⟩ (AllR.nil W)⟩

theorem structChan : Tryz.prog.underlying 175 = some (.struct (Tryz.prog.fieldsOf 175)) := by kernel_rfl

theorem fieldsChan : (Tryz.prog.fieldsOf 175).toList.map (fun f => (f.type, f.offset, Tryz.prog.cellsOf f.type)) = [(3, 0, 1), (22, 1, 1), (173, 2, 1), (22, 3, 1), (4, 4, 1)] := by kernel_rfl

theorem undChanS : Tryz.prog.underlying 30 = some (.slice 175) := by kernel_rfl

set_option maxRecDepth 100000 in
theorem el_Chan {H : Type} {enc : TypeId × Value → H} {W : World} : ∀ (n : Nat) (cs : List Value) (y : DataW H × List MemPlace), DataW.trod enc Tryz.prog W 0 (fun _ => true) true n 175 cs = some y → ∃ a : ChanH, cs = cChanH a ∧ AllR W (chanO a) := fun n cs y hy => by
  obtain ⟨hl, k, hx⟩ := trod_fields structChan fieldsChan (sz := 5) (by kernel_rfl) hy
  match cs, hl with
  | [a0, a1, a2, a3, a4], _ =>
    obtain ⟨_, h0⟩ := hx 0 _ _ _ rfl
    obtain ⟨p0, e0⟩ := el_int _ _ _ h0
    obtain ⟨_, h1⟩ := hx 1 _ _ _ rfl
    obtain ⟨i1, p1, e1, r1, f1⟩ := open_sl encInt Nat.zero_lt_one undIs (by kernel_rfl) el_int h1
    obtain ⟨_, h2⟩ := hx 2 _ _ _ rfl
    obtain ⟨i2, p2, e2, r2, f2⟩ := open_sl encLet (by decide) undLetterS (by kernel_rfl) el_Letter h2
    obtain ⟨_, h3⟩ := hx 3 _ _ _ rfl
    obtain ⟨i3, p3, e3, r3, f3⟩ := open_sl encInt Nat.zero_lt_one undIs (by kernel_rfl) el_int h3
    obtain ⟨_, h4⟩ := hx 4 _ _ _ rfl
    obtain ⟨p4, e4, _⟩ := DataW.trod_bool undBool h4
    simp [cInt] at e0 e1 e2 e3 e4
    exact ⟨⟨⟨p0, p1, p2, p3, p4⟩, i1, i2, i3⟩, by simp [cChanH, e0, e1, e2, e3, e4], AllR.cons ⟨r1, f1⟩ (AllR.cons ⟨r2, f2⟩ (AllR.cons ⟨r3, f3⟩ (AllR.nil W)))⟩

theorem structProg : Tryz.prog.underlying 25 = some (.struct (Tryz.prog.fieldsOf 25)) := by kernel_rfl

theorem fieldsProg : (Tryz.prog.fieldsOf 25).toList.map (fun f => (f.type, f.offset, Tryz.prog.cellsOf f.type)) = [(22, 0, 1), (22, 1, 1), (22, 2, 1), (22, 3, 1), (23, 4, 1)] := by kernel_rfl

set_option maxRecDepth 100000 in
theorem open_Prog {H : Type} {enc : TypeId × Value → H} {W : World} {base : Nat} {v : Value} {d : DataW H} {p : List MemPlace} (hv : Value.okWide Tryz.prog W .any base 25 v) (h : DataW.Trod enc Tryz.prog W 0 (fun _ => true) true 25 v d p) :
    ∃ s : ProgH, v = progV s ∧ (fR (progO s)).P W ∧ ∀ b, (fR (progO s)).foot b → b < W.heap.size := by
  obtain ⟨vs, rfl, _⟩ := okWide_struct structProg hv
  obtain ⟨fuel, hf⟩ := h
  obtain ⟨hl, k, hx⟩ := trod_fields structProg fieldsProg (sz := 5) (by kernel_rfl) hf
  obtain ⟨cs⟩ := vs
  have hl : cs.length = 5 := hl
  match cs, hl with
  | [a0, a1, a2, a3, a4], _ =>
    obtain ⟨_, h0⟩ := hx 0 _ _ _ rfl
    obtain ⟨i0, p0, e0, r0, f0⟩ := open_sl encInt Nat.zero_lt_one undIs (by kernel_rfl) el_int h0
    obtain ⟨_, h1⟩ := hx 1 _ _ _ rfl
    obtain ⟨i1, p1, e1, r1, f1⟩ := open_sl encInt Nat.zero_lt_one undIs (by kernel_rfl) el_int h1
    obtain ⟨_, h2⟩ := hx 2 _ _ _ rfl
    obtain ⟨i2, p2, e2, r2, f2⟩ := open_sl encInt Nat.zero_lt_one undIs (by kernel_rfl) el_int h2
    obtain ⟨_, h3⟩ := hx 3 _ _ _ rfl
    obtain ⟨i3, p3, e3, r3, f3⟩ := open_sl encInt Nat.zero_lt_one undIs (by kernel_rfl) el_int h3
    obtain ⟨_, h4⟩ := hx 4 _ _ _ rfl
    obtain ⟨i4, p4, e4, r4, f4, q4⟩ := open_slQ encOpSH (by decide) undOpSS (by kernel_rfl) el_OpS h4
    simp [Value.cells] at e0 e1 e2 e3 e4
    refine ⟨⟨p0, p1, p2, p3, p4, i0, i1, i2, i3, i4⟩, ?_, AllR.at ?_⟩
    · simp [progV, e0, e1, e2, e3, e4]
    · exact AllR.cons ⟨r0, f0⟩ (AllR.cons ⟨r1, f1⟩ (AllR.cons ⟨r2, f2⟩ (AllR.cons ⟨r3, f3⟩ ((AllR.cons ⟨r4, f4⟩ (AllR.flat q4))))))

theorem structState : Tryz.prog.underlying 32 = some (.struct (Tryz.prog.fieldsOf 32)) := by kernel_rfl

theorem fieldsState : (Tryz.prog.fieldsOf 32).toList.map (fun f => (f.type, f.offset, Tryz.prog.cellsOf f.type)) = [(22, 0, 1), (22, 1, 1), (26, 2, 1), (27, 3, 1), (28, 4, 1), (29, 5, 1), (30, 6, 1), (22, 7, 1), (3, 8, 1)] := by kernel_rfl

set_option maxRecDepth 100000 in
theorem open_State {H : Type} {enc : TypeId × Value → H} {W : World} {base : Nat} {v : Value} {d : DataW H} {p : List MemPlace} (hv : Value.okWide Tryz.prog W .any base 32 v) (h : DataW.Trod enc Tryz.prog W 0 (fun _ => true) true 32 v d p) :
    ∃ s : StateH, v = stateV s ∧ (fR (stateO s)).P W ∧ ∀ b, (fR (stateO s)).foot b → b < W.heap.size := by
  obtain ⟨vs, rfl, _⟩ := okWide_struct structState hv
  obtain ⟨fuel, hf⟩ := h
  obtain ⟨hl, k, hx⟩ := trod_fields structState fieldsState (sz := 9) (by kernel_rfl) hf
  obtain ⟨cs⟩ := vs
  have hl : cs.length = 9 := hl
  match cs, hl with
  | [a0, a1, a2, a3, a4, a5, a6, a7, a8], _ =>
    obtain ⟨_, h0⟩ := hx 0 _ _ _ rfl
    obtain ⟨i0, p0, e0, r0, f0⟩ := open_sl encInt Nat.zero_lt_one undIs (by kernel_rfl) el_int h0
    obtain ⟨_, h1⟩ := hx 1 _ _ _ rfl
    obtain ⟨i1, p1, e1, r1, f1⟩ := open_sl encInt Nat.zero_lt_one undIs (by kernel_rfl) el_int h1
    obtain ⟨_, h2⟩ := hx 2 _ _ _ rfl
    obtain ⟨i2, p2, e2, r2, f2, q2⟩ := open_slQ encSemH (by decide) undSemS (by kernel_rfl) el_Sem h2
    obtain ⟨_, h3⟩ := hx 3 _ _ _ rfl
    obtain ⟨i3, p3, e3, r3, f3, q3⟩ := open_slQ encOnceH (by decide) undOnceS (by kernel_rfl) el_Once h3
    obtain ⟨_, h4⟩ := hx 4 _ _ _ rfl
    obtain ⟨i4, p4, e4, r4, f4, q4⟩ := open_slQ encGroupH (by decide) undGroupS (by kernel_rfl) el_Group h4
    obtain ⟨_, h5⟩ := hx 5 _ _ _ rfl
    obtain ⟨i5, p5, e5, r5, f5, q5⟩ := open_slQ encBarrierH (by decide) undBarrierS (by kernel_rfl) el_Barrier h5
    obtain ⟨_, h6⟩ := hx 6 _ _ _ rfl
    obtain ⟨i6, p6, e6, r6, f6, q6⟩ := open_slQ encChanH (by decide) undChanS (by kernel_rfl) el_Chan h6
    obtain ⟨_, h7⟩ := hx 7 _ _ _ rfl
    obtain ⟨i7, p7, e7, r7, f7⟩ := open_sl encInt Nat.zero_lt_one undIs (by kernel_rfl) el_int h7
    obtain ⟨_, h8⟩ := hx 8 _ _ _ rfl
    obtain ⟨p8, e8⟩ := el_int _ _ _ h8
    simp [cInt, Value.cells] at e0 e1 e2 e3 e4 e5 e6 e7 e8
    refine ⟨⟨p0, p1, p2, p3, p4, p5, p6, p7, p8, i0, i1, i2, i3, i4, i5, i6, i7⟩, ?_, AllR.at ?_⟩
    · simp [stateV, e0, e1, e2, e3, e4, e5, e6, e7, e8]
    · exact AllR.cons ⟨r0, f0⟩ (AllR.cons ⟨r1, f1⟩ ((AllR.append (AllR.cons ⟨r2, f2⟩ (AllR.flat q2)) (AllR.append (AllR.cons ⟨r3, f3⟩ (AllR.flat q3)) (AllR.append (AllR.cons ⟨r4, f4⟩ (AllR.flat q4)) (AllR.append (AllR.cons ⟨r5, f5⟩ (AllR.flat q5)) (AllR.append (AllR.cons ⟨r6, f6⟩ (AllR.flat q6)) (AllR.cons ⟨r7, f7⟩ (AllR.nil W)))))))))

set_option maxRecDepth 100000 in
theorem lifted_PSi {f : FuncId} {fn : Func} {s : ChangeSpec} {conds : List PathCond} (hf : Tryz.checked.prog.funcs[f]? = some fn) (hfn : Tryz.checked.prog.inits.idxOf? f = none) (hpl : fn.params = #[25, 32, 3]) (hres : fn.resultTypes = #[4]) (hvars : s.vars = [])
    (hspec : ∀ (H : Type) (d0 d1 d2 : DataW H), s.fn H [d0, d1, d2] = { results := [.lit (.bool true)], args := [d0, d1, d2] })
    (hc : ∀ (x0 : ProgH) (x1 : StateH) (x2 : Int) (w : World), At w [fR (progO x0), fR (stateO x1)] → Calls Tryz.prog f #[progV x0, stateV x1, .int .i64 x2] w (Ret w fun v L => v = .bool true ∧ L = []))
    (os : Os) (started : os.Started) (H : Type) (enc : TypeId × Value → H)
    (wit : ∃ (w : World) (tape : Tape) (i : Input), w.os = os ∧ (w.forCall tape i).Shaped Tryz.checked.prog ∧ i.vars = [] ∧ Input.okWide Tryz.checked.prog (w.forCall tape i) .any w.heap.size f i ∧
      s.pre6 enc Tryz.checked.prog fn conds false (w.forCall tape i).memory i.args ∧ ({} : Assume).holds Tryz.checked.prog (lone (Frame.enter Tryz.checked.prog f i.args .normal) [] (w.forCall tape i))) :
    ReturnsInHanded {} Tryz.checked os f .any (s.pre6 enc Tryz.checked.prog fn conds false) (s.post enc Tryz.checked.prog fn false true false false) := by
  refine returnsInHanded_of_change (C := Tryz.checked) ownNone started hfn hf wit ?_
  intro W base args ds gs before hval hW _ _
  have hW' := hW
  obtain ⟨p, q, hA0, hV, _, _, _⟩ := hW
  rw [hpl] at hA0
  have hA : DataW.TrodAll enc Tryz.prog W 0 (fun _ => true) true [25, 32, 3] args.toList ds p := hA0
  obtain ⟨v0, vs0, d0, ds0, p0, q0, e0, rfl, _, h0, hA⟩ := trodAll_cons hA
  obtain ⟨v1, vs1, d1, ds1, p1, q1, rfl, rfl, _, h1, hA⟩ := trodAll_cons hA
  obtain ⟨v2, vs2, d2, ds2, p2, q2, rfl, rfl, _, h2, hA⟩ := trodAll_cons hA
  obtain ⟨rfl, rfl, _⟩ := trodAll_nil hA
  obtain rfl : args = #[v0, v1, v2] := by apply Array.ext'; simpa using e0
  obtain ⟨x0, rfl, hat0⟩ := open_Prog (hval 0 25 v0 (by rw [hpl]; rfl) rfl) h0
  obtain ⟨x1, rfl, hat1⟩ := open_State (hval 1 32 v1 (by rw [hpl]; rfl) rfl) h1
  obtain ⟨x2, rfl, _⟩ := open_int undI (hval 2 3 v2 (by rw [hpl]; rfl) rfl) h2
  refine (hc x0 x1 x2 W ⟨hat0, hat1, trivial⟩).mono fun e W' hR => ?_
  obtain ⟨v, L, rfl, he, _, rfl, _⟩ := hR
  rw [hvars] at hV
  obtain ⟨rfl, _⟩ := trodVars_none hV
  exact ⟨_, rfl, law_post (P := Tryz.prog) laidOut (pl := [25, 32, 3]) (by rw [hpl]) (by kernel_rfl) hvars hres undBool (hspec H d0 d1 d2) hW' he.below⟩

end Go.Proofs.YtklclbcckjhdpaaGreat

namespace Go.Proofs.YtklclbcckjhdpaaGreat

open Go Go.Sx Go.RowKit Go.ChangeShapes Go.WideShapes

set_option maxRecDepth 100000 in
theorem fnExactWaitsFor_lifted (os : Os) (started : os.Started) (H : Type) (enc : TypeId × Value → H) :
    ReturnsInHanded {} Tryz.checked os 5 .any (Rows.fnExactWaitsForSpec.pre6 enc Tryz.checked.prog Tryz.f5 Rows.fnExactWaitsForRow.domain false) (Rows.fnExactWaitsForSpec.post enc Tryz.checked.prog Tryz.f5 false true false false) :=
  lifted_PSi Tryz.func5 (by kernel_rfl) rfl rfl rfl (fun _ _ _ _ => rfl) exactWaitsFor_c os started H enc
    (ChangeSpec.witness6 (enc := enc) (C := Tryz.checked) false ⟨#[], #[.agg #[.slice none 0 0, .slice none 0 0, .slice none 0 0, .slice none 0 0, .slice none 0 0], .agg #[.slice none 0 0, .slice none 0 0, .slice none 0 0, .slice none 0 0, .slice none 0 0, .slice none 0 0, .slice none 0 0, .slice none 0 0, .int .i64 0], .int .i64 0], []⟩ 8 (by kernel_rfl) (by kernel_rfl) (by kernel_rfl) (by kernel_rfl))

theorem fnExactWaitsFor_holds : Rows.FnExactWaitsForSaid :=
  OpenClaim.holds_of_wide 5 Tryz.f5 rfl rfl rfl rfl rfl rfl rfl ⟨rfl, rfl, rfl, rfl, rfl⟩ rfl rfl rfl rfl rfl (by kernel_rfl) Tryz.func5 (by kernel_rfl)
    (of_decide_eq_true (by kernel_rfl)) (by unfold Func.isWrapper; first | (rw [if_pos (by decide +kernel)]; kernel_rfl) | (rw [if_neg (by decide +kernel)]; exact ⟨rfl, rfl⟩))
    (fun os started H enc _ => fnExactWaitsFor_lifted os started H enc)

end Go.Proofs.YtklclbcckjhdpaaGreat
