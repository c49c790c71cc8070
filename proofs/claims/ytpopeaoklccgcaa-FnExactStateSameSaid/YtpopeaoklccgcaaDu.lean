/- Comparing states: the reference. -/
import Derived.Test.YtpopeaoklccgcaaDt
namespace Go.Proofs.Ytpopeaoklccgcaa

open Go Go.Sx Go.RowKit

set_option maxHeartbeats 16000000 in
set_option maxRecDepth 100000 in
theorem stateSameS_c (s t : StateH) (w : World) (h : At w [fR (stateO s), fR (stateO t)]) (hb : s.pure.small20) (hb2 : t.pure.small20) :
    Calls Try.prog 7 #[stateV s, stateV t] w (Ret w fun v L => v = .bool (decide (s.pure = t.pure)) ∧ L = []) := by
  have hx := state_eq s t
  have hlen : ∀ {α β : Type} {f : α → β} {xs ys : List α}, xs.map f = ys.map f → xs.length = ys.length := fun e => by have := congrArg List.length e; simpa using this
  have hb' := hb
  have hb2' := hb2
  obtain ⟨b0, b1, b2, b3, b4, b5, b6, b7⟩ := hb
  obtain ⟨c0, c1, c2, c3, c4, c5, c6, c7⟩ := hb2
  refine calls2 Try.func7 rfl tabOk w _ rfl _ rfl _ h ⟨rfl, rfl, rfl, rfl, trivial⟩ _ _ (by decide) ?_
  refine stop_call _ cl30 rfl rfl rfl rfl ⟨rfl, rfl⟩ (fun A w hW => l2Ints_c s.h0 t.h0 s.places t.places w ⟨hW.get 0 rfl (.ofR (stateO_places s)), hW.get 1 rfl (.ofR (stateO_places t)), trivial⟩ (Nat.le_trans b0 (by decide)) (Nat.le_trans c0 (by decide))) ?_
  rintro v L ⟨rfl, rfl⟩
  refine CaseB.mk (fun h0 => ?_) (fun h0 => ?_)
  · have g : ¬ s.pure = t.pure := fun e => by
      rw [hx] at e
      simp [e] at h0
    exact retw [] ⟨by simp [g], rfl⟩ trivial rfl trivial (fun _ => rfl)
  refine stop_call _ cl30 rfl rfl rfl rfl ⟨rfl, rfl⟩ (fun A w hW => l2Ints_c s.h1 t.h1 s.status t.status w ⟨hW.get 0 rfl (.ofR (stateO_status s)), hW.get 1 rfl (.ofR (stateO_status t)), trivial⟩ (Nat.le_trans b1 (by decide)) (Nat.le_trans c1 (by decide))) ?_
  rintro v L ⟨rfl, rfl⟩
  refine CaseB.mk (fun h1 => ?_) (fun h1 => ?_)
  · have g : ¬ s.pure = t.pure := fun e => by
      rw [hx] at e
      simp [e] at h1
    exact retw [] ⟨by simp [g], rfl⟩ trivial rfl trivial (fun _ => rfl)
  refine stop_call _ cl30 rfl rfl rfl rfl ⟨rfl, rfl⟩ (fun A w hW => l2Ints_c s.h7 t.h7 s.said t.said w ⟨hW.get 0 rfl (.ofR (stateO_said s)), hW.get 1 rfl (.ofR (stateO_said t)), trivial⟩ (Nat.le_trans b7 (by decide)) (Nat.le_trans c7 (by decide))) ?_
  rintro v L ⟨rfl, rfl⟩
  refine CaseB.mk (fun h2 => ?_) (fun h2 => ?_)
  · have g : ¬ s.pure = t.pure := fun e => by
      rw [hx] at e
      simp [e] at h2
    exact retw [] ⟨by simp [g], rfl⟩ trivial rfl trivial (fun _ => rfl)
  refine CaseB.mk (fun h3 => ?_) (fun h3 => ?_)
  · have g : ¬ s.pure = t.pure := fun e => by
      rw [hx] at e
      simp [e] at h3
    exact retw [] ⟨by simp [g], rfl⟩ trivial rfl trivial (fun _ => rfl)
  refine stop_call _ cl31 rfl rfl rfl rfl ⟨rfl, rfl⟩ (fun A w hW => sameA_c s t w ⟨hW.get 0 rfl (.refl _), hW.get 1 rfl (.refl _), trivial⟩ hb' hb2') ?_
  rintro v L ⟨rfl, rfl⟩
  refine CaseB.mk (fun h4 => ?_) (fun h4 => ?_)
  · have g : ¬ s.pure = t.pure := fun e => by
      rw [hx] at e
      simp [e] at h4
    exact retw [] ⟨by simp [g], rfl⟩ trivial rfl trivial (fun _ => rfl)
  refine CaseB.mk (fun h5 => ?_) (fun h5 => ?_)
  · have g : ¬ s.pure = t.pure := fun e => by
      rw [hx] at e
      have := hlen e.2.2.2.2.2.1
      simp [this] at h5
    exact retw [] ⟨by simp [g], rfl⟩ trivial rfl trivial (fun _ => rfl)
  refine CaseB.mk (fun h6 => ?_) (fun h6 => ?_)
  · have g : ¬ s.pure = t.pure := fun e => by
      rw [hx] at e
      have := hlen e.2.2.2.2.2.2.1
      simp [this] at h6
    exact retw [] ⟨by simp [g], rfl⟩ trivial rfl trivial (fun _ => rfl)
  have hl0 : s.barriers.length = t.barriers.length := by simp at h5; omega
  have hl1 : s.chans.length = t.chans.length := by simp at h6; omega
  refine LoopW.mk ⟨{ p : Nat // p ≤ s.barriers.length ∧ (s.barriers.map (·.m)).take p = (t.barriers.map (·.m)).take p },
    fun p => .mk [(2, .p 0 0), (3, .p 1 0), (5, .v (.int .i64 p.1))] 2 0 [(0, 38, 9), (1, 38, 9)] [((0, 5), .v (s.h5.val s.barriers.length)), ((0, 6), .v (s.h6.val s.chans.length)), ((1, 5), .v (t.h5.val t.barriers.length)), ((1, 6), .v (t.h6.val t.chans.length))] [fR (stateO s), fR (stateO t)],
    fun p => s.barriers.length - p.1, ⟨0, Nat.zero_le _, rfl⟩, ?_, ?_⟩
  · refine weak_mk [0, 1] ?_ ?_ ?_ ?_ ?_ rfl rfl
    · repeat (first | exact trivial | refine ⟨⟨_, rfl, (by first | exact .of rfl | exact .lit rfl | exact .of (by first | (rfl)) | exact .lit (by first | (rfl))), (by first | exact trivial | exact Nat.le_of_ble_eq_true rfl)⟩, ?_⟩)
    · repeat (first | exact trivial | refine ⟨⟨(by first | exact .head _ | exact .tail _ (.head _) | exact .tail _ (.tail _ (.head _)) | exact .tail _ (.tail _ (.tail _ (.head _))) | exact .tail _ (.tail _ (.tail _ (.tail _ (.head _)))) | exact .tail _ (.tail _ (.tail _ (.tail _ (.tail _ (.head _))))) | exact .tail _ (.tail _ (.tail _ (.tail _ (.tail _ (.tail _ (.head _)))))) | exact .tail _ (.tail _ (.tail _ (.tail _ (.tail _ (.tail _ (.tail _ (.head _))))))) | exact .tail _ (.tail _ (.tail _ (.tail _ (.tail _ (.tail _ (.tail _ (.tail _ (.head _)))))))) | exact .tail _ (.tail _ (.tail _ (.tail _ (.tail _ (.tail _ (.tail _ (.tail _ (.tail _ (.head _)))))))))), Nat.le_of_ble_eq_true rfl⟩, ?_⟩)
    · repeat (first | exact trivial | refine ⟨⟨_, rfl, (by first | exact .of rfl | exact .lit rfl | exact .of (by first | (rfl)) | exact .lit (by first | (rfl))), (by first | exact trivial | exact Nat.le_of_ble_eq_true rfl)⟩, ?_⟩)
    · repeat (first | exact trivial | refine ⟨⟨_, rfl⟩, ?_⟩)
    · repeat (first | exact trivial | refine ⟨.inl ⟨_, rfl, (by first | rfl | (rfl))⟩, ?_⟩ | refine ⟨.inr ⟨Nat.le_of_ble_eq_true rfl, rfl, rfl, rfl, rfl⟩, ?_⟩)
  rintro ⟨j, hj, he⟩
  refine CaseB.mk (fun g => ?_) (fun g => ?_)
  · have hlt : j < s.barriers.length := by simpa using g
    have hlt2 : j < t.barriers.length := by omega
    obtain ⟨q1, q2⟩ := take_eq_succ he (by simpa using hlt) (by simpa using hlt2)
    simp only [List.getElem_map] at q1 q2
    have hbx : ∀ a b : Barrier, a = b ↔ a.parties = b.parties ∧ a.round = b.round ∧ a.waits = b.waits := fun a b => by cases a; cases b; simp
    have hne : ¬ (s.barriers[j].m.parties = t.barriers[j].m.parties ∧ s.barriers[j].m.round = t.barriers[j].m.round ∧ s.barriers[j].m.waits = t.barriers[j].m.waits) → ¬ s.pure = t.pure := fun n e => q2 (fun e' => n ((hbx _ _).1 e')) (hx.1 e).2.2.2.2.2.1
    refine stop_idx encBarrierH tabOk rfl rfl rfl rfl rfl ⟨rfl, rfl⟩ (rdVia 0 rfl (.trans (.R_R (stateO_barriers s)) (.ofR nest_h))) j rfl (by first | omega | (simp; done) | (simp; omega) | (unfold maxLen; omega) | (unfold maxLen; simp; done) | (unfold maxLen; simp; omega)) (fun ad => ?_)
    refine stop_idx encBarrierH tabOk rfl rfl rfl rfl rfl ⟨rfl, rfl⟩ (rdVia 1 rfl (.trans (.R_R (stateO_barriers t)) (.ofR nest_h))) j rfl (by first | omega | (simp; done) | (simp; omega) | (unfold maxLen; omega) | (unfold maxLen; simp; done) | (unfold maxLen; simp; omega)) (fun ad2 => ?_)
    refine CaseB.mk (fun k0 => ?_) (fun k0 => ?_)
    · have g := hne (fun e => by simp [e] at k0)
      exact retw [] ⟨by simp [g], rfl⟩ trivial rfl trivial (fun _ => rfl)
    refine CaseB.mk (fun k1 => ?_) (fun k1 => ?_)
    · have g := hne (fun e => by simp [e] at k1)
      exact retw [] ⟨by simp [g], rfl⟩ trivial rfl trivial (fun _ => rfl)
    refine stop_call _ cl30 rfl rfl rfl rfl ⟨rfl, rfl⟩ (fun A w hW => l2Ints_c _ _ _ _ w ⟨hW.get 0 rfl (.trans (.R_R (stateO_barriers s)) (.ofR (barriersO_0 _ _ j hlt))), hW.get 1 rfl (.trans (.R_R (stateO_barriers t)) (.ofR (barriersO_0 _ _ j hlt2))), trivial⟩ (Nat.le_trans ((allS_map b5).2 _ (List.getElem_mem hlt)) (by decide)) (Nat.le_trans ((allS_map c5).2 _ (List.getElem_mem hlt2)) (by decide))) ?_
    rintro v L ⟨rfl, rfl⟩
    refine CaseB.mk (fun k2 => ?_) (fun k2 => ?_)
    · have g := hne (fun e => by simp [e] at k2)
      exact retw [] ⟨by simp [g], rfl⟩ trivial rfl trivial (fun _ => rfl)
    · have heq := q1 ((hbx _ _).2 ⟨by simpa using k0, by simpa using k1, by simpa using k2⟩)
      have hw := e_succ j _ hlt (by have := (allS_map b5).1; omega)
      refine ⟨⟨j + 1, by omega, heq⟩, ?_, by simp; omega⟩
      refine weak_mk [0, 1] ?_ ?_ ?_ ?_ ?_ rfl rfl
      · repeat (first | exact trivial | refine ⟨⟨_, rfl, (by first | exact .of rfl | exact .lit rfl | exact .of (by first | ((exact congrArg (fun z => SV.v (Value.int .i64 z)) hw))) | exact .lit (by first | ((exact congrArg (fun z => SV.v (Value.int .i64 z)) hw)))), (by first | exact trivial | exact Nat.le_of_ble_eq_true rfl)⟩, ?_⟩)
      · repeat (first | exact trivial | refine ⟨⟨(by first | exact .head _ | exact .tail _ (.head _) | exact .tail _ (.tail _ (.head _)) | exact .tail _ (.tail _ (.tail _ (.head _))) | exact .tail _ (.tail _ (.tail _ (.tail _ (.head _)))) | exact .tail _ (.tail _ (.tail _ (.tail _ (.tail _ (.head _))))) | exact .tail _ (.tail _ (.tail _ (.tail _ (.tail _ (.tail _ (.head _)))))) | exact .tail _ (.tail _ (.tail _ (.tail _ (.tail _ (.tail _ (.tail _ (.head _))))))) | exact .tail _ (.tail _ (.tail _ (.tail _ (.tail _ (.tail _ (.tail _ (.tail _ (.head _)))))))) | exact .tail _ (.tail _ (.tail _ (.tail _ (.tail _ (.tail _ (.tail _ (.tail _ (.tail _ (.head _)))))))))), Nat.le_of_ble_eq_true rfl⟩, ?_⟩)
      · repeat (first | exact trivial | refine ⟨⟨_, rfl, (by first | exact .of rfl | exact .lit rfl | exact .of (by first | ((exact congrArg (fun z => SV.v (Value.int .i64 z)) hw))) | exact .lit (by first | ((exact congrArg (fun z => SV.v (Value.int .i64 z)) hw)))), (by first | exact trivial | exact Nat.le_of_ble_eq_true rfl)⟩, ?_⟩)
      · repeat (first | exact trivial | refine ⟨⟨_, rfl⟩, ?_⟩)
      · repeat (first | exact trivial | refine ⟨.inl ⟨_, rfl, (by first | rfl | ((exact congrArg (fun z => SV.v (Value.int .i64 z)) hw)))⟩, ?_⟩ | refine ⟨.inr ⟨Nat.le_of_ble_eq_true rfl, rfl, rfl, rfl, rfl⟩, ?_⟩)
  have hge0 : s.barriers.length ≤ j := by simpa using g
  have heq0 : s.barriers.map (·.m) = t.barriers.map (·.m) := by rw [List.take_of_length_le (by simpa using hge0), List.take_of_length_le (by simp; omega)] at he; exact he
  refine LoopW.mk ⟨{ p : Nat // p ≤ s.chans.length ∧ (s.chans.map (·.m)).take p = (t.chans.map (·.m)).take p },
    fun p => .mk [(2, .p 0 0), (3, .p 1 0), (8, .v (.int .i64 p.1))] 2 0 [(0, 38, 9), (1, 38, 9)] [((0, 5), .v (s.h5.val s.barriers.length)), ((0, 6), .v (s.h6.val s.chans.length)), ((1, 5), .v (t.h5.val t.barriers.length)), ((1, 6), .v (t.h6.val t.chans.length))] [fR (stateO s), fR (stateO t)],
    fun p => s.chans.length - p.1, ⟨0, Nat.zero_le _, rfl⟩, ?_, ?_⟩
  · refine weak_mk [0, 1] ?_ ?_ ?_ ?_ ?_ rfl rfl
    · repeat (first | exact trivial | refine ⟨⟨_, rfl, (by first | exact .of rfl | exact .lit rfl | exact .of (by first | (rfl)) | exact .lit (by first | (rfl))), (by first | exact trivial | exact Nat.le_of_ble_eq_true rfl)⟩, ?_⟩)
    · repeat (first | exact trivial | refine ⟨⟨(by first | exact .head _ | exact .tail _ (.head _) | exact .tail _ (.tail _ (.head _)) | exact .tail _ (.tail _ (.tail _ (.head _))) | exact .tail _ (.tail _ (.tail _ (.tail _ (.head _)))) | exact .tail _ (.tail _ (.tail _ (.tail _ (.tail _ (.head _))))) | exact .tail _ (.tail _ (.tail _ (.tail _ (.tail _ (.tail _ (.head _)))))) | exact .tail _ (.tail _ (.tail _ (.tail _ (.tail _ (.tail _ (.tail _ (.head _))))))) | exact .tail _ (.tail _ (.tail _ (.tail _ (.tail _ (.tail _ (.tail _ (.tail _ (.head _)))))))) | exact .tail _ (.tail _ (.tail _ (.tail _ (.tail _ (.tail _ (.tail _ (.tail _ (.tail _ (.head _)))))))))), Nat.le_of_ble_eq_true rfl⟩, ?_⟩)
    · repeat (first | exact trivial | refine ⟨⟨_, rfl, (by first | exact .of rfl | exact .lit rfl | exact .of (by first | (rfl)) | exact .lit (by first | (rfl))), (by first | exact trivial | exact Nat.le_of_ble_eq_true rfl)⟩, ?_⟩)
    · repeat (first | exact trivial | refine ⟨⟨_, rfl⟩, ?_⟩)
    · repeat (first | exact trivial | refine ⟨.inl ⟨_, rfl, (by first | rfl | (rfl))⟩, ?_⟩ | refine ⟨.inr ⟨Nat.le_of_ble_eq_true rfl, rfl, rfl, rfl, rfl⟩, ?_⟩)
  rintro ⟨j, hj, he⟩
  refine CaseB.mk (fun g => ?_) (fun g => ?_)
  · have hlt : j < s.chans.length := by simpa using g
    have hlt2 : j < t.chans.length := by omega
    obtain ⟨q1, q2⟩ := take_eq_succ he (by simpa using hlt) (by simpa using hlt2)
    simp only [List.getElem_map] at q1 q2
    refine draw_start tabOk (by kernel_rfl) (by kernel_rfl) (by kernel_rfl) 200 [((0, 6), .v (s.h6.val s.chans.length)), ((1, 6), .v (t.h6.val t.chans.length))] [0, 1] [_, _] ⟨⟨_, rfl, rfl, (by first | exact trivial | exact Nat.le_of_ble_eq_true rfl)⟩, ⟨_, rfl, rfl, (by first | exact trivial | exact Nat.le_of_ble_eq_true rfl)⟩, trivial⟩ ⟨⟨_, rfl⟩, ⟨_, rfl⟩, trivial⟩ ⟨rfl, rfl, trivial⟩ rfl ?_
    refine d_idx (ti := tiOf tab) encChanH tabOk rfl rfl rfl rfl rfl ⟨rfl, rfl⟩ (rdVia 0 rfl (.trans (.R_R (stateO_chans s)) (.ofR nest_h))) j rfl (by first | omega | (simp; done) | (simp; omega) | (unfold maxLen; omega) | (unfold maxLen; simp; done) | (unfold maxLen; simp; omega)) (fun ad => ?_)
    refine d_idx (ti := tiOf tab) encChanH tabOk rfl rfl rfl rfl rfl ⟨rfl, rfl⟩ (rdVia 1 rfl (.trans (.R_R (stateO_chans t)) (.ofR nest_h))) j rfl (by first | omega | (simp; done) | (simp; omega) | (unfold maxLen; omega) | (unfold maxLen; simp; done) | (unfold maxLen; simp; omega)) (fun ad2 => ?_)
    refine d_call _ cl32 rfl rfl rfl rfl ⟨rfl, rfl⟩ (fun A w hW => chanSameS_c _ _ _ _ _ _ _ _ w ⟨hW.get 0 rfl (.trans (.R_R (stateO_chans s)) (.ofR (chansO_0 _ _ j hlt))), hW.get 0 rfl (.trans (.R_R (stateO_chans s)) (.ofR (chansO_1 _ _ j hlt))), hW.get 0 rfl (.trans (.R_R (stateO_chans s)) (.ofR (chansO_2 _ _ j hlt))), hW.get 1 rfl (.trans (.R_R (stateO_chans t)) (.ofR (chansO_0 _ _ j hlt2))), hW.get 1 rfl (.trans (.R_R (stateO_chans t)) (.ofR (chansO_1 _ _ j hlt2))), hW.get 1 rfl (.trans (.R_R (stateO_chans t)) (.ofR (chansO_2 _ _ j hlt2))), trivial⟩ (small_of_20 ((allS_map b6).2 _ (List.getElem_mem hlt))) (small_of_20 ((allS_map c6).2 _ (List.getElem_mem hlt2)))) ?_
    rintro v L ⟨rfl, rfl⟩
    refine CaseB.mk (fun g => ?_) (fun g => ?_)
    · have hne := q2 (by simpa using g)
      have g : ¬ s.pure = t.pure := fun e => hne (hx.1 e).2.2.2.2.2.2.1
      exact retw [] ⟨by simp [g], rfl⟩ trivial rfl trivial (fun _ => rfl)
    · have heq := q1 (by simpa using g)
      have hw := e_succ j _ hlt (by have := (allS_map b6).1; omega)
      refine ⟨⟨j + 1, by omega, heq⟩, ?_, by simp; omega⟩
      refine weak_mk [0, 1] ?_ ?_ ?_ ?_ ?_ rfl rfl
      · repeat (first | exact trivial | refine ⟨⟨_, rfl, (by first | exact .of rfl | exact .lit rfl | exact .of (by first | ((exact congrArg (fun z => SV.v (Value.int .i64 z)) hw))) | exact .lit (by first | ((exact congrArg (fun z => SV.v (Value.int .i64 z)) hw)))), (by first | exact trivial | exact Nat.le_of_ble_eq_true rfl)⟩, ?_⟩)
      · repeat (first | exact trivial | refine ⟨⟨(by first | exact .head _ | exact .tail _ (.head _) | exact .tail _ (.tail _ (.head _)) | exact .tail _ (.tail _ (.tail _ (.head _))) | exact .tail _ (.tail _ (.tail _ (.tail _ (.head _)))) | exact .tail _ (.tail _ (.tail _ (.tail _ (.tail _ (.head _))))) | exact .tail _ (.tail _ (.tail _ (.tail _ (.tail _ (.tail _ (.head _)))))) | exact .tail _ (.tail _ (.tail _ (.tail _ (.tail _ (.tail _ (.tail _ (.head _))))))) | exact .tail _ (.tail _ (.tail _ (.tail _ (.tail _ (.tail _ (.tail _ (.tail _ (.head _)))))))) | exact .tail _ (.tail _ (.tail _ (.tail _ (.tail _ (.tail _ (.tail _ (.tail _ (.tail _ (.head _)))))))))), Nat.le_of_ble_eq_true rfl⟩, ?_⟩)
      · repeat (first | exact trivial | refine ⟨⟨_, rfl, (by first | exact .of rfl | exact .lit rfl | exact .of (by first | ((exact congrArg (fun z => SV.v (Value.int .i64 z)) hw))) | exact .lit (by first | ((exact congrArg (fun z => SV.v (Value.int .i64 z)) hw)))), (by first | exact trivial | exact Nat.le_of_ble_eq_true rfl)⟩, ?_⟩)
      · repeat (first | exact trivial | refine ⟨⟨_, rfl⟩, ?_⟩)
      · repeat (first | exact trivial | refine ⟨.inl ⟨_, rfl, (by first | rfl | ((exact congrArg (fun z => SV.v (Value.int .i64 z)) hw)))⟩, ?_⟩ | refine ⟨.inr ⟨Nat.le_of_ble_eq_true rfl, rfl, rfl, rfl, rfl⟩, ?_⟩)
  have hge1 : s.chans.length ≤ j := by simpa using g
  have heq1 : s.chans.map (·.m) = t.chans.map (·.m) := by rw [List.take_of_length_le (by simpa using hge1), List.take_of_length_le (by simp; omega)] at he; exact he
  have h4' : s.sems.map (·.m) = t.sems.map (·.m) ∧ s.onces.map (·.m) = t.onces.map (·.m) ∧ s.groups.map (·.m) = t.groups.map (·.m) := by simpa using h4
  have g : s.pure = t.pure := hx.2 ⟨by simpa using h0, by simpa using h1, h4'.1, h4'.2.1, h4'.2.2, heq0, heq1, by simpa using h2, by simpa using h3⟩
  exact retw [] ⟨by simp [g], rfl⟩ trivial rfl trivial (fun _ => rfl)

end Go.Proofs.Ytpopeaoklccgcaa
