/- The exact laws' helpers for State. -/
import Derived.Test.YtpopeaoklccgcaaDl
import Derived.Test.YtpopeaoklccgcaaDg
import Derived.Test.YtpopeaoklccgcaaDh
import Derived.Test.YtpopeaoklccgcaaDi
import Derived.Test.YtpopeaoklccgcaaDj
import Derived.Test.YtpopeaoklccgcaaDk
namespace Go.Proofs.Ytpopeaoklccgcaa

open Go Go.Sx Go.RowKit

def State.small20 (s : State) : Prop := s.places.length ≤ 1048576 ∧ s.status.length ≤ 1048576 ∧ allS Sem.small20 s.sems ∧ allS Once.small20 s.onces ∧ allS Group.small20 s.groups ∧ allS Barrier.small20 s.barriers ∧ allS Chan.small20 s.chans ∧ s.said.length ≤ 1048576

def szStateM (s : State) (left : Int) : Int := szSeq [szN s.places.length, szN s.status.length, szAll szSemM s.sems, szAll szOnceM s.onces, szAll szGroupM s.groups, szAll szBarrierM s.barriers, szAll szChanM s.chans, szN s.said.length] left

theorem szStateM_gen (s : State) (l : Int) (hl : l ≤ 1048576) (h : ¬ szStateM s l < 0) : s.small20 ∧ szStateM s l ≤ l := by
  simp only [szStateM, szSeq, szList] at h ⊢
  by_cases q0 : szN s.places.length l < 0
  · simp [q0] at h
  obtain ⟨p0, r0⟩ := szN_gen hl q0
  have t0 : szN s.places.length l ≤ 1048576 := Int.le_trans r0 hl
  by_cases q1 : szN s.status.length (szN s.places.length l) < 0
  · simp [q0, q1] at h
  obtain ⟨p1, r1⟩ := szN_gen t0 q1
  have t1 : szN s.status.length (szN s.places.length l) ≤ 1048576 := Int.le_trans r1 t0
  by_cases q2 : szAll szSemM s.sems (szN s.status.length (szN s.places.length l)) < 0
  · simp [q0, q1, q2] at h
  obtain ⟨p2, r2⟩ := szAll_gen szSemM_gen t1 q2
  have t2 : szAll szSemM s.sems (szN s.status.length (szN s.places.length l)) ≤ 1048576 := Int.le_trans r2 t1
  by_cases q3 : szAll szOnceM s.onces (szAll szSemM s.sems (szN s.status.length (szN s.places.length l))) < 0
  · simp [q0, q1, q2, q3] at h
  obtain ⟨p3, r3⟩ := szAll_gen szOnceM_gen t2 q3
  have t3 : szAll szOnceM s.onces (szAll szSemM s.sems (szN s.status.length (szN s.places.length l))) ≤ 1048576 := Int.le_trans r3 t2
  by_cases q4 : szAll szGroupM s.groups (szAll szOnceM s.onces (szAll szSemM s.sems (szN s.status.length (szN s.places.length l)))) < 0
  · simp [q0, q1, q2, q3, q4] at h
  obtain ⟨p4, r4⟩ := szAll_gen szGroupM_gen t3 q4
  have t4 : szAll szGroupM s.groups (szAll szOnceM s.onces (szAll szSemM s.sems (szN s.status.length (szN s.places.length l)))) ≤ 1048576 := Int.le_trans r4 t3
  by_cases q5 : szAll szBarrierM s.barriers (szAll szGroupM s.groups (szAll szOnceM s.onces (szAll szSemM s.sems (szN s.status.length (szN s.places.length l))))) < 0
  · simp [q0, q1, q2, q3, q4, q5] at h
  obtain ⟨p5, r5⟩ := szAll_gen szBarrierM_gen t4 q5
  have t5 : szAll szBarrierM s.barriers (szAll szGroupM s.groups (szAll szOnceM s.onces (szAll szSemM s.sems (szN s.status.length (szN s.places.length l))))) ≤ 1048576 := Int.le_trans r5 t4
  by_cases q6 : szAll szChanM s.chans (szAll szBarrierM s.barriers (szAll szGroupM s.groups (szAll szOnceM s.onces (szAll szSemM s.sems (szN s.status.length (szN s.places.length l)))))) < 0
  · simp [q0, q1, q2, q3, q4, q5, q6] at h
  obtain ⟨p6, r6⟩ := szAll_gen szChanM_gen t5 q6
  have t6 : szAll szChanM s.chans (szAll szBarrierM s.barriers (szAll szGroupM s.groups (szAll szOnceM s.onces (szAll szSemM s.sems (szN s.status.length (szN s.places.length l)))))) ≤ 1048576 := Int.le_trans r6 t5
  by_cases q7 : szN s.said.length (szAll szChanM s.chans (szAll szBarrierM s.barriers (szAll szGroupM s.groups (szAll szOnceM s.onces (szAll szSemM s.sems (szN s.status.length (szN s.places.length l))))))) < 0
  · simp [q0, q1, q2, q3, q4, q5, q6, q7] at h
  obtain ⟨p7, r7⟩ := szN_gen t6 q7
  have t7 : szN s.said.length (szAll szChanM s.chans (szAll szBarrierM s.barriers (szAll szGroupM s.groups (szAll szOnceM s.onces (szAll szSemM s.sems (szN s.status.length (szN s.places.length l))))))) ≤ 1048576 := Int.le_trans r7 t6
  simp only [q0, q1, q2, q3, q4, q5, q6, q7, if_false]
  exact ⟨⟨p0, p1, p2, p3, p4, p5, p6, p7⟩, by omega⟩

set_option maxHeartbeats 16000000 in
set_option maxRecDepth 100000 in
theorem szState_c (s : StateH) (left : Int) (w : World) (h : At w [fR (stateO s)]) (h0 : -1 ≤ left) (h1 : left ≤ 1048576) :
    Calls Try.prog 6 #[stateV s, .int .i64 left] w (Ret w fun v L => v = .int .i64 (szStateM s.pure left) ∧ L = []) := by
  have hz : szStateM s.pure left = szSeq [szN s.places.length, szN s.status.length, szAll szSemM (s.sems.map (·.m)), szAll szOnceM (s.onces.map (·.m)), szAll szGroupM (s.groups.map (·.m)), szAll szBarrierM (s.barriers.map (·.m)), szAll szChanM (s.chans.map (·.m)), szN s.said.length] left := rfl
  simp only [szSeq, szList] at hz
  refine calls2 Try.func6 rfl tabOk w _ rfl _ rfl _ h ⟨rfl, rfl, trivial⟩ _ _ (by decide) ?_
  refine stop_call _ cl24 rfl rfl rfl rfl ⟨rfl, rfl⟩ (fun A w hW => ret_abs (szIntS_c s.h0 s.places left w ⟨hW.get 0 rfl (.ofR (stateO_places s)), trivial⟩ h0 h1)) ?_
  rintro v L ⟨a0, e0, rfl, rfl⟩
  have r0 : ¬ szN s.places.length left < 0 → szN s.places.length left ≤ left := fun q => (szN_gen h1 q).2
  simp only [← e0] at hz
  rw [← e0] at r0
  refine CaseB.mk (fun g => ?_) (fun g => ?_)
  · have q : a0 < 0 := by simpa using g
    exact retw [] ⟨by rw [hz]; simp [q], rfl⟩ trivial rfl trivial (fun _ => rfl)
  have q0 : ¬ a0 < 0 := by simpa using g
  have u0 : -1 ≤ a0 := by omega
  have v0 : a0 ≤ 1048576 := Int.le_trans (r0 q0) h1
  refine stop_call _ cl24 rfl rfl rfl rfl ⟨rfl, rfl⟩ (fun A w hW => ret_abs (szIntS_c s.h1 s.status a0 w ⟨hW.get 0 rfl (.ofR (stateO_status s)), trivial⟩ u0 v0)) ?_
  rintro v L ⟨a1, e1, rfl, rfl⟩
  have r1 : ¬ szN s.status.length a0 < 0 → szN s.status.length a0 ≤ a0 := fun q => (szN_gen v0 q).2
  simp only [← e1] at hz
  rw [← e1] at r1
  refine CaseB.mk (fun g => ?_) (fun g => ?_)
  · have q : a1 < 0 := by simpa using g
    exact retw [] ⟨by rw [hz]; simp [q0, q], rfl⟩ trivial rfl trivial (fun _ => rfl)
  have q1 : ¬ a1 < 0 := by simpa using g
  have u1 : -1 ≤ a1 := by omega
  have v1 : a1 ≤ 1048576 := Int.le_trans (r1 q1) v0
  refine stop_call _ cl25 rfl rfl rfl rfl ⟨rfl, rfl⟩ (fun A w hW => ret_abs (szSemS_c s.h2 s.sems a1 w ⟨hW.get 0 rfl (.R_R (stateO_sems s)), trivial⟩ u1 v1)) ?_
  rintro v L ⟨a2, e2, rfl, rfl⟩
  have r2 : ¬ szAll szSemM (s.sems.map (·.m)) a1 < 0 → szAll szSemM (s.sems.map (·.m)) a1 ≤ a1 := fun q => (szAll_gen szSemM_gen v1 q).2
  simp only [← e2] at hz
  rw [← e2] at r2
  refine CaseB.mk (fun g => ?_) (fun g => ?_)
  · have q : a2 < 0 := by simpa using g
    exact retw [] ⟨by rw [hz]; simp [q0, q1, q], rfl⟩ trivial rfl trivial (fun _ => rfl)
  have q2 : ¬ a2 < 0 := by simpa using g
  have u2 : -1 ≤ a2 := by omega
  have v2 : a2 ≤ 1048576 := Int.le_trans (r2 q2) v1
  refine stop_call _ cl26 rfl rfl rfl rfl ⟨rfl, rfl⟩ (fun A w hW => ret_abs (szOnceS_c s.h3 s.onces a2 w ⟨hW.get 0 rfl (.R_R (stateO_onces s)), trivial⟩ u2 v2)) ?_
  rintro v L ⟨a3, e3, rfl, rfl⟩
  have r3 : ¬ szAll szOnceM (s.onces.map (·.m)) a2 < 0 → szAll szOnceM (s.onces.map (·.m)) a2 ≤ a2 := fun q => (szAll_gen szOnceM_gen v2 q).2
  simp only [← e3] at hz
  rw [← e3] at r3
  refine CaseB.mk (fun g => ?_) (fun g => ?_)
  · have q : a3 < 0 := by simpa using g
    exact retw [] ⟨by rw [hz]; simp [q0, q1, q2, q], rfl⟩ trivial rfl trivial (fun _ => rfl)
  have q3 : ¬ a3 < 0 := by simpa using g
  have u3 : -1 ≤ a3 := by omega
  have v3 : a3 ≤ 1048576 := Int.le_trans (r3 q3) v2
  refine stop_call _ cl27 rfl rfl rfl rfl ⟨rfl, rfl⟩ (fun A w hW => ret_abs (szGroupS_c s.h4 s.groups a3 w ⟨hW.get 0 rfl (.R_R (stateO_groups s)), trivial⟩ u3 v3)) ?_
  rintro v L ⟨a4, e4, rfl, rfl⟩
  have r4 : ¬ szAll szGroupM (s.groups.map (·.m)) a3 < 0 → szAll szGroupM (s.groups.map (·.m)) a3 ≤ a3 := fun q => (szAll_gen szGroupM_gen v3 q).2
  simp only [← e4] at hz
  rw [← e4] at r4
  refine CaseB.mk (fun g => ?_) (fun g => ?_)
  · have q : a4 < 0 := by simpa using g
    exact retw [] ⟨by rw [hz]; simp [q0, q1, q2, q3, q], rfl⟩ trivial rfl trivial (fun _ => rfl)
  have q4 : ¬ a4 < 0 := by simpa using g
  have u4 : -1 ≤ a4 := by omega
  have v4 : a4 ≤ 1048576 := Int.le_trans (r4 q4) v3
  refine stop_call _ cl28 rfl rfl rfl rfl ⟨rfl, rfl⟩ (fun A w hW => ret_abs (szBarrierS_c s.h5 s.barriers a4 w ⟨hW.get 0 rfl (.R_R (stateO_barriers s)), trivial⟩ u4 v4)) ?_
  rintro v L ⟨a5, e5, rfl, rfl⟩
  have r5 : ¬ szAll szBarrierM (s.barriers.map (·.m)) a4 < 0 → szAll szBarrierM (s.barriers.map (·.m)) a4 ≤ a4 := fun q => (szAll_gen szBarrierM_gen v4 q).2
  simp only [← e5] at hz
  rw [← e5] at r5
  refine CaseB.mk (fun g => ?_) (fun g => ?_)
  · have q : a5 < 0 := by simpa using g
    exact retw [] ⟨by rw [hz]; simp [q0, q1, q2, q3, q4, q], rfl⟩ trivial rfl trivial (fun _ => rfl)
  have q5 : ¬ a5 < 0 := by simpa using g
  have u5 : -1 ≤ a5 := by omega
  have v5 : a5 ≤ 1048576 := Int.le_trans (r5 q5) v4
  refine stop_call _ cl29 rfl rfl rfl rfl ⟨rfl, rfl⟩ (fun A w hW => ret_abs (szChanS_c s.h6 s.chans a5 w ⟨hW.get 0 rfl (.R_R (stateO_chans s)), trivial⟩ u5 v5)) ?_
  rintro v L ⟨a6, e6, rfl, rfl⟩
  have r6 : ¬ szAll szChanM (s.chans.map (·.m)) a5 < 0 → szAll szChanM (s.chans.map (·.m)) a5 ≤ a5 := fun q => (szAll_gen szChanM_gen v5 q).2
  simp only [← e6] at hz
  rw [← e6] at r6
  refine CaseB.mk (fun g => ?_) (fun g => ?_)
  · have q : a6 < 0 := by simpa using g
    exact retw [] ⟨by rw [hz]; simp [q0, q1, q2, q3, q4, q5, q], rfl⟩ trivial rfl trivial (fun _ => rfl)
  have q6 : ¬ a6 < 0 := by simpa using g
  have u6 : -1 ≤ a6 := by omega
  have v6 : a6 ≤ 1048576 := Int.le_trans (r6 q6) v5
  refine stop_call _ cl24 rfl rfl rfl rfl ⟨rfl, rfl⟩ (fun A w hW => ret_abs (szIntS_c s.h7 s.said a6 w ⟨hW.get 0 rfl (.ofR (stateO_said s)), trivial⟩ u6 v6)) ?_
  rintro v L ⟨a7, e7, rfl, rfl⟩
  have r7 : ¬ szN s.said.length a6 < 0 → szN s.said.length a6 ≤ a6 := fun q => (szN_gen v6 q).2
  simp only [← e7] at hz
  rw [← e7] at r7
  refine CaseB.mk (fun g => ?_) (fun g => ?_)
  · have q : a7 < 0 := by simpa using g
    exact retw [] ⟨by rw [hz]; simp [q0, q1, q2, q3, q4, q5, q6, q], rfl⟩ trivial rfl trivial (fun _ => rfl)
  have q7 : ¬ a7 < 0 := by simpa using g
  have u7 : -1 ≤ a7 := by omega
  have v7 : a7 ≤ 1048576 := Int.le_trans (r7 q7) v6
  refine retw [] ⟨?_, rfl⟩ trivial rfl trivial (fun _ => rfl)
  rw [hz]; simp [q0, q1, q2, q3, q4, q5, q6, q7]

set_option maxHeartbeats 16000000 in
set_option maxRecDepth 100000 in
theorem toState_c (s : StateH) (w : World) (h : At w [fR (stateO s)]) (hb : s.pure.small20) :
    Calls Try.prog 8 #[stateV s] w (Ret w fun v L => ∃ y : StateH, v = stateV y ∧ y.pure = s.pure ∧ L = [fO (stateO y)]) := by
  obtain ⟨b0, b1, b2, b3, b4, b5, b6, b7⟩ := hb
  refine calls1 Try.func8 rfl tabOk w _ rfl _ rfl _ h ⟨rfl, rfl, trivial⟩ _ (by decide) ?_
  refine stop_call _ cl33 rfl rfl rfl rfl ⟨rfl, rfl⟩ (fun A w hW => toIntS_c s.h0 s.places w ⟨hW.get 0 rfl (.ofR (stateO_places s)), trivial⟩ b0) ?_
  rintro v L ⟨y0, rfl, rfl⟩
  refine stop_call _ cl33 rfl rfl rfl rfl ⟨rfl, rfl⟩ (fun A w hW => toIntS_c s.h1 s.status w ⟨hW.get 1 rfl (.ofR (stateO_status s)), trivial⟩ b1) ?_
  rintro v L ⟨y1, rfl, rfl⟩
  refine stop_call _ cl34 rfl rfl rfl rfl ⟨rfl, rfl⟩ (fun A w hW => toSemS_c s.h2 s.sems w ⟨hW.get 2 rfl (.R_R (stateO_sems s)), trivial⟩ (allS_map b2).1 (allS_map b2).2) ?_
  rintro v L ⟨y2, ys2, rfl, e2, rfl⟩
  refine stop_call _ cl35 rfl rfl rfl rfl ⟨rfl, rfl⟩ (fun A w hW => toOnceS_c s.h3 s.onces w ⟨hW.get 3 rfl (.R_R (stateO_onces s)), trivial⟩ (allS_map b3).1 (allS_map b3).2) ?_
  rintro v L ⟨y3, ys3, rfl, e3, rfl⟩
  refine stop_call _ cl36 rfl rfl rfl rfl ⟨rfl, rfl⟩ (fun A w hW => toGroupS_c s.h4 s.groups w ⟨hW.get 4 rfl (.R_R (stateO_groups s)), trivial⟩ (allS_map b4).1 (allS_map b4).2) ?_
  rintro v L ⟨y4, ys4, rfl, e4, rfl⟩
  refine stop_call _ cl37 rfl rfl rfl rfl ⟨rfl, rfl⟩ (fun A w hW => toBarrierS_c s.h5 s.barriers w ⟨hW.get 5 rfl (.R_R (stateO_barriers s)), trivial⟩ (allS_map b5).1 (allS_map b5).2) ?_
  rintro v L ⟨y5, ys5, rfl, e5, rfl⟩
  refine stop_call _ cl38 rfl rfl rfl rfl ⟨rfl, rfl⟩ (fun A w hW => toChanS_c s.h6 s.chans w ⟨hW.get 6 rfl (.R_R (stateO_chans s)), trivial⟩ (allS_map b6).1 (allS_map b6).2) ?_
  rintro v L ⟨y6, ys6, rfl, e6, rfl⟩
  refine stop_call _ cl33 rfl rfl rfl rfl ⟨rfl, rfl⟩ (fun A w hW => toIntS_c s.h7 s.said w ⟨hW.get 7 rfl (.ofR (stateO_said s)), trivial⟩ b7) ?_
  rintro v L ⟨y7, rfl, rfl⟩
  generalize hy : (⟨s.places, s.status, ys2, ys3, ys4, ys5, ys6, s.said, s.fault, y0, y1, y2, y3, y4, y5, y6, y7⟩ : StateH) = y
  refine ret_shift (.joinO [7, 6, 5, 4, 3, 2, 1, 0] (Gs := [[_], [_], _, _, _, _, _, [_]]) ⟨.inl ⟨_, rfl, .own⟩, .inl ⟨_, rfl, .own⟩, .inl ⟨_, rfl, .o⟩, .inl ⟨_, rfl, .o⟩, .inl ⟨_, rfl, .o⟩, .inl ⟨_, rfl, .o⟩, .inl ⟨_, rfl, .o⟩, .inl ⟨_, rfl, .own⟩, trivial⟩ rfl (G := stateO y) ?_) ?_
  · subst hy; exact .of_eq (by simp [stateO])
  exact retw [0] ⟨y, by rw [← hy]; rfl, by rw [← hy]; simp [StateH.pure, e2, e3, e4, e5, e6], rfl⟩ ⟨.inl ⟨_, rfl, rfl⟩, trivial⟩ rfl ⟨rfl, trivial⟩ (fun _ => rfl)

set_option maxHeartbeats 16000000 in
set_option maxRecDepth 100000 in
theorem eqState_c (s t : StateH) (w : World) (h : At w [fR (stateO s), fR (stateO t)]) (hb : s.pure.small20) (hb2 : t.pure.small20) :
    Calls Try.prog 10 #[stateV s, stateV t] w (Ret w fun v L => v = .bool (decide (s.pure = t.pure)) ∧ L = []) := by
  have hx : s.pure = t.pure ↔ s.places = t.places ∧ s.status = t.status ∧ s.sems.map (·.m) = t.sems.map (·.m) ∧ s.onces.map (·.m) = t.onces.map (·.m) ∧ s.groups.map (·.m) = t.groups.map (·.m) ∧ s.barriers.map (·.m) = t.barriers.map (·.m) ∧ s.chans.map (·.m) = t.chans.map (·.m) ∧ s.said = t.said ∧ s.fault = t.fault := by
    simp only [StateH.pure, State.mk.injEq]
  obtain ⟨b0, b1, b2, b3, b4, b5, b6, b7⟩ := hb
  obtain ⟨c0, c1, c2, c3, c4, c5, c6, c7⟩ := hb2
  refine calls2 Try.func10 rfl tabOk w _ rfl _ rfl _ h ⟨rfl, rfl, rfl, rfl, trivial⟩ _ _ (by decide) ?_
  refine stop_call _ cl50 rfl rfl rfl rfl ⟨rfl, rfl⟩ (fun A w hW => eqIntS_c s.h0 t.h0 s.places t.places w ⟨hW.get 0 rfl (.ofR (stateO_places s)), hW.get 1 rfl (.ofR (stateO_places t)), trivial⟩ (Nat.le_trans b0 (by decide)) (Nat.le_trans c0 (by decide))) ?_
  rintro v L ⟨rfl, rfl⟩
  refine CaseB.mk (fun g0 => ?_) (fun g0 => ?_)
  · have g : ¬ s.pure = t.pure := fun e => by rw [hx] at e; simp [e] at g0
    exact retw [] ⟨by simp [g], rfl⟩ trivial rfl trivial (fun _ => rfl)
  refine stop_call _ cl50 rfl rfl rfl rfl ⟨rfl, rfl⟩ (fun A w hW => eqIntS_c s.h1 t.h1 s.status t.status w ⟨hW.get 0 rfl (.ofR (stateO_status s)), hW.get 1 rfl (.ofR (stateO_status t)), trivial⟩ (Nat.le_trans b1 (by decide)) (Nat.le_trans c1 (by decide))) ?_
  rintro v L ⟨rfl, rfl⟩
  refine CaseB.mk (fun g1 => ?_) (fun g1 => ?_)
  · have g : ¬ s.pure = t.pure := fun e => by rw [hx] at e; simp [e] at g1
    exact retw [] ⟨by simp [g], rfl⟩ trivial rfl trivial (fun _ => rfl)
  refine stop_call _ cl51 rfl rfl rfl rfl ⟨rfl, rfl⟩ (fun A w hW => eqSemS_c s.h2 t.h2 s.sems t.sems w ⟨hW.get 0 rfl (.R_R (stateO_sems s)), hW.get 1 rfl (.R_R (stateO_sems t)), trivial⟩ (allS_map b2).1 (allS_map b2).2 (allS_map c2).2) ?_
  rintro v L ⟨rfl, rfl⟩
  refine CaseB.mk (fun g2 => ?_) (fun g2 => ?_)
  · have g : ¬ s.pure = t.pure := fun e => by rw [hx] at e; simp [e] at g2
    exact retw [] ⟨by simp [g], rfl⟩ trivial rfl trivial (fun _ => rfl)
  refine stop_call _ cl52 rfl rfl rfl rfl ⟨rfl, rfl⟩ (fun A w hW => eqOnceS_c s.h3 t.h3 s.onces t.onces w ⟨hW.get 0 rfl (.R_R (stateO_onces s)), hW.get 1 rfl (.R_R (stateO_onces t)), trivial⟩ (allS_map b3).1 (allS_map b3).2 (allS_map c3).2) ?_
  rintro v L ⟨rfl, rfl⟩
  refine CaseB.mk (fun g3 => ?_) (fun g3 => ?_)
  · have g : ¬ s.pure = t.pure := fun e => by rw [hx] at e; simp [e] at g3
    exact retw [] ⟨by simp [g], rfl⟩ trivial rfl trivial (fun _ => rfl)
  refine stop_call _ cl53 rfl rfl rfl rfl ⟨rfl, rfl⟩ (fun A w hW => eqGroupS_c s.h4 t.h4 s.groups t.groups w ⟨hW.get 0 rfl (.R_R (stateO_groups s)), hW.get 1 rfl (.R_R (stateO_groups t)), trivial⟩ (allS_map b4).1 (allS_map b4).2 (allS_map c4).2) ?_
  rintro v L ⟨rfl, rfl⟩
  refine CaseB.mk (fun g4 => ?_) (fun g4 => ?_)
  · have g : ¬ s.pure = t.pure := fun e => by rw [hx] at e; simp [e] at g4
    exact retw [] ⟨by simp [g], rfl⟩ trivial rfl trivial (fun _ => rfl)
  refine stop_call _ cl54 rfl rfl rfl rfl ⟨rfl, rfl⟩ (fun A w hW => eqBarrierS_c s.h5 t.h5 s.barriers t.barriers w ⟨hW.get 0 rfl (.R_R (stateO_barriers s)), hW.get 1 rfl (.R_R (stateO_barriers t)), trivial⟩ (allS_map b5).1 (allS_map b5).2 (allS_map c5).2) ?_
  rintro v L ⟨rfl, rfl⟩
  refine CaseB.mk (fun g5 => ?_) (fun g5 => ?_)
  · have g : ¬ s.pure = t.pure := fun e => by rw [hx] at e; simp [e] at g5
    exact retw [] ⟨by simp [g], rfl⟩ trivial rfl trivial (fun _ => rfl)
  refine stop_call _ cl55 rfl rfl rfl rfl ⟨rfl, rfl⟩ (fun A w hW => eqChanS_c s.h6 t.h6 s.chans t.chans w ⟨hW.get 0 rfl (.R_R (stateO_chans s)), hW.get 1 rfl (.R_R (stateO_chans t)), trivial⟩ (allS_map b6).1 (allS_map b6).2 (allS_map c6).2) ?_
  rintro v L ⟨rfl, rfl⟩
  refine CaseB.mk (fun g6 => ?_) (fun g6 => ?_)
  · have g : ¬ s.pure = t.pure := fun e => by rw [hx] at e; simp [e] at g6
    exact retw [] ⟨by simp [g], rfl⟩ trivial rfl trivial (fun _ => rfl)
  refine stop_call _ cl50 rfl rfl rfl rfl ⟨rfl, rfl⟩ (fun A w hW => eqIntS_c s.h7 t.h7 s.said t.said w ⟨hW.get 0 rfl (.ofR (stateO_said s)), hW.get 1 rfl (.ofR (stateO_said t)), trivial⟩ (Nat.le_trans b7 (by decide)) (Nat.le_trans c7 (by decide))) ?_
  rintro v L ⟨rfl, rfl⟩
  refine CaseB.mk (fun g7 => ?_) (fun g7 => ?_)
  · have g : ¬ s.pure = t.pure := fun e => by rw [hx] at e; simp [e] at g7
    exact retw [] ⟨by simp [g], rfl⟩ trivial rfl trivial (fun _ => rfl)
  refine CaseB.mk (fun g8 => ?_) (fun g8 => ?_)
  · have g : ¬ s.pure = t.pure := fun e => by rw [hx] at e; simp [e] at g8
    exact retw [] ⟨by simp [g], rfl⟩ trivial rfl trivial (fun _ => rfl)
  have g : s.pure = t.pure := hx.2 ⟨by simpa using g0, by simpa using g1, by simpa using g2, by simpa using g3, by simpa using g4, by simpa using g5, by simpa using g6, by simpa using g7, by simpa using g8⟩
  exact retw [] ⟨by simp [g], rfl⟩ trivial rfl trivial (fun _ => rfl)

end Go.Proofs.Ytpopeaoklccgcaa
