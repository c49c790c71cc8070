/- FnWaitsFor: texts that its proof stands on, part 13. -/
import Derived.ProofKit
import Derived.Deep.Slices
import Derived.Laws.StructEq
import Derived.Test.YtjkkoonennpceaaGreatQWaitsForl
namespace Go.Proofs.YtjkkoonennpceaaGreat
open Go Go.Sx Go.RowKit
theorem small_of_20 {m : Chan} (h : m.small20) : m.small := ⟨Nat.le_trans h.1 (by decide), Nat.le_trans h.2.1 (by decide), Nat.le_trans h.2.2 (by decide)⟩
set_option maxHeartbeats 4000000 in
set_option maxRecDepth 100000 in
theorem eqfSem_c (h h2 : Sl) (xs ys : List SemH) (w : World) (hh : At w [fR (semsO h xs), fR (semsO h2 ys)]) (hl : xs.length ≤ 1048576) (hb : ∀ x ∈ xs, Sem.small20 x.m) (hb2 : ∀ x ∈ ys, Sem.small20 x.m) :
   Calls Tryz.prog 46 #[h.val xs.length, h2.val ys.length, .func (.func 38) #[] #[]] w (Ret w fun v L => v = .bool (decide (xs.map (·.m) = ys.map (·.m))) ∧ L = []) := by
 refine calls3 Tryz.func46 rfl tabOk w _ rfl _ rfl _ hh ⟨rfl, rfl, rfl, rfl, trivial⟩ _ _ _ (by decide) ?_
 apply CaseB.mk <;> intro g
 · have hne : xs.map (·.m) ≠ ys.map (·.m) := fun e => by
     have := congrArg List.length e
     simp at this g
     omega
   refine ret0 ⟨?_, rfl⟩ (fun _ => rfl)
   simp [hne]
 · have hll : xs.length = ys.length := by simp at g; omega
   refine LoopW.mk ⟨{ k : Nat // k ≤ xs.length ∧ (xs.map (·.m)).take k = (ys.map (·.m)).take k },
     fun p => .mk [(1, .v (h2.val ys.length)), (2, .v (.func (.func 38) #[] #[])), (15, .v (h.val xs.length)), (16, .v (.int .i64 (xs.length : Int))), (17, .v (.int .i64 p.1))] 0 0 [] [] [fR (semsO h xs), fR (semsO h2 ys)],
     fun p => xs.length - p.1, ⟨0, Nat.zero_le _, rfl⟩, ?_, ?_⟩
   · exact weak_mk [0, 1] zw2 zw0 zw2 zw5 zw4 rfl rfl
   · rintro ⟨k, hk, he⟩
     refine CaseB.mk (fun g2 => ?_) (fun g2 => ?_)
     · have hlt : k < xs.length := by simpa using g2
       have hlt2 : k < ys.length := by omega
       obtain ⟨q1, q2⟩ := take_eq_succ he z77 z74
       simp only [List.getElem_map] at q1 q2
       refine stop_idx encSemH tabOk rfl rfl rfl rfl rfl ⟨rfl, rfl⟩ (rdVia 0 rfl (.ofR nest_h)) k rfl z34 (fun ad => ?_)
       refine stop_idx encSemH tabOk rfl rfl rfl rfl rfl ⟨rfl, rfl⟩ (rdVia 1 rfl (.ofR nest_h)) k rfl z34 (fun ad2 => ?_)
       refine stop_callV _ cl38 rfl rfl rfl rfl ⟨rfl, rfl⟩ (fun A w hW => (semSame_c _ _ _ _ w ⟨hW.get 0 rfl (.ofR (semsO_0 h xs k hlt)), hW.get 1 rfl (.ofR (semsO_0 h2 ys k hlt2)), trivial⟩ (Nat.le_trans (hb _ (List.getElem_mem hlt)) (by decide)) (Nat.le_trans (hb2 _ (List.getElem_mem hlt2)) (by decide)))) ?_
       rintro v L ⟨rfl, rfl⟩
       refine CaseB.mk (fun g3 => ?_) (fun g3 => ?_)
       · have hne := q2 z80
         refine ret0 ⟨?_, rfl⟩ (fun _ => rfl)
         simp [hne]
       · have heq := q1 z80
         have hw := e_succ k _ hlt (by omega)
         refine ⟨⟨k + 1, by omega, heq⟩, ?_, by simp; omega⟩
         exact weak_mk [0, 1] zw1 zw0 zw1 zw5 zw3 rfl rfl
     · have hge : xs.length ≤ k := by simpa using g2
       have heq : xs.map (·.m) = ys.map (·.m) := by rw [List.take_of_length_le z76, List.take_of_length_le z85] at he; exact he
       refine ret0 ⟨?_, rfl⟩ (fun _ => rfl)
       simp [heq]
set_option maxHeartbeats 4000000 in
set_option maxRecDepth 100000 in
theorem eqfOnce_c (h h2 : Sl) (xs ys : List OnceH) (w : World) (hh : At w [fR (oncesO h xs), fR (oncesO h2 ys)]) (hl : xs.length ≤ 1048576) (hb : ∀ x ∈ xs, Once.small20 x.m) (hb2 : ∀ x ∈ ys, Once.small20 x.m) :
   Calls Tryz.prog 47 #[h.val xs.length, h2.val ys.length, .func (.func 48) #[] #[]] w (Ret w fun v L => v = .bool (decide (xs.map (·.m) = ys.map (·.m))) ∧ L = []) := by
 refine calls3 Tryz.func47 rfl tabOk w _ rfl _ rfl _ hh ⟨rfl, rfl, rfl, rfl, trivial⟩ _ _ _ (by decide) ?_
 apply CaseB.mk <;> intro g
 · have hne : xs.map (·.m) ≠ ys.map (·.m) := fun e => by
     have := congrArg List.length e
     simp at this g
     omega
   refine ret0 ⟨?_, rfl⟩ (fun _ => rfl)
   simp [hne]
 · have hll : xs.length = ys.length := by simp at g; omega
   refine LoopW.mk ⟨{ k : Nat // k ≤ xs.length ∧ (xs.map (·.m)).take k = (ys.map (·.m)).take k },
     fun p => .mk [(1, .v (h2.val ys.length)), (2, .v (.func (.func 48) #[] #[])), (15, .v (h.val xs.length)), (16, .v (.int .i64 (xs.length : Int))), (17, .v (.int .i64 p.1))] 0 0 [] [] [fR (oncesO h xs), fR (oncesO h2 ys)],
     fun p => xs.length - p.1, ⟨0, Nat.zero_le _, rfl⟩, ?_, ?_⟩
   · exact weak_mk [0, 1] zw2 zw0 zw2 zw5 zw4 rfl rfl
   · rintro ⟨k, hk, he⟩
     refine CaseB.mk (fun g2 => ?_) (fun g2 => ?_)
     · have hlt : k < xs.length := by simpa using g2
       have hlt2 : k < ys.length := by omega
       obtain ⟨q1, q2⟩ := take_eq_succ he z77 z74
       simp only [List.getElem_map] at q1 q2
       refine stop_idx encOnceH tabOk rfl rfl rfl rfl rfl ⟨rfl, rfl⟩ (rdVia 0 rfl (.ofR nest_h)) k rfl z34 (fun ad => ?_)
       refine stop_idx encOnceH tabOk rfl rfl rfl rfl rfl ⟨rfl, rfl⟩ (rdVia 1 rfl (.ofR nest_h)) k rfl z34 (fun ad2 => ?_)
       refine stop_callV _ cl48 rfl rfl rfl rfl ⟨rfl, rfl⟩ (fun A w hW => (onceSame_c _ _ _ _ w ⟨hW.get 0 rfl (.ofR (oncesO_0 h xs k hlt)), hW.get 1 rfl (.ofR (oncesO_0 h2 ys k hlt2)), trivial⟩ (Nat.le_trans (hb _ (List.getElem_mem hlt)) (by decide)) (Nat.le_trans (hb2 _ (List.getElem_mem hlt2)) (by decide)))) ?_
       rintro v L ⟨rfl, rfl⟩
       refine CaseB.mk (fun g3 => ?_) (fun g3 => ?_)
       · have hne := q2 z80
         refine ret0 ⟨?_, rfl⟩ (fun _ => rfl)
         simp [hne]
       · have heq := q1 z80
         have hw := e_succ k _ hlt (by omega)
         refine ⟨⟨k + 1, by omega, heq⟩, ?_, by simp; omega⟩
         exact weak_mk [0, 1] zw1 zw0 zw1 zw5 zw3 rfl rfl
     · have hge : xs.length ≤ k := by simpa using g2
       have heq : xs.map (·.m) = ys.map (·.m) := by rw [List.take_of_length_le z76, List.take_of_length_le z85] at he; exact he
       refine ret0 ⟨?_, rfl⟩ (fun _ => rfl)
       simp [heq]
set_option maxHeartbeats 4000000 in
set_option maxRecDepth 100000 in
theorem eqfGroup_c (h h2 : Sl) (xs ys : List GroupH) (w : World) (hh : At w [fR (groupsO h xs), fR (groupsO h2 ys)]) (hl : xs.length ≤ 1048576) (hb : ∀ x ∈ xs, Group.small20 x.m) (hb2 : ∀ x ∈ ys, Group.small20 x.m) :
   Calls Tryz.prog 49 #[h.val xs.length, h2.val ys.length, .func (.func 50) #[] #[]] w (Ret w fun v L => v = .bool (decide (xs.map (·.m) = ys.map (·.m))) ∧ L = []) := by
 refine calls3 Tryz.func49 rfl tabOk w _ rfl _ rfl _ hh ⟨rfl, rfl, rfl, rfl, trivial⟩ _ _ _ (by decide) ?_
 apply CaseB.mk <;> intro g
 · have hne : xs.map (·.m) ≠ ys.map (·.m) := fun e => by
     have := congrArg List.length e
     simp at this g
     omega
   refine ret0 ⟨?_, rfl⟩ (fun _ => rfl)
   simp [hne]
 · have hll : xs.length = ys.length := by simp at g; omega
   refine LoopW.mk ⟨{ k : Nat // k ≤ xs.length ∧ (xs.map (·.m)).take k = (ys.map (·.m)).take k },
     fun p => .mk [(1, .v (h2.val ys.length)), (2, .v (.func (.func 50) #[] #[])), (15, .v (h.val xs.length)), (16, .v (.int .i64 (xs.length : Int))), (17, .v (.int .i64 p.1))] 0 0 [] [] [fR (groupsO h xs), fR (groupsO h2 ys)],
     fun p => xs.length - p.1, ⟨0, Nat.zero_le _, rfl⟩, ?_, ?_⟩
   · exact weak_mk [0, 1] zw2 zw0 zw2 zw5 zw4 rfl rfl
   · rintro ⟨k, hk, he⟩
     refine CaseB.mk (fun g2 => ?_) (fun g2 => ?_)
     · have hlt : k < xs.length := by simpa using g2
       have hlt2 : k < ys.length := by omega
       obtain ⟨q1, q2⟩ := take_eq_succ he z77 z74
       simp only [List.getElem_map] at q1 q2
       refine stop_idx encGroupH tabOk rfl rfl rfl rfl rfl ⟨rfl, rfl⟩ (rdVia 0 rfl (.ofR nest_h)) k rfl z34 (fun ad => ?_)
       refine stop_idx encGroupH tabOk rfl rfl rfl rfl rfl ⟨rfl, rfl⟩ (rdVia 1 rfl (.ofR nest_h)) k rfl z34 (fun ad2 => ?_)
       refine stop_callV _ cl50 rfl rfl rfl rfl ⟨rfl, rfl⟩ (fun A w hW => (groupSame_c _ _ _ _ w ⟨hW.get 0 rfl (.ofR (groupsO_0 h xs k hlt)), hW.get 1 rfl (.ofR (groupsO_0 h2 ys k hlt2)), trivial⟩ (Nat.le_trans (hb _ (List.getElem_mem hlt)) (by decide)) (Nat.le_trans (hb2 _ (List.getElem_mem hlt2)) (by decide)))) ?_
       rintro v L ⟨rfl, rfl⟩
       refine CaseB.mk (fun g3 => ?_) (fun g3 => ?_)
       · have hne := q2 z80
         refine ret0 ⟨?_, rfl⟩ (fun _ => rfl)
         simp [hne]
       · have heq := q1 z80
         have hw := e_succ k _ hlt (by omega)
         refine ⟨⟨k + 1, by omega, heq⟩, ?_, by simp; omega⟩
         exact weak_mk [0, 1] zw1 zw0 zw1 zw5 zw3 rfl rfl
     · have hge : xs.length ≤ k := by simpa using g2
       have heq : xs.map (·.m) = ys.map (·.m) := by rw [List.take_of_length_le z76, List.take_of_length_le z85] at he; exact he
       refine ret0 ⟨?_, rfl⟩ (fun _ => rfl)
       simp [heq]
set_option maxHeartbeats 4000000 in
set_option maxRecDepth 100000 in
theorem eqfBarrier_c (h h2 : Sl) (xs ys : List BarrierH) (w : World) (hh : At w [fR (barriersO h xs), fR (barriersO h2 ys)]) (hl : xs.length ≤ 1048576) (hb : ∀ x ∈ xs, Barrier.small20 x.m) (hb2 : ∀ x ∈ ys, Barrier.small20 x.m) :
   Calls Tryz.prog 51 #[h.val xs.length, h2.val ys.length, .func (.func 44) #[] #[]] w (Ret w fun v L => v = .bool (decide (xs.map (·.m) = ys.map (·.m))) ∧ L = []) := by
 refine calls3 Tryz.func51 rfl tabOk w _ rfl _ rfl _ hh ⟨rfl, rfl, rfl, rfl, trivial⟩ _ _ _ (by decide) ?_
 apply CaseB.mk <;> intro g
 · have hne : xs.map (·.m) ≠ ys.map (·.m) := fun e => by
     have := congrArg List.length e
     simp at this g
     omega
   refine ret0 ⟨?_, rfl⟩ (fun _ => rfl)
   simp [hne]
 · have hll : xs.length = ys.length := by simp at g; omega
   refine LoopW.mk ⟨{ k : Nat // k ≤ xs.length ∧ (xs.map (·.m)).take k = (ys.map (·.m)).take k },
     fun p => .mk [(1, .v (h2.val ys.length)), (2, .v (.func (.func 44) #[] #[])), (15, .v (h.val xs.length)), (16, .v (.int .i64 (xs.length : Int))), (17, .v (.int .i64 p.1))] 0 0 [] [] [fR (barriersO h xs), fR (barriersO h2 ys)],
     fun p => xs.length - p.1, ⟨0, Nat.zero_le _, rfl⟩, ?_, ?_⟩
   · exact weak_mk [0, 1] zw2 zw0 zw2 zw5 zw4 rfl rfl
   · rintro ⟨k, hk, he⟩
     refine CaseB.mk (fun g2 => ?_) (fun g2 => ?_)
     · have hlt : k < xs.length := by simpa using g2
       have hlt2 : k < ys.length := by omega
       obtain ⟨q1, q2⟩ := take_eq_succ he z77 z74
       simp only [List.getElem_map] at q1 q2
       refine stop_idx encBarrierH tabOk rfl rfl rfl rfl rfl ⟨rfl, rfl⟩ (rdVia 0 rfl (.ofR nest_h)) k rfl z34 (fun ad => ?_)
       refine stop_idx encBarrierH tabOk rfl rfl rfl rfl rfl ⟨rfl, rfl⟩ (rdVia 1 rfl (.ofR nest_h)) k rfl z34 (fun ad2 => ?_)
       refine stop_callV _ cl44 rfl rfl rfl rfl ⟨rfl, rfl⟩ (fun A w hW => (barrierSame_c _ _ _ _ w ⟨hW.get 0 rfl (.ofR (barriersO_0 h xs k hlt)), hW.get 1 rfl (.ofR (barriersO_0 h2 ys k hlt2)), trivial⟩ (Nat.le_trans (hb _ (List.getElem_mem hlt)) (by decide)) (Nat.le_trans (hb2 _ (List.getElem_mem hlt2)) (by decide)))) ?_
       rintro v L ⟨rfl, rfl⟩
       refine CaseB.mk (fun g3 => ?_) (fun g3 => ?_)
       · have hne := q2 z80
         refine ret0 ⟨?_, rfl⟩ (fun _ => rfl)
         simp [hne]
       · have heq := q1 z80
         have hw := e_succ k _ hlt (by omega)
         refine ⟨⟨k + 1, by omega, heq⟩, ?_, by simp; omega⟩
         exact weak_mk [0, 1] zw1 zw0 zw1 zw5 zw3 rfl rfl
     · have hge : xs.length ≤ k := by simpa using g2
       have heq : xs.map (·.m) = ys.map (·.m) := by rw [List.take_of_length_le z76, List.take_of_length_le z85] at he; exact he
       refine ret0 ⟨?_, rfl⟩ (fun _ => rfl)
       simp [heq]
set_option maxHeartbeats 4000000 in
set_option maxRecDepth 100000 in
theorem eqfChan_c (h h2 : Sl) (xs ys : List ChanH) (w : World) (hh : At w [fR (chansO h xs), fR (chansO h2 ys)]) (hl : xs.length ≤ 1048576) (hb : ∀ x ∈ xs, Chan.small20 x.m) (hb2 : ∀ x ∈ ys, Chan.small20 x.m) :
   Calls Tryz.prog 52 #[h.val xs.length, h2.val ys.length, .func (.func 53) #[] #[]] w (Ret w fun v L => v = .bool (decide (xs.map (·.m) = ys.map (·.m))) ∧ L = []) := by
 refine calls3 Tryz.func52 rfl tabOk w _ rfl _ rfl _ hh ⟨rfl, rfl, rfl, rfl, trivial⟩ _ _ _ (by decide) ?_
 apply CaseB.mk <;> intro g
 · have hne : xs.map (·.m) ≠ ys.map (·.m) := fun e => by
     have := congrArg List.length e
     simp at this g
     omega
   refine ret0 ⟨?_, rfl⟩ (fun _ => rfl)
   simp [hne]
 · have hll : xs.length = ys.length := by simp at g; omega
   refine LoopW.mk ⟨{ k : Nat // k ≤ xs.length ∧ (xs.map (·.m)).take k = (ys.map (·.m)).take k },
     fun p => .mk [(1, .v (h2.val ys.length)), (2, .v (.func (.func 53) #[] #[])), (15, .v (h.val xs.length)), (16, .v (.int .i64 (xs.length : Int))), (17, .v (.int .i64 p.1))] 0 0 [] [] [fR (chansO h xs), fR (chansO h2 ys)],
     fun p => xs.length - p.1, ⟨0, Nat.zero_le _, rfl⟩, ?_, ?_⟩
   · exact weak_mk [0, 1] zw2 zw0 zw2 zw5 zw4 rfl rfl
   · rintro ⟨k, hk, he⟩
     refine CaseB.mk (fun g2 => ?_) (fun g2 => ?_)
     · have hlt : k < xs.length := by simpa using g2
       have hlt2 : k < ys.length := by omega
       obtain ⟨q1, q2⟩ := take_eq_succ he z77 z74
       simp only [List.getElem_map] at q1 q2
       refine stop_idx encChanH tabOk rfl rfl rfl rfl rfl ⟨rfl, rfl⟩ (rdVia 0 rfl (.ofR nest_h)) k rfl z34 (fun ad => ?_)
       refine stop_idx encChanH tabOk rfl rfl rfl rfl rfl ⟨rfl, rfl⟩ (rdVia 1 rfl (.ofR nest_h)) k rfl z34 (fun ad2 => ?_)
       refine stop_callV _ cl53 rfl rfl rfl rfl ⟨rfl, rfl⟩ (fun A w hW => (same_c _ _ _ _ _ _ _ _ w ⟨hW.get 0 rfl (.ofR (chansO_0 h xs k hlt)), hW.get 0 rfl (.ofR (chansO_1 h xs k hlt)), hW.get 0 rfl (.ofR (chansO_2 h xs k hlt)), hW.get 1 rfl (.ofR (chansO_0 h2 ys k hlt2)), hW.get 1 rfl (.ofR (chansO_1 h2 ys k hlt2)), hW.get 1 rfl (.ofR (chansO_2 h2 ys k hlt2)), trivial⟩ (small_of_20 (hb _ (List.getElem_mem hlt))) (small_of_20 (hb2 _ (List.getElem_mem hlt2))))) ?_
       rintro v L ⟨rfl, rfl⟩
       refine CaseB.mk (fun g3 => ?_) (fun g3 => ?_)
       · have hne := q2 z80
         refine ret0 ⟨?_, rfl⟩ (fun _ => rfl)
         simp [hne]
       · have heq := q1 z80
         have hw := e_succ k _ hlt (by omega)
         refine ⟨⟨k + 1, by omega, heq⟩, ?_, by simp; omega⟩
         exact weak_mk [0, 1] zw1 zw0 zw1 zw5 zw3 rfl rfl
     · have hge : xs.length ≤ k := by simpa using g2
       have heq : xs.map (·.m) = ys.map (·.m) := by rw [List.take_of_length_le z76, List.take_of_length_le z85] at he; exact he
       refine ret0 ⟨?_, rfl⟩ (fun _ => rfl)
       simp [heq]
theorem state_eq (s t : StateH) : s.pure = t.pure ↔ s.places = t.places ∧ s.status = t.status ∧ s.sems.map (·.m) = t.sems.map (·.m) ∧ s.onces.map (·.m) = t.onces.map (·.m) ∧ s.groups.map (·.m) = t.groups.map (·.m) ∧ s.barriers.map (·.m) = t.barriers.map (·.m) ∧ s.chans.map (·.m) = t.chans.map (·.m) ∧ s.said = t.said ∧ s.fault = t.fault := by
 simp only [StateH.pure, State.mk.injEq]
set_option maxHeartbeats 16000000 in
set_option maxRecDepth 100000 in
theorem stateSame_c (s t : StateH) (w : World) (h : At w [fR (stateO s), fR (stateO t)]) (hb : s.pure.small20) (hb2 : t.pure.small20) :
   Calls Tryz.prog 15 #[stateV s, stateV t] w (Ret w fun v L => v = .bool (decide (s.pure = t.pure)) ∧ L = []) := by
 have hx := state_eq s t
 obtain ⟨b0, b1, b2, b3, b4, b5, b6, b7⟩ := hb
 obtain ⟨c0, c1, c2, c3, c4, c5, c6, c7⟩ := hb2
 refine calls2 Tryz.func15 rfl tabOk w _ rfl _ rfl _ h ⟨rfl, rfl, rfl, rfl, trivial⟩ _ _ (by decide) ?_
 refine stop_call _ cl45 rfl rfl rfl rfl ⟨rfl, rfl⟩ (fun A w hW => eqInts_c s.h0 t.h0 s.places t.places w ⟨hW.get 0 rfl (.ofR (stateO_places s)), hW.get 1 rfl (.ofR (stateO_places t)), trivial⟩ (Nat.le_trans b0 (by decide)) (Nat.le_trans c0 (by decide))) ?_
 rintro v L ⟨rfl, rfl⟩
 refine CaseB.mk (fun h0 => ?_) (fun h0 => ?_)
 rotate_left
 · have g : ¬ s.pure = t.pure := fun e => by rw [hx] at e; simp [e] at h0
   exact ret0 ⟨by simp [g], rfl⟩ (fun _ => rfl)
 refine stop_call _ cl45 rfl rfl rfl rfl ⟨rfl, rfl⟩ (fun A w hW => eqInts_c s.h1 t.h1 s.status t.status w ⟨hW.get 0 rfl (.ofR (stateO_status s)), hW.get 1 rfl (.ofR (stateO_status t)), trivial⟩ (Nat.le_trans b1 (by decide)) (Nat.le_trans c1 (by decide))) ?_
 rintro v L ⟨rfl, rfl⟩
 refine CaseB.mk (fun h1 => ?_) (fun h1 => ?_)
 rotate_left
 · have g : ¬ s.pure = t.pure := fun e => by rw [hx] at e; simp [e] at h1
   exact ret0 ⟨by simp [g], rfl⟩ (fun _ => rfl)
 refine stop_call _ cl46 rfl rfl rfl rfl ⟨rfl, rfl⟩ (fun A w hW => eqfSem_c s.h2 t.h2 s.sems t.sems w ⟨hW.get 0 rfl (.R_R (stateO_sems s)), hW.get 1 rfl (.R_R (stateO_sems t)), trivial⟩ (allS_map b2).1 (allS_map b2).2 (allS_map c2).2) ?_
 rintro v L ⟨rfl, rfl⟩
 refine CaseB.mk (fun h2 => ?_) (fun h2 => ?_)
 rotate_left
 · have g : ¬ s.pure = t.pure := fun e => by rw [hx] at e; simp [e] at h2
   exact ret0 ⟨by simp [g], rfl⟩ (fun _ => rfl)
 refine stop_call _ cl47 rfl rfl rfl rfl ⟨rfl, rfl⟩ (fun A w hW => eqfOnce_c s.h3 t.h3 s.onces t.onces w ⟨hW.get 0 rfl (.R_R (stateO_onces s)), hW.get 1 rfl (.R_R (stateO_onces t)), trivial⟩ (allS_map b3).1 (allS_map b3).2 (allS_map c3).2) ?_
 rintro v L ⟨rfl, rfl⟩
 refine CaseB.mk (fun h3 => ?_) (fun h3 => ?_)
 rotate_left
 · have g : ¬ s.pure = t.pure := fun e => by rw [hx] at e; simp [e] at h3
   exact ret0 ⟨by simp [g], rfl⟩ (fun _ => rfl)
 refine stop_call _ cl49 rfl rfl rfl rfl ⟨rfl, rfl⟩ (fun A w hW => eqfGroup_c s.h4 t.h4 s.groups t.groups w ⟨hW.get 0 rfl (.R_R (stateO_groups s)), hW.get 1 rfl (.R_R (stateO_groups t)), trivial⟩ (allS_map b4).1 (allS_map b4).2 (allS_map c4).2) ?_
 rintro v L ⟨rfl, rfl⟩
 refine CaseB.mk (fun h4 => ?_) (fun h4 => ?_)
 rotate_left
 · have g : ¬ s.pure = t.pure := fun e => by rw [hx] at e; simp [e] at h4
   exact ret0 ⟨by simp [g], rfl⟩ (fun _ => rfl)
 refine stop_call _ cl51 rfl rfl rfl rfl ⟨rfl, rfl⟩ (fun A w hW => eqfBarrier_c s.h5 t.h5 s.barriers t.barriers w ⟨hW.get 0 rfl (.R_R (stateO_barriers s)), hW.get 1 rfl (.R_R (stateO_barriers t)), trivial⟩ (allS_map b5).1 (allS_map b5).2 (allS_map c5).2) ?_
 rintro v L ⟨rfl, rfl⟩
 refine CaseB.mk (fun h5 => ?_) (fun h5 => ?_)
 rotate_left
 · have g : ¬ s.pure = t.pure := fun e => by rw [hx] at e; simp [e] at h5
   exact ret0 ⟨by simp [g], rfl⟩ (fun _ => rfl)
 refine stop_call _ cl52 rfl rfl rfl rfl ⟨rfl, rfl⟩ (fun A w hW => eqfChan_c s.h6 t.h6 s.chans t.chans w ⟨hW.get 0 rfl (.R_R (stateO_chans s)), hW.get 1 rfl (.R_R (stateO_chans t)), trivial⟩ (allS_map b6).1 (allS_map b6).2 (allS_map c6).2) ?_
 rintro v L ⟨rfl, rfl⟩
 refine CaseB.mk (fun h6 => ?_) (fun h6 => ?_)
 rotate_left
 · have g : ¬ s.pure = t.pure := fun e => by rw [hx] at e; simp [e] at h6
   exact ret0 ⟨by simp [g], rfl⟩ (fun _ => rfl)
 refine stop_call _ cl45 rfl rfl rfl rfl ⟨rfl, rfl⟩ (fun A w hW => eqInts_c s.h7 t.h7 s.said t.said w ⟨hW.get 0 rfl (.ofR (stateO_said s)), hW.get 1 rfl (.ofR (stateO_said t)), trivial⟩ (Nat.le_trans b7 (by decide)) (Nat.le_trans c7 (by decide))) ?_
 rintro v L ⟨rfl, rfl⟩
 refine CaseB.mk (fun h7 => ?_) (fun h7 => ?_)
 rotate_left
 · have g : ¬ s.pure = t.pure := fun e => by rw [hx] at e; simp [e] at h7
   exact ret0 ⟨by simp [g], rfl⟩ (fun _ => rfl)
 refine ret0 ⟨?_, rfl⟩ (fun _ => rfl)
 simp only [decide_eq_true_eq] at h0 h1 h2 h3 h4 h5 h6 h7
 have e : (s.pure = t.pure) ↔ s.fault = t.fault := by rw [hx]; simp [h0, h1, h2, h3, h4, h5, h6, h7]
 show Value.bool (s.fault == t.fault) = _
 rw [decide_eq_decide.2 e]; rfl
set_option maxHeartbeats 16000000 in
set_option maxRecDepth 100000 in
theorem sameA_c (s t : StateH) (w : World) (h : At w [fR (stateO s), fR (stateO t)]) (hb : s.pure.small20) (hb2 : t.pure.small20) :
   Calls Tryz.prog 55 #[stateV s, stateV t] w (Ret w fun v L => v = .bool (decide (s.sems.map (·.m) = t.sems.map (·.m) ∧ s.onces.map (·.m) = t.onces.map (·.m) ∧ s.groups.map (·.m) = t.groups.map (·.m))) ∧ L = []) := by
 obtain ⟨b0, b1, b2, b3, b4, b5, b6, b7⟩ := hb
 obtain ⟨c0, c1, c2, c3, c4, c5, c6, c7⟩ := hb2
 have hlen : ∀ {α β : Type} {f : α → β} {xs ys : List α}, xs.map f = ys.map f → xs.length = ys.length := fun e => by have := congrArg List.length e; simpa using this
 refine calls2 Tryz.func55 rfl tabOk w _ rfl _ rfl _ h ⟨rfl, rfl, rfl, rfl, trivial⟩ _ _ (by decide) ?_
 refine CaseB.mk (fun h0 => ?_) (fun h0 => ?_)
 · refine ret0 ⟨?_, rfl⟩ (fun _ => rfl)
   have g : ¬ (s.sems.map (·.m) = t.sems.map (·.m) ∧ s.onces.map (·.m) = t.onces.map (·.m) ∧ s.groups.map (·.m) = t.groups.map (·.m)) := fun e => by
     have := hlen e.1
     simp [this] at h0
   simp [g]
 refine CaseB.mk (fun h1 => ?_) (fun h1 => ?_)
 · refine ret0 ⟨?_, rfl⟩ (fun _ => rfl)
   have g : ¬ (s.sems.map (·.m) = t.sems.map (·.m) ∧ s.onces.map (·.m) = t.onces.map (·.m) ∧ s.groups.map (·.m) = t.groups.map (·.m)) := fun e => by
     have := hlen e.2.1
     simp [this] at h1
   simp [g]
 refine CaseB.mk (fun h2 => ?_) (fun h2 => ?_)
 · refine ret0 ⟨?_, rfl⟩ (fun _ => rfl)
   have g : ¬ (s.sems.map (·.m) = t.sems.map (·.m) ∧ s.onces.map (·.m) = t.onces.map (·.m) ∧ s.groups.map (·.m) = t.groups.map (·.m)) := fun e => by
     have := hlen e.2.2
     simp [this] at h2
   simp [g]
 have hl0 : s.sems.length = t.sems.length := by simp at h0; omega
 refine LoopW.mk ⟨{ p : Nat // p ≤ s.sems.length ∧ (s.sems.map (·.m)).take p = (t.sems.map (·.m)).take p },
   fun p => .mk [(2, .p 0 0), (3, .p 1 0), (5, .v (.int .i64 p.1))] 2 0 [(0, 30, 9), (1, 30, 9)] [((0, 2), .v (s.h2.val s.sems.length)), ((0, 3), .v (s.h3.val s.onces.length)), ((0, 4), .v (s.h4.val s.groups.length)), ((1, 2), .v (t.h2.val t.sems.length)), ((1, 3), .v (t.h3.val t.onces.length)), ((1, 4), .v (t.h4.val t.groups.length))] [fR (stateO s), fR (stateO t)],
   fun p => s.sems.length - p.1, ⟨0, Nat.zero_le _, rfl⟩, ?_, ?_⟩
 · exact weak_mk [0, 1] zw2 zw0 zw2 zw5 zw4 rfl rfl
 rintro ⟨j, hj, he⟩
 apply CaseB.mk <;> intro g
 · have hlt : j < s.sems.length := by simpa using g
   have hlt2 : j < t.sems.length := by omega
   obtain ⟨q1, q2⟩ := take_eq_succ he z77 z74
   simp only [List.getElem_map] at q1 q2
   refine draw_start tabOk z86 z86 z86 200 [((0, 2), .v (s.h2.val s.sems.length)), ((1, 2), .v (t.h2.val t.sems.length))] [0, 1] [_, _] z105 z114 ⟨rfl, rfl, trivial⟩ rfl ?_
   refine d_idx (ti := tiOf tab) encSemH tabOk rfl rfl rfl rfl rfl ⟨rfl, rfl⟩ (rdVia 0 rfl (.trans (.R_R (stateO_sems s)) (.ofR nest_h))) j rfl z34 (fun ad => ?_)
   refine d_idx (ti := tiOf tab) encSemH tabOk rfl rfl rfl rfl rfl ⟨rfl, rfl⟩ (rdVia 1 rfl (.trans (.R_R (stateO_sems t)) (.ofR nest_h))) j rfl z34 (fun ad2 => ?_)
   refine d_call _ cl101 rfl rfl rfl rfl ⟨rfl, rfl⟩ (fun A w hW => semSameS_c _ _ _ _ w ⟨hW.get 0 rfl (.trans (.R_R (stateO_sems s)) (.ofR (semsO_0 _ _ j hlt))), hW.get 1 rfl (.trans (.R_R (stateO_sems t)) (.ofR (semsO_0 _ _ j hlt2))), trivial⟩ (Nat.le_trans ((allS_map b2).2 _ (List.getElem_mem hlt)) (by decide)) (Nat.le_trans ((allS_map c2).2 _ (List.getElem_mem hlt2)) (by decide))) ?_
   rintro v L ⟨rfl, rfl⟩
   apply CaseB.mk <;> intro g
   · have hne := q2 z82
     refine ret0 ⟨?_, rfl⟩ (fun _ => rfl)
     simp [hne]
   · have heq := q1 z82
     have hw := e_succ j _ hlt (by have := (allS_map b2).1; omega)
     refine ⟨⟨j + 1, by omega, heq⟩, ?_, by simp; omega⟩
     exact weak_mk [0, 1] zw1 zw0 zw1 zw5 zw3 rfl rfl
 have hge0 : s.sems.length ≤ j := by simpa using g
 have heq0 : s.sems.map (·.m) = t.sems.map (·.m) := by rw [List.take_of_length_le (by simpa using hge0), List.take_of_length_le z85] at he; exact he
 have hl1 : s.onces.length = t.onces.length := by simp at h1; omega
 refine LoopW.mk ⟨{ p : Nat // p ≤ s.onces.length ∧ (s.onces.map (·.m)).take p = (t.onces.map (·.m)).take p },
   fun p => .mk [(2, .p 0 0), (3, .p 1 0), (6, .v (.int .i64 p.1))] 2 0 [(0, 30, 9), (1, 30, 9)] [((0, 2), .v (s.h2.val s.sems.length)), ((0, 3), .v (s.h3.val s.onces.length)), ((0, 4), .v (s.h4.val s.groups.length)), ((1, 2), .v (t.h2.val t.sems.length)), ((1, 3), .v (t.h3.val t.onces.length)), ((1, 4), .v (t.h4.val t.groups.length))] [fR (stateO s), fR (stateO t)],
   fun p => s.onces.length - p.1, ⟨0, Nat.zero_le _, rfl⟩, ?_, ?_⟩
 · exact weak_mk [0, 1] zw2 zw0 zw2 zw5 zw4 rfl rfl
 rintro ⟨j, hj, he⟩
 apply CaseB.mk <;> intro g
 · have hlt : j < s.onces.length := by simpa using g
   have hlt2 : j < t.onces.length := by omega
   obtain ⟨q1, q2⟩ := take_eq_succ he z77 z74
   simp only [List.getElem_map] at q1 q2
   refine draw_start tabOk z86 z86 z86 200 [((0, 3), .v (s.h3.val s.onces.length)), ((1, 3), .v (t.h3.val t.onces.length))] [0, 1] [_, _] z105 z114 ⟨rfl, rfl, trivial⟩ rfl ?_
   refine d_idx (ti := tiOf tab) encOnceH tabOk rfl rfl rfl rfl rfl ⟨rfl, rfl⟩ (rdVia 0 rfl (.trans (.R_R (stateO_onces s)) (.ofR nest_h))) j rfl z34 (fun ad => ?_)
   refine d_idx (ti := tiOf tab) encOnceH tabOk rfl rfl rfl rfl rfl ⟨rfl, rfl⟩ (rdVia 1 rfl (.trans (.R_R (stateO_onces t)) (.ofR nest_h))) j rfl z34 (fun ad2 => ?_)
   refine d_call _ cl102 rfl rfl rfl rfl ⟨rfl, rfl⟩ (fun A w hW => onceSameS_c _ _ _ _ w ⟨hW.get 0 rfl (.trans (.R_R (stateO_onces s)) (.ofR (oncesO_0 _ _ j hlt))), hW.get 1 rfl (.trans (.R_R (stateO_onces t)) (.ofR (oncesO_0 _ _ j hlt2))), trivial⟩ (Nat.le_trans ((allS_map b3).2 _ (List.getElem_mem hlt)) (by decide)) (Nat.le_trans ((allS_map c3).2 _ (List.getElem_mem hlt2)) (by decide))) ?_
   rintro v L ⟨rfl, rfl⟩
   apply CaseB.mk <;> intro g
   · have hne := q2 z82
     refine ret0 ⟨?_, rfl⟩ (fun _ => rfl)
     simp [hne]
   · have heq := q1 z82
     have hw := e_succ j _ hlt (by have := (allS_map b3).1; omega)
     refine ⟨⟨j + 1, by omega, heq⟩, ?_, by simp; omega⟩
     exact weak_mk [0, 1] zw1 zw0 zw1 zw5 zw3 rfl rfl
 have hge1 : s.onces.length ≤ j := by simpa using g
 have heq1 : s.onces.map (·.m) = t.onces.map (·.m) := by rw [List.take_of_length_le (by simpa using hge1), List.take_of_length_le z85] at he; exact he
 have hl2 : s.groups.length = t.groups.length := by simp at h2; omega
 refine LoopW.mk ⟨{ p : Nat // p ≤ s.groups.length ∧ (s.groups.map (·.m)).take p = (t.groups.map (·.m)).take p },
   fun p => .mk [(2, .p 0 0), (3, .p 1 0), (7, .v (.int .i64 p.1))] 2 0 [(0, 30, 9), (1, 30, 9)] [((0, 2), .v (s.h2.val s.sems.length)), ((0, 3), .v (s.h3.val s.onces.length)), ((0, 4), .v (s.h4.val s.groups.length)), ((1, 2), .v (t.h2.val t.sems.length)), ((1, 3), .v (t.h3.val t.onces.length)), ((1, 4), .v (t.h4.val t.groups.length))] [fR (stateO s), fR (stateO t)],
   fun p => s.groups.length - p.1, ⟨0, Nat.zero_le _, rfl⟩, ?_, ?_⟩
 · exact weak_mk [0, 1] zw2 zw0 zw2 zw5 zw4 rfl rfl
 rintro ⟨j, hj, he⟩
 apply CaseB.mk <;> intro g
 · have hlt : j < s.groups.length := by simpa using g
   have hlt2 : j < t.groups.length := by omega
   obtain ⟨q1, q2⟩ := take_eq_succ he z77 z74
   simp only [List.getElem_map] at q1 q2
   refine draw_start tabOk z86 z86 z86 200 [((0, 4), .v (s.h4.val s.groups.length)), ((1, 4), .v (t.h4.val t.groups.length))] [0, 1] [_, _] z105 z114 ⟨rfl, rfl, trivial⟩ rfl ?_
   refine d_idx (ti := tiOf tab) encGroupH tabOk rfl rfl rfl rfl rfl ⟨rfl, rfl⟩ (rdVia 0 rfl (.trans (.R_R (stateO_groups s)) (.ofR nest_h))) j rfl z34 (fun ad => ?_)
   refine d_idx (ti := tiOf tab) encGroupH tabOk rfl rfl rfl rfl rfl ⟨rfl, rfl⟩ (rdVia 1 rfl (.trans (.R_R (stateO_groups t)) (.ofR nest_h))) j rfl z34 (fun ad2 => ?_)
   refine d_call _ cl103 rfl rfl rfl rfl ⟨rfl, rfl⟩ (fun A w hW => groupSameS_c _ _ _ _ w ⟨hW.get 0 rfl (.trans (.R_R (stateO_groups s)) (.ofR (groupsO_0 _ _ j hlt))), hW.get 1 rfl (.trans (.R_R (stateO_groups t)) (.ofR (groupsO_0 _ _ j hlt2))), trivial⟩ (Nat.le_trans ((allS_map b4).2 _ (List.getElem_mem hlt)) (by decide)) (Nat.le_trans ((allS_map c4).2 _ (List.getElem_mem hlt2)) (by decide))) ?_
   rintro v L ⟨rfl, rfl⟩
   apply CaseB.mk <;> intro g
   · have hne := q2 z82
     refine ret0 ⟨?_, rfl⟩ (fun _ => rfl)
     simp [hne]
   · have heq := q1 z82
     have hw := e_succ j _ hlt (by have := (allS_map b4).1; omega)
     refine ⟨⟨j + 1, by omega, heq⟩, ?_, by simp; omega⟩
     exact weak_mk [0, 1] zw1 zw0 zw1 zw5 zw3 rfl rfl
 have hge2 : s.groups.length ≤ j := by simpa using g
 have heq2 : s.groups.map (·.m) = t.groups.map (·.m) := by rw [List.take_of_length_le (by simpa using hge2), List.take_of_length_le z85] at he; exact he
 refine ret0 ⟨?_, rfl⟩ (fun _ => rfl)
 simp [heq0, heq1, heq2]
set_option maxHeartbeats 16000000 in
set_option maxRecDepth 100000 in
theorem stateSameS_c (s t : StateH) (w : World) (h : At w [fR (stateO s), fR (stateO t)]) (hb : s.pure.small20) (hb2 : t.pure.small20) :
   Calls Tryz.prog 16 #[stateV s, stateV t] w (Ret w fun v L => v = .bool (decide (s.pure = t.pure)) ∧ L = []) := by
 have hx := state_eq s t
 have hlen : ∀ {α β : Type} {f : α → β} {xs ys : List α}, xs.map f = ys.map f → xs.length = ys.length := fun e => by have := congrArg List.length e; simpa using this
 have hb' := hb
 have hb2' := hb2
 obtain ⟨b0, b1, b2, b3, b4, b5, b6, b7⟩ := hb
 obtain ⟨c0, c1, c2, c3, c4, c5, c6, c7⟩ := hb2
 refine calls2 Tryz.func16 rfl tabOk w _ rfl _ rfl _ h ⟨rfl, rfl, rfl, rfl, trivial⟩ _ _ (by decide) ?_
 refine stop_call _ cl54 rfl rfl rfl rfl ⟨rfl, rfl⟩ (fun A w hW => l2Ints_c s.h0 t.h0 s.places t.places w ⟨hW.get 0 rfl (.ofR (stateO_places s)), hW.get 1 rfl (.ofR (stateO_places t)), trivial⟩ (Nat.le_trans b0 (by decide)) (Nat.le_trans c0 (by decide))) ?_
 rintro v L ⟨rfl, rfl⟩
 refine CaseB.mk (fun h0 => ?_) (fun h0 => ?_)
 · have g : ¬ s.pure = t.pure := fun e => by
     rw [hx] at e
     simp [e] at h0
   exact ret0 ⟨by simp [g], rfl⟩ (fun _ => rfl)
 refine stop_call _ cl54 rfl rfl rfl rfl ⟨rfl, rfl⟩ (fun A w hW => l2Ints_c s.h1 t.h1 s.status t.status w ⟨hW.get 0 rfl (.ofR (stateO_status s)), hW.get 1 rfl (.ofR (stateO_status t)), trivial⟩ (Nat.le_trans b1 (by decide)) (Nat.le_trans c1 (by decide))) ?_
 rintro v L ⟨rfl, rfl⟩
 refine CaseB.mk (fun h1 => ?_) (fun h1 => ?_)
 · have g : ¬ s.pure = t.pure := fun e => by
     rw [hx] at e
     simp [e] at h1
   exact ret0 ⟨by simp [g], rfl⟩ (fun _ => rfl)
 refine stop_call _ cl54 rfl rfl rfl rfl ⟨rfl, rfl⟩ (fun A w hW => l2Ints_c s.h7 t.h7 s.said t.said w ⟨hW.get 0 rfl (.ofR (stateO_said s)), hW.get 1 rfl (.ofR (stateO_said t)), trivial⟩ (Nat.le_trans b7 (by decide)) (Nat.le_trans c7 (by decide))) ?_
 rintro v L ⟨rfl, rfl⟩
 refine CaseB.mk (fun h2 => ?_) (fun h2 => ?_)
 · have g : ¬ s.pure = t.pure := fun e => by
     rw [hx] at e
     simp [e] at h2
   exact ret0 ⟨by simp [g], rfl⟩ (fun _ => rfl)
 refine CaseB.mk (fun h3 => ?_) (fun h3 => ?_)
 · have g : ¬ s.pure = t.pure := fun e => by
     rw [hx] at e
     simp [e] at h3
   exact ret0 ⟨by simp [g], rfl⟩ (fun _ => rfl)
 refine stop_call _ cl55 rfl rfl rfl rfl ⟨rfl, rfl⟩ (fun A w hW => sameA_c s t w ⟨hW.get 0 rfl (.refl _), hW.get 1 rfl (.refl _), trivial⟩ hb' hb2') ?_
 rintro v L ⟨rfl, rfl⟩
 refine CaseB.mk (fun h4 => ?_) (fun h4 => ?_)
 · have g : ¬ s.pure = t.pure := fun e => by
     rw [hx] at e
     simp [e] at h4
   exact ret0 ⟨by simp [g], rfl⟩ (fun _ => rfl)
 refine CaseB.mk (fun h5 => ?_) (fun h5 => ?_)
 · have g : ¬ s.pure = t.pure := fun e => by
     rw [hx] at e
     have := hlen e.2.2.2.2.2.1
     simp [this] at h5
   exact ret0 ⟨by simp [g], rfl⟩ (fun _ => rfl)
 refine CaseB.mk (fun h6 => ?_) (fun h6 => ?_)
 · have g : ¬ s.pure = t.pure := fun e => by
     rw [hx] at e
     have := hlen e.2.2.2.2.2.2.1
     simp [this] at h6
   exact ret0 ⟨by simp [g], rfl⟩ (fun _ => rfl)
 have hl0 : s.barriers.length = t.barriers.length := by simp at h5; omega
 have hl1 : s.chans.length = t.chans.length := by simp at h6; omega
 refine LoopW.mk ⟨{ p : Nat // p ≤ s.barriers.length ∧ (s.barriers.map (·.m)).take p = (t.barriers.map (·.m)).take p },
   fun p => .mk [(2, .p 0 0), (3, .p 1 0), (5, .v (.int .i64 p.1))] 2 0 [(0, 30, 9), (1, 30, 9)] [((0, 5), .v (s.h5.val s.barriers.length)), ((0, 6), .v (s.h6.val s.chans.length)), ((1, 5), .v (t.h5.val t.barriers.length)), ((1, 6), .v (t.h6.val t.chans.length))] [fR (stateO s), fR (stateO t)],
   fun p => s.barriers.length - p.1, ⟨0, Nat.zero_le _, rfl⟩, ?_, ?_⟩
 · exact weak_mk [0, 1] zw2 zw0 zw2 zw5 zw4 rfl rfl
 rintro ⟨j, hj, he⟩
 apply CaseB.mk <;> intro g
 · have hlt : j < s.barriers.length := by simpa using g
   have hlt2 : j < t.barriers.length := by omega
   obtain ⟨q1, q2⟩ := take_eq_succ he z77 z74
   simp only [List.getElem_map] at q1 q2
   have hbx : ∀ a b : Barrier, a = b ↔ a.parties = b.parties ∧ a.round = b.round ∧ a.waits = b.waits := fun a b => by cases a; cases b; simp
   have hne : ¬ (s.barriers[j].m.parties = t.barriers[j].m.parties ∧ s.barriers[j].m.round = t.barriers[j].m.round ∧ s.barriers[j].m.waits = t.barriers[j].m.waits) → ¬ s.pure = t.pure := fun n e => q2 (fun e' => n ((hbx _ _).1 e')) (hx.1 e).2.2.2.2.2.1
   refine stop_idx encBarrierH tabOk rfl rfl rfl rfl rfl ⟨rfl, rfl⟩ (rdVia 0 rfl (.trans (.R_R (stateO_barriers s)) (.ofR nest_h))) j rfl z34 (fun ad => ?_)
   refine stop_idx encBarrierH tabOk rfl rfl rfl rfl rfl ⟨rfl, rfl⟩ (rdVia 1 rfl (.trans (.R_R (stateO_barriers t)) (.ofR nest_h))) j rfl z34 (fun ad2 => ?_)
   refine CaseB.mk (fun k0 => ?_) (fun k0 => ?_)
   · have g := hne (fun e => by simp [e] at k0)
     exact ret0 ⟨by simp [g], rfl⟩ (fun _ => rfl)
   refine CaseB.mk (fun k1 => ?_) (fun k1 => ?_)
   · have g := hne (fun e => by simp [e] at k1)
     exact ret0 ⟨by simp [g], rfl⟩ (fun _ => rfl)
   refine stop_call _ cl54 rfl rfl rfl rfl ⟨rfl, rfl⟩ (fun A w hW => l2Ints_c _ _ _ _ w ⟨hW.get 0 rfl (.trans (.R_R (stateO_barriers s)) (.ofR (barriersO_0 _ _ j hlt))), hW.get 1 rfl (.trans (.R_R (stateO_barriers t)) (.ofR (barriersO_0 _ _ j hlt2))), trivial⟩ (Nat.le_trans ((allS_map b5).2 _ (List.getElem_mem hlt)) (by decide)) (Nat.le_trans ((allS_map c5).2 _ (List.getElem_mem hlt2)) (by decide))) ?_
   rintro v L ⟨rfl, rfl⟩
   refine CaseB.mk (fun k2 => ?_) (fun k2 => ?_)
   · have g := hne (fun e => by simp [e] at k2)
     exact ret0 ⟨by simp [g], rfl⟩ (fun _ => rfl)
   · have heq := q1 ((hbx _ _).2 ⟨by simpa using k0, by simpa using k1, by simpa using k2⟩)
     have hw := e_succ j _ hlt (by have := (allS_map b5).1; omega)
     refine ⟨⟨j + 1, by omega, heq⟩, ?_, by simp; omega⟩
     exact weak_mk [0, 1] zw1 zw0 zw1 zw5 zw3 rfl rfl
 have hge0 : s.barriers.length ≤ j := by simpa using g
 have heq0 : s.barriers.map (·.m) = t.barriers.map (·.m) := by rw [List.take_of_length_le (by simpa using hge0), List.take_of_length_le z85] at he; exact he
 refine LoopW.mk ⟨{ p : Nat // p ≤ s.chans.length ∧ (s.chans.map (·.m)).take p = (t.chans.map (·.m)).take p },
   fun p => .mk [(2, .p 0 0), (3, .p 1 0), (8, .v (.int .i64 p.1))] 2 0 [(0, 30, 9), (1, 30, 9)] [((0, 5), .v (s.h5.val s.barriers.length)), ((0, 6), .v (s.h6.val s.chans.length)), ((1, 5), .v (t.h5.val t.barriers.length)), ((1, 6), .v (t.h6.val t.chans.length))] [fR (stateO s), fR (stateO t)],
   fun p => s.chans.length - p.1, ⟨0, Nat.zero_le _, rfl⟩, ?_, ?_⟩
 · exact weak_mk [0, 1] zw2 zw0 zw2 zw5 zw4 rfl rfl
 rintro ⟨j, hj, he⟩
 apply CaseB.mk <;> intro g
 · have hlt : j < s.chans.length := by simpa using g
   have hlt2 : j < t.chans.length := by omega
   obtain ⟨q1, q2⟩ := take_eq_succ he z77 z74
   simp only [List.getElem_map] at q1 q2
   refine draw_start tabOk z86 z86 z86 200 [((0, 6), .v (s.h6.val s.chans.length)), ((1, 6), .v (t.h6.val t.chans.length))] [0, 1] [_, _] z105 z114 ⟨rfl, rfl, trivial⟩ rfl ?_
   refine d_idx (ti := tiOf tab) encChanH tabOk rfl rfl rfl rfl rfl ⟨rfl, rfl⟩ (rdVia 0 rfl (.trans (.R_R (stateO_chans s)) (.ofR nest_h))) j rfl z34 (fun ad => ?_)
   refine d_idx (ti := tiOf tab) encChanH tabOk rfl rfl rfl rfl rfl ⟨rfl, rfl⟩ (rdVia 1 rfl (.trans (.R_R (stateO_chans t)) (.ofR nest_h))) j rfl z34 (fun ad2 => ?_)
   refine d_call _ cl56 rfl rfl rfl rfl ⟨rfl, rfl⟩ (fun A w hW => chanSameS_c _ _ _ _ _ _ _ _ w ⟨hW.get 0 rfl (.trans (.R_R (stateO_chans s)) (.ofR (chansO_0 _ _ j hlt))), hW.get 0 rfl (.trans (.R_R (stateO_chans s)) (.ofR (chansO_1 _ _ j hlt))), hW.get 0 rfl (.trans (.R_R (stateO_chans s)) (.ofR (chansO_2 _ _ j hlt))), hW.get 1 rfl (.trans (.R_R (stateO_chans t)) (.ofR (chansO_0 _ _ j hlt2))), hW.get 1 rfl (.trans (.R_R (stateO_chans t)) (.ofR (chansO_1 _ _ j hlt2))), hW.get 1 rfl (.trans (.R_R (stateO_chans t)) (.ofR (chansO_2 _ _ j hlt2))), trivial⟩ (small_of_20 ((allS_map b6).2 _ (List.getElem_mem hlt))) (small_of_20 ((allS_map c6).2 _ (List.getElem_mem hlt2)))) ?_
   rintro v L ⟨rfl, rfl⟩
   apply CaseB.mk <;> intro g
   · have hne := q2 z82
     have g : ¬ s.pure = t.pure := fun e => hne (hx.1 e).2.2.2.2.2.2.1
     exact ret0 ⟨by simp [g], rfl⟩ (fun _ => rfl)
   · have heq := q1 z82
     have hw := e_succ j _ hlt (by have := (allS_map b6).1; omega)
     refine ⟨⟨j + 1, by omega, heq⟩, ?_, by simp; omega⟩
     exact weak_mk [0, 1] zw1 zw0 zw1 zw5 zw3 rfl rfl
 have hge1 : s.chans.length ≤ j := by simpa using g
 have heq1 : s.chans.map (·.m) = t.chans.map (·.m) := by rw [List.take_of_length_le (by simpa using hge1), List.take_of_length_le z85] at he; exact he
 have h4' : s.sems.map (·.m) = t.sems.map (·.m) ∧ s.onces.map (·.m) = t.onces.map (·.m) ∧ s.groups.map (·.m) = t.groups.map (·.m) := by simpa using h4
 have g : s.pure = t.pure := hx.2 ⟨by simpa using h0, by simpa using h1, h4'.1, h4'.2.1, h4'.2.2, heq0, heq1, by simpa using h2, by simpa using h3⟩
 exact ret0 ⟨by simp [g], rfl⟩ (fun _ => rfl)
def cBool (b : Bool) : List Value := [.bool b]
theorem encBool : Enc cBool 1 := ⟨fun _ => rfl, fun _ u hu => by simp [cBool] at hu; subst hu; rfl⟩
def EndE (p : Prog) (s : State) (e : List UInt8) : Prop :=
 (¬ Fits p s ∧ e = []) ∨ (Fits p s ∧ s.fault ≠ 0 ∧ e = [102, 97, 117, 108, 116]) ∨ (Over p s ∧ readyM s = [] ∧ e = [111, 118, 101, 114]) ∨ (Stuck p s ∧ e = [115, 116, 117, 99, 107]) ∨ (Fits p s ∧ s.fault = 0 ∧ (¬ ∀ x ∈ s.status, x = 3) ∧ readyM s ≠ [] ∧ e = [111, 112, 101, 110])
theorem ready_done {s : State} (h : ∀ x ∈ s.status, x = 3) : readyM s = [] := Classical.byContradiction fun hr => by
 obtain ⟨x, hx⟩ := List.exists_mem_of_ne_nil _ hr
 obtain ⟨_, k, st, _, h5, h6⟩ := readyM_mem hx
 have := h st (List.mem_of_getElem? h5)
 omega
theorem end_is (p : Prog) (s : State) : ∃ e, endM p s = bs e ∧ EndE p s e := by
 by_cases ft : Fits p s
 · by_cases f0 : s.fault = 0
   · by_cases o : ∀ x ∈ s.status, x = 3
     · exact ⟨_, by rw [endM, if_neg (not_not_intro ft), if_neg (not_not_intro f0), if_pos o]; rfl, .inr (.inr (.inl ⟨⟨ft, f0, o⟩, ready_done o, rfl⟩))⟩
     · by_cases r : readyM s = []
       · exact ⟨_, by rw [endM, if_neg (not_not_intro ft), if_neg (not_not_intro f0), if_neg o, if_pos r]; rfl, .inr (.inr (.inr (.inl ⟨⟨ft, f0, r, o⟩, rfl⟩)))⟩
       · exact ⟨_, by rw [endM, if_neg (not_not_intro ft), if_neg (not_not_intro f0), if_neg o, if_neg r]; rfl, .inr (.inr (.inr (.inr ⟨ft, f0, o, r, rfl⟩)))⟩
   · exact ⟨_, by rw [endM, if_neg (not_not_intro ft), if_pos f0]; rfl, .inr (.inl ⟨ft, f0, rfl⟩)⟩
 · exact ⟨_, by rw [endM, if_pos ft]; rfl, .inl ⟨ft, rfl⟩⟩
theorem ret_bs {P : Program} {g : FuncId} {args : Array Value} {w : World} {x : ByteArray} {e : List UInt8} (he : x = bs e) (h : Calls P g args w (Ret w fun v L => v = .string x ∧ L = [])) : Calls P g args w (Ret w fun v L => v = .string (bs e) ∧ L = []) := by rw [← he]; exact h
theorem boolEq {b c : Bool} {P : Prop} (h1 : b = true ↔ P) (h2 : c = true ↔ P) : b = c := Bool.eq_iff_iff.2 (h1.trans h2.symm)
structure Ordered (p : Prog) (s : State) (rs : List Int) : Prop where
 inc : rs.Pairwise (· < ·)
 ok : ∀ t ∈ rs, ∃ k : Nat, t = k ∧ k < p.threads.length ∧ k < s.status.length ∧ (s.status[k]? = some 0 ∨ s.status[k]? = some 2)
theorem ready_ord {p : Prog} {s : State} {rs : List Int} (r1 : Fits p s → rs = readyM s) (r2 : ¬ Fits p s → rs = []) : Ordered p s rs := by
 by_cases ft : Fits p s
 · rw [r1 ft]
   refine ⟨readyM_lt s, fun t ht => ?_⟩
   obtain ⟨_, k, st, rfl, h1, h2⟩ := readyM_mem ht
   have hk := (List.getElem?_eq_some_iff.1 h1).1
   refine ⟨k, rfl, by rw [← ft.ns]; exact hk, hk, ?_⟩
   rcases h2 with rfl | rfl
   · exact .inl h1
   · exact .inr h1
 · rw [r2 ft]
   exact ⟨.nil, fun t ht => by cases ht⟩
theorem ready_same {p : Prog} {s : State} {a b : List Int} (a1 : Fits p s → a = readyM s) (a2 : ¬ Fits p s → a = []) (b1 : Fits p s → b = readyM s) (b2 : ¬ Fits p s → b = []) : a = b := by
 by_cases ft : Fits p s
 · rw [a1 ft, b1 ft]
 · rw [a2 ft, b2 ft]
theorem ready_len {p : Prog} {s : State} {rs : List Int} (r1 : Fits p s → rs = readyM s) (r2 : ¬ Fits p s → rs = []) : rs.length ≤ s.status.length := by
 by_cases ft : Fits p s
 · rw [r1 ft]; exact readyL_le s
 · rw [r2 ft]; exact Nat.zero_le _
theorem inStatus {s : StateH} {z : Sl} {xs : List Int} {g : Fct} (hg : g ∈ stateO { s with status := xs, h1 := z }) : g = own z 3 cInt 1 xs ∨ g ∈ stateO s := by
 simp only [stateO, List.mem_cons] at hg ⊢
 rcases hg with h | h | h
 · exact .inr (.inl h)
 · exact .inl h
 · exact .inr (.inr (.inr h))
theorem fN_aged {G : List Fct} {g : Fct} (hg : g ∈ G) : Rd (fN G) g.aged := .trans (fN_fR G) (.ofR ⟨g, hg, .refl _⟩)
theorem getSt {E : Env} {A : Nat → Nat} {n : Nat} {B : List (Nat × TypeId × Nat)} {M : List ((Nat × Nat) × SV)} {Zs : List Fct} {w : World} (h : WD E A n B M Zs w) {G G2 : List Fct} (k0 k2 : Nat) {f0 : Fct} (e0 : Zs[k0]? = some f0) (e2 : Zs[k2]? = some (fN G2)) (hm : ∀ g ∈ G, g = f0 ∨ g ∈ G2) : (fR G).P w ∧ ∀ b, (fR G).foot b → b < w.heap.size :=
 getR h fun g hg => (hm g hg).elim (fun e => e ▸ ⟨_, List.mem_of_getElem? e0, .aged _⟩) (fun h => ⟨_, List.mem_of_getElem? e2, fN_aged h⟩)
theorem fitsV {v : Value} (p : ProgH) (x : StateH) (hv : stateV x = v) (w : World) (h : At w [fR (progO p), fR (stateO x)]) (hp : p.pure.small20) (hs : x.pure.small20) : Calls Tryz.prog 18 #[progV p, v] w (Tells w (Fits p.pure x.pure)) := by
 subst hv
 exact stateFits_c p x w h hp hs
theorem ret_op {P : Program} {g : FuncId} {args : Array Value} {w : World} {x : Op × Bool} (h : Calls P g args w (Ret w fun v L => v = .tuple #[.agg (cOp x.1).toArray, .bool x.2] ∧ L = [])) : Calls P g args w (Ret w fun v L => ∃ (o : Op) (b : Bool), (o, b) = x ∧ v = .tuple #[.agg (cOp o).toArray, .bool b] ∧ L = []) :=
 h.mono fun _ _ ⟨v, L, h1, h2, h3, h4, h5⟩ => ⟨v, L, h1, h2, h3, x.1, x.2, rfl, h4, h5⟩
theorem eqlOp (x y : Op) (w : World) : (binOp .eql 44 (.agg (cOp x).toArray) (.agg (cOp y).toArray)).run Tryz.prog w = .ok (.bool (decide (x = y))) w := by
 have h := eql_ints (P := Tryz.prog) (t := 44) (it := 3) (xs := [x.kind, x.on, x.arg]) (ys := [y.kind, y.on, y.arg]) z86 z86 z86 rfl z86 w
 have e : ([x.kind, x.on, x.arg] = [y.kind, y.on, y.arg]) ↔ x = y := by cases x; cases y; simp
 rw [show decide (x = y) = decide ([x.kind, x.on, x.arg] = [y.kind, y.on, y.arg]) from by simp only [e]]
 exact h
theorem stuck_st {p : Prog} {s : State} (h : Stuck p s) {k : Nat} (hk : k < s.status.length) : s.status[k] = 1 ∨ s.status[k] = 3 := by
 have h1 := status_in h.1 hk
 have h2 : ¬ (s.status[k] = 0 ∨ s.status[k] = 2) := fun h2 => by
   have : (k : Int) ∈ readyM s := readyM_iff.2 ⟨h.2.1, k, _, rfl, List.getElem?_eq_getElem hk, h2⟩
   rw [h.2.2.1] at this
   cases this
 omega
theorem stuck_some {p : Prog} {s : State} (h : Stuck p s) : ∃ x ∈ s.status, x = 1 := Classical.byContradiction fun hn => h.2.2.2 fun x hx => by
 obtain ⟨k, hk, rfl⟩ := List.mem_iff_getElem.1 hx
 rcases stuck_st h hk with e | e
 · exact (hn ⟨_, hx, e⟩).elim
 · exact e
theorem waits_at (p : ProgH) (s : StateH) (ft : Fits p.pure s.pure) (k : Nat) (hk : k < s.status.length) : ∃ (hkt : k < p.threads.length) (hkp : k < s.places.length), (s.status[k] ≠ 1 ∧ waitsM p.pure s.pure k = (⟨0, 0, 0⟩, false)) ∨ (s.status[k] = 1 ∧ s.places[k] = ((s.places[k]).toNat : Int) ∧ ∃ (hlo : (s.places[k]).toNat < (p.threads[k]).m.length), waitsM p.pure s.pure k = ((p.threads[k]).m[(s.places[k]).toNat], true)) := by
 have ns := ft.ns
 have np := ft.np
 have lt : p.pure.threads.length = p.threads.length := by simp [ProgH.pure]
 have ls : s.pure.status.length = s.status.length := rfl
 have lp : s.pure.places.length = s.places.length := rfl
 have hkt : k < p.threads.length := by omega
 have hkp : k < s.places.length := by omega
 refine ⟨hkt, hkp, ?_⟩
 have hth : p.pure.threads[k]? = some (p.threads[k]).m := by simp [ProgH.pure, hkt]
 have hpl : s.pure.places[k]? = some s.places[k] := List.getElem?_eq_getElem hkp
 by_cases s1 : s.status[k] = 1
 · have hst : s.pure.status[k]? = some 1 := by rw [← s1]; exact List.getElem?_eq_getElem hk
   obtain ⟨a0, a1, h4⟩ := ft.threads k _ _ _ hth hpl hst
   obtain ⟨op, hop⟩ : ∃ op, (p.threads[k]).m[(s.places[k]).toNat]? = some op := by
     rcases h4 with ⟨_, e, _⟩ | ⟨op, e, _⟩
     · exact absurd e (by decide)
     · exact ⟨op, e⟩
   obtain ⟨hlo, rfl⟩ := List.getElem?_eq_some_iff.1 hop
   refine .inr ⟨s1, (Int.toNat_of_nonneg a0).symm, hlo, ?_⟩
   rw [waitsM, if_pos ⟨ft, by omega, hst⟩]
   show (((p.pure.threads.getD k []).getD (s.pure.places.getD k 0).toNat ⟨0, 0, 0⟩), true) = _
   rw [List.getD_eq_getElem?_getD, List.getD_eq_getElem?_getD, List.getD_eq_getElem?_getD, hth, hpl]
   simp only [Option.getD_some, hop]
 · exact .inl ⟨s1, waitsM_no fun e => s1 (List.getElem?_eq_some_iff.1 (show s.status[k]? = some 1 from e.2.2)).2⟩
set_option maxHeartbeats 16000000 in
set_option maxRecDepth 100000 in
theorem lawWaitsFor_c (i : Sl) (xs : List UInt8) (w : World) (h : At w [slo i cByte 1 xs]) :
   Calls Tryz.prog 5 #[i.val xs.length] w (Ret w fun v L => v = .bool true ∧ L = []) := by
 refine calls1 Tryz.func5 rfl tabOk w _ rfl _ rfl _ h ⟨rfl, rfl, trivial⟩ _ (by decide) ?_
 refine CaseB.mk (fun h0 => ?_) (fun h0 => ?_)
 · exact ret0 ⟨rfl, rfl⟩ (fun _ => rfl)
 have hb : xs.length ≤ 4294967296 := by simp at h0; omega
 refine stop_call _ cl20 rfl rfl rfl rfl ⟨rfl, rfl⟩ (fun A w hW => (waitsD_c i xs w ⟨z27, trivial⟩ hb)) ?_
 rintro v L ⟨p, s, t, rfl, ok, nr, rfl⟩
 have hp := ok.small20
 have hs := nr.sm
 have hsb : s.status.length ≤ 1048576 := hs.2.1
 refine stop_call _ cl21 rfl rfl rfl rfl ⟨rfl, rfl⟩ (fun A w hW => ret_op (waitsFor_c p s t w ⟨hW.get 0 rfl (.O_R fun _ h => h), hW.get 1 rfl (fN_fR _), trivial⟩ hp hs)) ?_
 rintro v L ⟨o1, b1, e1, rfl, rfl⟩
 refine stop_call _ cl22 rfl rfl rfl rfl ⟨rfl, rfl⟩ (fun A w hW => ret_op (waitsForS_c p s t w ⟨hW.get 0 rfl (.O_R fun _ h => h), hW.get 1 rfl (fN_fR _), trivial⟩ hp hs)) ?_
 rintro v L ⟨o2, b2, e2, rfl, rfl⟩
 obtain ⟨rfl, rfl⟩ : o2 = o1 ∧ b2 = b1 := by
   have := e2.trans e1.symm
   simpa using this
 refine stop_bin rfl rfl rfl ⟨rfl, rfl⟩ (.bool (decide (o2 ≠ o2))) (fun w => (run_eqGuard_agg w _ _ _ _ _ _ z86)) (fun w => (neOp _ _ w)) ?_
 refine CaseB.mk (fun g => by simp at g) (fun _ => ?_)
 refine CaseB.mk (fun g => by simp at g) (fun _ => ?_)
 refine stop_call _ cl23 rfl rfl rfl rfl ⟨rfl, rfl⟩ (fun A w hW => isStuck_c p s w ⟨hW.get 0 rfl (.O_R fun _ h => h), hW.get 1 rfl (fN_fR _), trivial⟩ hp hs) ?_
 rintro v L ⟨b, rfl, hbb, rfl⟩
 apply CaseB.mk <;> intro g
 · refine stop_bin rfl rfl rfl ⟨rfl, rfl⟩ (.bool (decide (o2 = o2))) (fun w => (run_eqGuard_agg w _ _ _ _ _ _ z86)) (fun w => (eqlOp _ _ w)) ?_
   refine CaseB.mk (fun _ => ?_) (fun g => by simp at g)
   refine ret0 ⟨?_, rfl⟩ (fun _ => rfl)
   simp
 have st : Stuck p.pure s.pure := hbb.1 z82
 have ft := st.1
 have hnp : s.status.length = p.threads.length := by have := ft.ns; simpa [StateH.pure, ProgH.pure] using this
 refine LoopW.mk ⟨{ k : Nat // k ≤ s.status.length },
   fun k => .mk [(3, .p 0 0), (4, .p 1 0), (10, .v (.int .i64 (((s.status.take k.1).filter (· == 1)).length : Int))), (11, .v (.int .i64 (k.1 : Int)))] 2 0 [(1, 30, 9), (0, 37, 5)] [((0, 0), .v (p.h0.val p.sems.length)), ((0, 1), .v (p.h1.val p.groups.length)), ((0, 2), .v (p.h2.val p.barriers.length)), ((0, 3), .v (p.h3.val p.rooms.length)), ((0, 4), .v (p.h4.val p.threads.length)), ((1, 0), .v (s.h0.val s.places.length)), ((1, 1), .v (s.h1.val s.status.length)), ((1, 2), .v (s.h2.val s.sems.length)), ((1, 3), .v (s.h3.val s.onces.length)), ((1, 4), .v (s.h4.val s.groups.length)), ((1, 5), .v (s.h5.val s.barriers.length)), ((1, 6), .v (s.h6.val s.chans.length)), ((1, 7), .v (s.h7.val s.said.length)), ((1, 8), .v (.int .i64 s.fault))] [fO (progO p), fN (stateO s)],
   fun k => s.status.length - k.1, ⟨0, Nat.zero_le _⟩, ?_, ?_⟩
 · exact weak_mk [0, 1] zw2 zw0 zw2 zw5 zw4 rfl rfl
 rintro ⟨k, hk⟩
 simp only
 refine CaseB.mk (fun gk => ?_) (fun gk => ?_)
 · have hlt : k < s.status.length := by have := of_decide_eq_true gk; omega
   have hw := e_succ k _ hlt (by omega)
   obtain ⟨hkt, hkp, hcs⟩ := waits_at p s ft k hlt
   have hst : s.status[k] = 1 ∨ s.status[k] = 3 := stuck_st st hlt
   have hts : (s.status.take (k + 1)).filter (· == 1) = (s.status.take k).filter (· == 1) ++ (if s.status[k] = 1 then [s.status[k]] else []) := by
     rw [List.take_succ_eq_append_getElem hlt, List.filter_append]
     congr 1
     by_cases e : s.status[k] = 1 <;> simp [e]
   have hfl : ((s.status.take k).filter (· == 1)).length ≤ 1048576 := Nat.le_trans (List.length_filter_le ..) (by rw [List.length_take]; omega)
   refine stop_call _ cl21 rfl rfl rfl rfl ⟨rfl, rfl⟩ (fun A w hW => ret_op (waitsFor_c p s (k : Int) w ⟨hW.get 0 rfl (.O_R fun _ h => h), hW.get 1 rfl (fN_fR _), trivial⟩ hp hs)) ?_
   rintro v L ⟨o3, b3, e3, rfl, rfl⟩
   refine CaseB.mk (fun g3 => ?_) (fun g3 => ?_)
   · obtain ⟨s1, hz, hlo, hw3⟩ : s.status[k] = 1 ∧ s.places[k] = ((s.places[k]).toNat : Int) ∧ ∃ (hlo : (s.places[k]).toNat < (p.threads[k]).m.length), waitsM p.pure s.pure k = ((p.threads[k]).m[(s.places[k]).toNat], true) := by
       rcases hcs with ⟨_, hw3⟩ | h
       · rw [hw3] at e3
         have : b3 = false := (Prod.mk.injEq .. ▸ e3).2
         rw [this] at g3; cases g3
       · exact h
     have ho3 : o3 = (p.threads[k]).m[(s.places[k]).toNat] := by
       rw [hw3] at e3
       exact (Prod.mk.injEq .. ▸ e3).1
     refine draw_start tabOk z86 z86 z86 200 [((2, 0), .v (.int .i64 o3.kind)), ((2, 1), .v (.int .i64 o3.on)), ((2, 2), .v (.int .i64 o3.arg)), ((0, 4), .v (p.h4.val p.threads.length)), ((1, 0), .v (s.h0.val s.places.length))] [0, 1] [_, _] z92 z103 ⟨rfl, rfl, trivial⟩ rfl ?_
     refine d_idx (ti := tiOf tab) encOpSH tabOk rfl rfl rfl rfl rfl ⟨rfl, rfl⟩ (rdVia 0 rfl (.trans (.O_R fun _ h => h) (.trans (.R_R (progO_threads p)) (.ofR nest_h)))) k rfl z34 (fun ad1 => ?_)
     refine d_idx (ti := tiOf tab) encInt tabOk rfl rfl rfl rfl rfl ⟨rfl, rfl⟩ (rdVia 1 rfl (.trans (fN_fR _) (.ofR (stateO_places s)))) k rfl z34 (fun ad2 => ?_)
     refine d_idx (ti := tiOf tab) encOp tabOk rfl rfl rfl rfl rfl ⟨rfl, rfl⟩ (rdVia 0 rfl (.trans (.O_R fun _ h => h) (.trans (.R_R (progO_threads p)) (.ofR (threadsO_0 _ _ k hkt))))) (s.places[k]).toNat hz z34 (fun ad3 => ?_)
     rw [← ho3]
     refine d_bin rfl rfl rfl ⟨rfl, rfl⟩ (.bool (decide (o3 ≠ o3))) (fun w => (run_eqGuard_agg w _ _ _ _ _ _ z86)) (fun w => (neOp _ _ w)) ?_
     refine CaseB.mk (fun g => by simp at g) (fun _ => ?_)
     refine stop_idx encInt tabOk rfl rfl rfl rfl rfl ⟨rfl, rfl⟩ (rdVia 1 rfl (.trans (fN_fR _) (.ofR (stateO_status s)))) k rfl z34 (fun ad4 => ?_)
     refine CaseB.mk (fun g => by rw [s1, g3] at g; simp at g) (fun _ => ?_)
     have hw2 := e_succ ((s.status.take k).filter (· == 1)).length 1048577 (by omega) (by omega)
     have hl : ((s.status.take (k + 1)).filter (· == 1)).length = ((s.status.take k).filter (· == 1)).length + 1 := by rw [hts, if_pos s1]; simp
     refine ⟨⟨k + 1, hlt⟩, ?_, by simp only; omega⟩
     simp only [hl]
     refine weak_mk [0, 1] ?_ ?_ ?_ ?_ ?_ rfl rfl
     · exact zw15
     · exact zw0
     · exact zw15
     · exact zw5
     · repeat (first | exact trivial | refine ⟨.inl ⟨_, rfl, (by first | rfl | ((first | exact congrArg (fun z => SV.v (Value.int .i64 z)) hw | exact congrArg (fun z => SV.v (Value.int .i64 z)) hw2)))⟩, ?_⟩ | refine ⟨.inr z109, ?_⟩)
   · have s3 : ¬ s.status[k] = 1 := fun e => by
       rcases hcs with h | ⟨_, _, _, hw3⟩
       · exact h.1 e
       · rw [hw3] at e3
         have : b3 = true := (Prod.mk.injEq .. ▸ e3).2
         rw [this] at g3; cases g3
     have s3' : s.status[k] = 3 := hst.resolve_left s3
     refine stop_idx encInt tabOk rfl rfl rfl rfl rfl ⟨rfl, rfl⟩ (rdVia 1 rfl (.trans (fN_fR _) (.ofR (stateO_status s)))) k rfl z34 (fun ad4 => ?_)
     refine CaseB.mk (fun g => by rw [s3', g3] at g; simp at g) (fun _ => ?_)
     have hl : ((s.status.take (k + 1)).filter (· == 1)).length = ((s.status.take k).filter (· == 1)).length := by rw [hts, if_neg s3]; simp
     refine ⟨⟨k + 1, hlt⟩, ?_, by simp only; omega⟩
     simp only [hl]
     exact weak_mk [0, 1] zw1 zw0 zw1 zw5 zw3 rfl rfl
 have hke : s.status.length ≤ k := by have := of_decide_eq_false gk; omega
 obtain ⟨x, hx, rfl⟩ := stuck_some st
 have hx' : (1 : Int) ∈ (s.status.take k).filter (· == 1) := by rw [List.take_of_length_le hke, List.mem_filter]; exact ⟨hx, rfl⟩
 have h0 := List.length_pos_of_mem hx'
 refine ret0 ⟨?_, rfl⟩ (fun _ => rfl)
 have : decide (((((s.status.take k).filter (· == 1)).length : Nat) : Int) > 0) = true := decide_eq_true (by omega)
 simp only [this]
end Go.Proofs.YtjkkoonennpceaaGreat
namespace Go.Sx
open Go Go.RowKit Go.ChangeShapes Go.WideShapes
theorem trodAll_below {H : Type} {enc : TypeId × Value → H} {P : Program} (hl : laidOutB P = true) {W W' : World} (hb : Below W.heap.size W W') (sp : Nat → Bool) : ∀ {ts : List TypeId} {vs : List Value} {ds : List (DataW H)} {ps : List MemPlace}, (∀ t ∈ ts, P.readableRec t = true ∧ t < P.types.size) →
   DataW.TrodAll enc P W 0 (fun _ => true) true ts vs ds ps → (∀ x ∈ ps, x.block < W.heap.size) → (∀ x ∈ ps, sp x.block = true) → DataW.TrodAll enc P W' 0 sp true ts vs ds ps
 | [], [], [], ps, _, h, _, _ => h
 | t :: ts, v :: vs, d :: ds, ps, hr, h, hlt, hsp => by
   obtain ⟨p, q, h1, h2, rfl⟩ := h
   have ht := hr t (by simp)
   exact ⟨p, q, WideElems.Trod_stays hl ht.1 ht.2 h1 (fun x hx => hb.same (hlt x (by simp [hx]))) (fun x hx => hsp x (by simp [hx])),
     trodAll_below hl hb sp (fun t ht => hr t (by simp [ht])) h2 (fun x hx => hlt x (by simp [hx])) (fun x hx => hsp x (by simp [hx])), rfl⟩
 | [], _ :: _, _, _, _, h, _, _ => h.elim
 | _ :: _, [], _, _, _, h, _, _ => h.elim
 | [], [], _ :: _, _, _, h, _, _ => h.elim
 | _ :: _, _ :: _, [], _, _, h, _, _ => h.elim
theorem law_post {H : Type} {enc : TypeId × Value → H} {P : Program} {f : Func} {s : ChangeSpec} {apart fresh handsOn again : Bool} {W W' : World} {args : Array Value} {ds gs : List (DataW H)} {before : List MemPlace} {tb : TypeId} {pl : List TypeId}
   (hl : laidOutB P = true) (hpl : f.params.toList = pl) (hp : pl.all (fun t => P.readableRec t && decide (t < P.types.size)) = true) (hvars : s.vars = []) (hres : f.resultTypes = #[tb]) (htb : P.underlying tb = some .bool)
   (hspec : s.fn H (ds ++ gs) = { results := [.lit (.bool true)], args := ds })
   (hW : DataW.Whole enc P f.params.toList s.vars apart W args.toList ds gs before) (hb : Below W.heap.size W W') :
   s.post enc P f apart fresh handsOn again W args (.bool true) W' := by
 have hold : ∀ p ∈ before, p.block < W.heap.size := fun p hp => by simpa using hW.lt p hp
 have hW0 := hW
 obtain ⟨pa, pv, hA, hV, hbef, hfz, hnd⟩ := hW
 have hbef' := hbef.symm; clear hbef
 rw [hvars] at hV
 obtain ⟨rfl, rfl⟩ := trodVars_none hV
 rw [List.append_nil] at hbef'
 subst hbef'
 rw [List.append_nil] at hspec
 have hp' : ∀ t ∈ f.params.toList, P.readableRec t = true ∧ t < P.types.size := fun t ht => by
   rw [hpl] at ht
   have := List.all_eq_true.1 hp t ht
   simpa using this
 have hB : ∀ (b : Nat) (sp : Nat → Bool) (hd : Bool), DataW.Trod enc P W' b sp hd tb (.bool true) (.lit (.bool true)) [] := fun b sp hd => ⟨1, by simp [DataW.trod, Value.cells, htb]⟩
 have hrl : (Value.bool true).resultList f.resultTypes.size = [.bool true] := by rw [hres]; rfl
 have hR : ∀ (b : Nat) (sp : Nat → Bool) (hd : Bool), DataW.TrodAll enc P W' b sp hd f.resultTypes.toList ((Value.bool true).resultList f.resultTypes.size) [.lit (.bool true)] [] := fun b sp hd => by
   rw [hrl, hres]; exact trodAll_mk1 (hB b sp hd)
 have hAr := fun sp h => trodAll_below hl hb sp hp' hA hold h
 have hvv : ∀ sp, DataW.TrodVars enc P W' sp s.vars ([] : List (DataW H)) [] := fun sp => by rw [hvars]; rfl
 refine ⟨ds, [], pa, [], pa, [], hW0, ?_, ?_, ?_, ?_, fun _ => ⟨?_, [.lit (.bool true)] ++ ds, [], [] ++ pa, ⟨[] ++ pa, [], trodAll_append (hAr _ (fun _ _ => rfl)) (hR _ _ _), hvv _, by simp, ?_, ?_⟩, fun p hp _ => by simpa using hp⟩⟩
 · simp only [List.append_nil, hspec]; exact hR _ _ _
 · simp only [List.append_nil, hspec]; exact hAr _ (fun p hp => by simpa using hold p hp)
 · simp only [List.append_nil, hspec]; exact hvv _
 · exact World.keptBut_mono (fun p hp => hp.elim) (hb.frame (fun _ => False))
 · intro j t r hj hv
   rw [hrl] at hv
   rw [hres] at hj
   cases j with
   | succ j => simp at hv
   | zero =>
     simp at hj hv
     subst hj; subst hv
     simp [Value.okWide, htb, Cell.okWide, Cell.ok]
 · intro b off hp
   rw [hb.frozen (hold _ (by simpa using hp))]
   exact hfz b off (by simpa using hp)
 · intro h
   simpa using hnd h
section
variable {H : Type} {enc : TypeId × Value → H} {P : Program} {W : World}
theorem cells_inv {α : Type} {el : α → List Value} {sz : Nat} (he : Enc el sz) (h0 : 0 < sz) {xs : List α} {j : Nat} {u : Value} (h : (cells el xs)[j]? = some u) : ∃ (k r : Nat) (hk : k < xs.length), j = k * sz + r ∧ (el xs[k])[r]? = some u := by
 have hlt : j < xs.length * sz := by rw [← cells_length he]; exact (List.getElem?_eq_some_iff.1 h).1
 have hk : j / sz < xs.length := Nat.div_lt_of_lt_mul (by rwa [Nat.mul_comm] at hlt)
 have hr : j % sz < sz := Nat.mod_lt _ h0
 have hj : j = j / sz * sz + j % sz := (Nat.div_add_mod' j sz).symm
 refine ⟨j / sz, j % sz, hk, hj, ?_⟩
 have hr' : j % sz < (el xs[j / sz]).length := by rw [he.len]; exact hr
 have := cells_at he hk (List.getElem?_eq_getElem hr')
 rw [← hj, h] at this
 rw [List.getElem?_eq_getElem hr', ← this]
theorem open_sl {α : Type} {el : α → List Value} {sz : Nat} (he : Enc el sz) (h0 : 0 < sz) {t e : TypeId} {fuel : Nat} {cs : List Value} {x : DataW H × List MemPlace} (ht : P.underlying t = some (.slice e)) (hc : P.cellsOf e = sz)
   (hel : ∀ n cs y, DataW.trod enc P W 0 (fun _ => true) true n e cs = some y → ∃ a : α, cs = el a)
   (h : DataW.trod enc P W 0 (fun _ => true) true fuel t cs = some x) :
   ∃ (i : Sl) (xs : List α), cs = [i.val xs.length] ∧ RdS W i sz (cells el xs) xs.length ∧ ∀ b, (fSl true i sz (cells el xs) xs.length).foot b → b < W.heap.size := by
 rcases Deep.open_slice ht h with ⟨rfl, rfl⟩ | ⟨a, len, cap, m, n, D, Pl, rfl, hb, hl, hm, hmm, rfl, hx⟩
 · exact ⟨⟨none, 0⟩, [], rfl, ⟨by simp [cells], by simp, by simp [maxLen], fun h => by simp at h⟩, fun b hb => by have := hb.1; simp at this⟩
 · rw [hc] at hx
   have hlm : len ≤ m := by rw [hmm]; simp; omega
   have hone : ∀ i, i < len → ∃ y : α, ∀ r u, (el y)[r]? = some u → W.cell? (a.add (i * sz + r)) = some u := fun i hi => by
     obtain ⟨cs', h1, h2⟩ := hx i (by omega)
     obtain ⟨y, rfl⟩ := hel _ _ _ h2
     obtain ⟨_, g1, g2⟩ := World.cells?_some h1
     refine ⟨y, fun r u hu => ?_⟩
     have hr : r < sz := by rw [← g1]; exact (List.getElem?_eq_some_iff.1 hu).1
     have := g2 r hr
     rw [addr_add_add, hu] at this
     exact this
   rcases Nat.eq_zero_or_pos len with hz | hz
   · subst hz
     exact ⟨⟨some a, cap⟩, [], rfl, ⟨by simp [cells], by simp, hm, fun h => by simp at h⟩, fun b hb => by have := hb.1; simp at this⟩
   · have : Inhabited α := ⟨(hone 0 hz).choose⟩
     obtain ⟨X, hX⟩ := Deep.choose_lt hone
     have hlen : ((List.range len).map X).length = len := by simp
     refine ⟨⟨some a, cap⟩, (List.range len).map X, by rw [hlen]; rfl, ⟨by rw [cells_length he], by rw [hlen]; exact hl, hm, fun _ => ⟨a, rfl, fun j u hu => ?_⟩⟩, ?_⟩
     · obtain ⟨k, r, hk, rfl, hu'⟩ := cells_inv he h0 hu
       have hk' : k < len := by simpa using hk
       exact hX k hk' r u (by simpa using hu')
     · rintro b ⟨_, ad, had, rfl⟩
       injection had with had
       subst had
       have hr : 0 < (el (X 0)).length := by rw [he.len]; exact h0
       have hc0 := hX 0 hz 0 _ (List.getElem?_eq_getElem hr)
       unfold World.cell? at hc0
       rw [block_add] at hc0
       cases hh : W.heap[a.block]? with
       | none => rw [hh] at hc0; simp at hc0
       | some o => exact (Array.getElem?_eq_some_iff.1 hh).1
theorem val_slice {base : Nat} {t e : TypeId} {r : Reach} {v : Value} {i : Sl} {n : Nat} (ht : P.underlying t = some (.slice e)) (hv : Value.okWide P W r base t v) (h : v.cells.toList = [i.val n]) : v = i.val n := by
 obtain ⟨a, len, cap, rfl⟩ := okWide_slice ht hv
 simpa [Value.cells] using h
end
end Go.Sx
