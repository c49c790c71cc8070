/- FnExactReadyThreads: called with any arguments it returns true. No condition. -/
import Derived.Test.YtklclbcckjhdpaaGreatQExactReadyThreadsa
namespace Go.Proofs.YtklclbcckjhdpaaGreat

open Go Go.Sx Go.RowKit

def mkChan (c : Nat) (x : ChanH) : ChanH := ⟨⟨((c : Nat) : Int), marks (c + 1) x.m.items.length, marksLetter (c + 1 + x.m.items.length) x.m.senders.length, marks (c + 1 + x.m.items.length + 2 * x.m.senders.length) x.m.getters.length, ((((c + 1 + x.m.items.length + 2 * x.m.senders.length + x.m.getters.length) % 3 : Nat) : Int) == 0)⟩, x.q0, x.q1, x.q2⟩

def nxChan (c : Nat) (x : ChanH) : Nat := c + 1 + x.m.items.length + 2 * x.m.senders.length + x.m.getters.length + 1

theorem nxChan_le (c : Nat) (x : ChanH) (h : Chan.small20 x.m) : nxChan c x ≤ c + 8388608 := by
  unfold Chan.small20 at h
  unfold nxChan
  omega

set_option maxHeartbeats 16000000 in
set_option maxRecDepth 100000 in
theorem markChanS_c (h : Sl) (xs : List ChanH) (k : Nat) (w : World) (hh : AtG w [fO (chansO h xs)] []) (hl : xs.length ≤ 1048576) (hb : ∀ x ∈ xs, Chan.small20 x.m) (hk : k ≤ 144115188075855872) :
    Calls Tryz.prog 88 #[h.val xs.length, .int .i64 (k : Int)] w (RetG w [fO (chansO h xs)] fun v L => v = .int .i64 ((nxL nxChan k xs : Nat) : Int) ∧ L = [fO (chansO h (mkL mkChan nxChan k xs))]) := by
  refine callsG_fn Tryz.func88 rfl tabOk w _ rfl _ rfl _ _ hh trivial _ _ rfl rfl ?_
  refine LoopW.mk ⟨{ p : List ChanH × List ChanH × Nat // mkL mkChan nxChan k xs = p.1 ++ mkL mkChan nxChan p.2.2 p.2.1 ∧ nxL nxChan k xs = nxL nxChan p.2.2 p.2.1 ∧ p.1.length + p.2.1.length = xs.length ∧ (∀ x ∈ p.2.1, Chan.small20 x.m) ∧ p.2.2 + p.2.1.length * 8388608 ≤ 288230376151711744 },
    fun p => .mk [(0, .v (h.val (p.1.1 ++ p.1.2.1).length)), (1, .v (.int .i64 (p.1.2.2 : Int))), (5, .v (.int .i64 (p.1.1.length : Int)))] 0 0 [] [] [own h 119 cChanH 5 (p.1.1 ++ p.1.2.1), fO ((p.1.1 ++ p.1.2.1).flatMap chanO)],
    fun p => p.1.2.1.length, ⟨([], xs, k), by simp, rfl, by simp, hb, by simp only; omega⟩, ?_, ?_⟩
  · refine weak_shift (.splitO 0 (L := [own h 119 cChanH 5 xs]) (G' := xs.flatMap chanO) rfl (.of_eq rfl)) ?_
    refine weak_mk [0, 1] ?_ ?_ ?_ ?_ ?_ rfl rfl
    · repeat (first | exact trivial | refine ⟨⟨_, rfl, (by first | exact .of rfl | exact .lit rfl | exact .of (by first | (rfl)) | exact .lit (by first | (rfl))), (by first | exact trivial | exact Nat.le_of_ble_eq_true rfl | exact small1 rfl)⟩, ?_⟩)
    · repeat (first | exact trivial | refine ⟨⟨(by first | exact .head _ | exact .tail _ (.head _) | exact .tail _ (.tail _ (.head _)) | exact .tail _ (.tail _ (.tail _ (.head _))) | exact .tail _ (.tail _ (.tail _ (.tail _ (.head _)))) | exact .tail _ (.tail _ (.tail _ (.tail _ (.tail _ (.head _))))) | exact .tail _ (.tail _ (.tail _ (.tail _ (.tail _ (.tail _ (.head _)))))) | exact .tail _ (.tail _ (.tail _ (.tail _ (.tail _ (.tail _ (.tail _ (.head _))))))) | exact .tail _ (.tail _ (.tail _ (.tail _ (.tail _ (.tail _ (.tail _ (.tail _ (.head _)))))))) | exact .tail _ (.tail _ (.tail _ (.tail _ (.tail _ (.tail _ (.tail _ (.tail _ (.tail _ (.head _)))))))))), Nat.le_of_ble_eq_true rfl⟩, ?_⟩)
    · repeat (first | exact trivial | refine ⟨⟨_, rfl, (by first | exact .of rfl | exact .lit rfl | exact .of (by first | (rfl)) | exact .lit (by first | (rfl))), (by first | exact trivial | exact Nat.le_of_ble_eq_true rfl | exact small1 rfl)⟩, ?_⟩)
    · repeat (first | exact trivial | refine ⟨⟨_, rfl⟩, ?_⟩)
    · repeat (first | exact trivial | refine ⟨.inl ⟨_, rfl, (by first | rfl | (rfl))⟩, ?_⟩ | refine ⟨.inr ⟨Nat.le_of_ble_eq_true rfl, rfl, rfl, rfl, rfl⟩, ?_⟩)
  rintro ⟨⟨ys, zs, c⟩, i1, i2, i3, i4, i5⟩
  simp only at i1 i2 i3 i4 i5
  refine CaseB.mk (fun g => ?_) (fun g => ?_)
  · cases zs with
    | nil => simp at g
    | cons x zs =>
      simp only [List.length_cons] at i3 i5
      have hx := i4 x (by simp)
      have hnx := nxChan_le c x hx
      unfold Chan.small20 at hx
      have hlt : ∀ y : ChanH, ys.length < (ys ++ y :: zs).length := fun y => by simp
      refine stop_idxW encChanH 0 tabOk rfl rfl rfl rfl rfl ⟨rfl, rfl⟩ rfl (by first | rfl | (simp; done)) ys.length rfl (hlt _) (fun g0 hg0 => ?_)
      refine stop_fldW tabOk rfl rfl rfl rfl ⟨rfl, rfl⟩ ?_
      refine stop_storeW encChanH 0 tabOk rfl rfl rfl rfl rfl rfl rfl rfl hg0 ys.length 0 (⟨⟨((c : Nat) : Int), x.m.items, x.m.senders, x.m.getters, x.m.closed⟩, x.q0, x.q1, x.q2⟩ : ChanH) rfl (hlt _) rfl [.int .i64 ((c : Nat) : Int)] (fun _ => rfl) (by simp [cChanH]) ?_
      rw [app_set]
      have hw1 : IntKind.i64.wrap (((c : Nat) : Int) + 1) = ((c + 1 : Nat) : Int) := e_succ (c) (c + 1) (by omega) (by omega)
      refine stop_eq 1 rfl (congrArg (Value.int .i64) hw1) ?_
      refine stop_idx encChanH (xs := ys ++ (⟨⟨((c : Nat) : Int), x.m.items, x.m.senders, x.m.getters, x.m.closed⟩, x.q0, x.q1, x.q2⟩ : ChanH) :: zs) tabOk rfl (Eq.trans rfl (congrArg (fun n => some (SV.v (h.val n))) (by simp))) rfl rfl rfl ⟨rfl, rfl⟩ (rdOwnAt 0 rfl) ys.length rfl (hlt _) (fun ad1 => ?_)
      rw [app_get]
      refine stop_shift (.splitO 1 (L := chanO x) (G' := (ys ++ zs).flatMap chanO) rfl (perm_out chanO ys zs x)) ?_
      refine stop_callG _ [0] (G := [_]) cl37 rfl rfl rfl rfl ⟨rfl, rfl⟩ ⟨rfl, trivial⟩ ⟨rfl, rfl, trivial⟩ (fun A w hW => (markIntS_c _ _ (c + 1) w (hW.atG [0] (G := [_]) ⟨rfl, trivial⟩ rfl ⟨rfl, rfl, trivial⟩ [] (Fo := []) trivial rfl) (by first | omega | (simp only; omega)) (by omega))) ?_
      rintro v L ⟨rfl, rfl⟩
      refine stop_idx encChanH (xs := ys ++ (⟨⟨((c : Nat) : Int), x.m.items, x.m.senders, x.m.getters, x.m.closed⟩, x.q0, x.q1, x.q2⟩ : ChanH) :: zs) tabOk rfl (Eq.trans rfl (congrArg (fun n => some (SV.v (h.val n))) (by simp))) rfl rfl rfl ⟨rfl, rfl⟩ (rdOwnAt 4 rfl) ys.length rfl (hlt _) (fun ad2 => ?_)
      rw [app_get]
      refine stop_callG _ [1] (G := [_]) cl154 rfl rfl rfl rfl ⟨rfl, rfl⟩ ⟨rfl, trivial⟩ ⟨rfl, rfl, trivial⟩ (fun A w hW => (markLetterS_c _ _ (c + 1 + x.m.items.length) w (hW.atG [1] (G := [_]) ⟨rfl, trivial⟩ rfl ⟨rfl, rfl, trivial⟩ [] (Fo := []) trivial rfl) (by first | omega | (simp only; omega)) (by omega))) ?_
      rintro v L ⟨rfl, rfl⟩
      refine stop_idx encChanH (xs := ys ++ (⟨⟨((c : Nat) : Int), x.m.items, x.m.senders, x.m.getters, x.m.closed⟩, x.q0, x.q1, x.q2⟩ : ChanH) :: zs) tabOk rfl (Eq.trans rfl (congrArg (fun n => some (SV.v (h.val n))) (by simp))) rfl rfl rfl ⟨rfl, rfl⟩ (rdOwnAt 4 rfl) ys.length rfl (hlt _) (fun ad3 => ?_)
      rw [app_get]
      refine stop_callG _ [2] (G := [_]) cl37 rfl rfl rfl rfl ⟨rfl, rfl⟩ ⟨rfl, trivial⟩ ⟨rfl, rfl, trivial⟩ (fun A w hW => (markIntS_c _ _ (c + 1 + x.m.items.length + 2 * x.m.senders.length) w (hW.atG [2] (G := [_]) ⟨rfl, trivial⟩ rfl ⟨rfl, rfl, trivial⟩ [] (Fo := []) trivial rfl) (by first | omega | (simp only; omega)) (by omega))) ?_
      rintro v L ⟨rfl, rfl⟩
      refine stop_bin rfl rfl rfl ⟨rfl, rfl⟩ (.int .i64 ((((c + 1 + x.m.items.length + 2 * x.m.senders.length + x.m.getters.length) % 3 : Nat) : Int))) (fun w => eqGuard_int w) (fun w => rem_run (by decide) (by rw [Int.tmod_eq_emod_of_nonneg (by omega)]; first | omega | (simp only; omega)) w) ?_
      refine stop_idxW encChanH 4 tabOk rfl rfl rfl rfl rfl ⟨rfl, rfl⟩ rfl (by first | rfl | (simp; done)) ys.length rfl (hlt _) (fun g4 hg4 => ?_)
      refine stop_fldW tabOk rfl rfl rfl rfl ⟨rfl, rfl⟩ ?_
      refine stop_storeW encChanH 4 tabOk rfl rfl rfl rfl rfl rfl rfl rfl hg4 ys.length 4 (⟨⟨((c : Nat) : Int), x.m.items, x.m.senders, x.m.getters, ((((c + 1 + x.m.items.length + 2 * x.m.senders.length + x.m.getters.length) % 3 : Nat) : Int) == 0)⟩, x.q0, x.q1, x.q2⟩ : ChanH) rfl (hlt _) rfl [.bool ((((c + 1 + x.m.items.length + 2 * x.m.senders.length + x.m.getters.length) % 3 : Nat) : Int) == 0)] (fun _ => rfl) (by simp [cChanH]) ?_
      rw [app_set]
      have hw2 : IntKind.i64.wrap (((c + 1 + x.m.items.length + 2 * x.m.senders.length + x.m.getters.length : Nat) : Int) + 1) = ((c + 1 + x.m.items.length + 2 * x.m.senders.length + x.m.getters.length + 1 : Nat) : Int) := e_succ (c + 1 + x.m.items.length + 2 * x.m.senders.length + x.m.getters.length) (c + 1 + x.m.items.length + 2 * x.m.senders.length + x.m.getters.length + 1) (by omega) (by omega)
      have hwj := e_succ ys.length xs.length (by omega) (by omega)
      have hz : nxChan c x = c + 1 + x.m.items.length + 2 * x.m.senders.length + x.m.getters.length + 1 := rfl
      generalize hzz : mkChan c x = z
      have hwj2 : IntKind.i64.wrap ((ys.length : Int) + 1) = (((ys ++ [z]).length : Nat) : Int) := by rw [hwj]; simp
      have hl0 : h.val (ys ++ x :: zs).length = h.val ((ys ++ [z]) ++ zs).length := congrArg h.val (by simp)
      have hrow : own h 119 cChanH 5 (ys ++ (⟨⟨((c : Nat) : Int), x.m.items, x.m.senders, x.m.getters, ((((c + 1 + x.m.items.length + 2 * x.m.senders.length + x.m.getters.length) % 3 : Nat) : Int) == 0)⟩, x.q0, x.q1, x.q2⟩ : ChanH) :: zs) = own h 119 cChanH 5 ((ys ++ [z]) ++ zs) := by
        subst hzz
        have e1 : cells cChanH (ys ++ (⟨⟨((c : Nat) : Int), x.m.items, x.m.senders, x.m.getters, ((((c + 1 + x.m.items.length + 2 * x.m.senders.length + x.m.getters.length) % 3 : Nat) : Int) == 0)⟩, x.q0, x.q1, x.q2⟩ : ChanH) :: zs) = cells cChanH ((ys ++ [mkChan c x]) ++ zs) := by simp [cells, cChanH, mkChan, marks_len, marksLetter_len]
        have e2 : (ys ++ (⟨⟨((c : Nat) : Int), x.m.items, x.m.senders, x.m.getters, ((((c + 1 + x.m.items.length + 2 * x.m.senders.length + x.m.getters.length) % 3 : Nat) : Int) == 0)⟩, x.q0, x.q1, x.q2⟩ : ChanH) :: zs).length = ((ys ++ [mkChan c x]) ++ zs).length := by simp
        rw [own_eq e1 e2]
      refine ⟨⟨(ys ++ [z], zs, nxChan c x), by rw [i1, ← hzz]; simp [mkL], by rw [i2]; rfl, by simp; omega, fun y hy => i4 y (by simp [hy]), by simp only; omega⟩, ?_, by simp⟩
      refine weak_shift (.joinO [3, 2, 1, 4] (Gs := [[_], [_], [_], _]) ⟨.inl ⟨_, rfl, .own⟩, .inl ⟨_, rfl, .own⟩, .inl ⟨_, rfl, .own⟩, .inl ⟨_, rfl, .o⟩, trivial⟩ rfl (G := ((ys ++ [z]) ++ zs).flatMap chanO) (.trans (.of_eq (by rw [← hzz]; simp [chanO, mkChan])) (perm_in chanO ys zs z))) ?_
      refine weak_mk [1, 0] ?_ ?_ ?_ ?_ ?_ rfl rfl
      · repeat (first | exact trivial | refine ⟨⟨_, rfl, (by first | exact .of rfl | exact .lit rfl | exact .of (by first | ((first | exact hrow | exact congrArg SV.v hl0 | exact congrArg (fun z => SV.v (Value.int .i64 z)) hwj2 | exact congrArg (fun z => SV.v (Value.int .i64 z)) hw2))) | exact .lit (by first | ((first | exact hrow | exact congrArg SV.v hl0 | exact congrArg (fun z => SV.v (Value.int .i64 z)) hwj2 | exact congrArg (fun z => SV.v (Value.int .i64 z)) hw2)))), (by first | exact trivial | exact Nat.le_of_ble_eq_true rfl | exact small1 rfl)⟩, ?_⟩)
      · repeat (first | exact trivial | refine ⟨⟨(by first | exact .head _ | exact .tail _ (.head _) | exact .tail _ (.tail _ (.head _)) | exact .tail _ (.tail _ (.tail _ (.head _))) | exact .tail _ (.tail _ (.tail _ (.tail _ (.head _)))) | exact .tail _ (.tail _ (.tail _ (.tail _ (.tail _ (.head _))))) | exact .tail _ (.tail _ (.tail _ (.tail _ (.tail _ (.tail _ (.head _)))))) | exact .tail _ (.tail _ (.tail _ (.tail _ (.tail _ (.tail _ (.tail _ (.head _))))))) | exact .tail _ (.tail _ (.tail _ (.tail _ (.tail _ (.tail _ (.tail _ (.tail _ (.head _)))))))) | exact .tail _ (.tail _ (.tail _ (.tail _ (.tail _ (.tail _ (.tail _ (.tail _ (.tail _ (.head _)))))))))), Nat.le_of_ble_eq_true rfl⟩, ?_⟩)
      · repeat (first | exact trivial | refine ⟨⟨_, rfl, (by first | exact .of rfl | exact .lit rfl | exact .of (by first | ((first | exact hrow | exact congrArg SV.v hl0 | exact congrArg (fun z => SV.v (Value.int .i64 z)) hwj2 | exact congrArg (fun z => SV.v (Value.int .i64 z)) hw2))) | exact .lit (by first | ((first | exact hrow | exact congrArg SV.v hl0 | exact congrArg (fun z => SV.v (Value.int .i64 z)) hwj2 | exact congrArg (fun z => SV.v (Value.int .i64 z)) hw2)))), (by first | exact trivial | exact Nat.le_of_ble_eq_true rfl | exact small1 rfl)⟩, ?_⟩)
      · repeat (first | exact trivial | refine ⟨⟨_, rfl⟩, ?_⟩)
      · repeat (first | exact trivial | refine ⟨.inl ⟨_, rfl, (by first | rfl | ((first | exact hrow | exact congrArg SV.v hl0 | exact congrArg (fun z => SV.v (Value.int .i64 z)) hwj2 | exact congrArg (fun z => SV.v (Value.int .i64 z)) hw2)))⟩, ?_⟩ | refine ⟨.inr ⟨Nat.le_of_ble_eq_true rfl, rfl, rfl, rfl, rfl⟩, ?_⟩)
  · cases zs with
    | nil =>
      simp only [mkL, List.append_nil] at i1
      simp only [nxL] at i2
      have hyl : ys.length = xs.length := by simpa using i3
      simp only [List.append_nil]
      refine retG_shift (.joinO [0, 1] (Gs := [[_], _]) ⟨.inl ⟨_, rfl, .own⟩, .inl ⟨_, rfl, .o⟩, trivial⟩ rfl (G := chansO h ys) (.of_eq (by simp [chansO, nestO]))) ?_
      exact retG [0] (L := [fO (chansO h ys)]) ⟨congrArg (fun z : Nat => Value.int .i64 (z : Int)) i2.symm, by rw [i1]⟩ ⟨.inl ⟨_, rfl, rfl⟩, trivial⟩ rfl ⟨rfl, trivial⟩ (fun _ => rfl)
    | cons x zs => simp at g; omega

end Go.Proofs.YtklclbcckjhdpaaGreat

namespace Go.Proofs.YtklclbcckjhdpaaGreat

open Go Go.Sx Go.RowKit

def atState0 (k : Nat) (s : StateH) : Nat := k + s.places.length

def atState1 (k : Nat) (s : StateH) : Nat := (atState0 k s) + s.status.length

def atState2 (k : Nat) (s : StateH) : Nat := nxL nxSem (atState1 k s) s.sems

def atState3 (k : Nat) (s : StateH) : Nat := nxL nxOnce (atState2 k s) s.onces

def atState4 (k : Nat) (s : StateH) : Nat := nxL nxGroup (atState3 k s) s.groups

def atState5 (k : Nat) (s : StateH) : Nat := nxL nxBarrier (atState4 k s) s.barriers

def atState6 (k : Nat) (s : StateH) : Nat := nxL nxChan (atState5 k s) s.chans

def atState7 (k : Nat) (s : StateH) : Nat := (atState6 k s) + s.said.length

def mkState (k : Nat) (s : StateH) : StateH := { s with places := marks (k) s.places.length, status := marks (atState0 k s) s.status.length, sems := mkL mkSem nxSem (atState1 k s) s.sems, onces := mkL mkOnce nxOnce (atState2 k s) s.onces, groups := mkL mkGroup nxGroup (atState3 k s) s.groups, barriers := mkL mkBarrier nxBarrier (atState4 k s) s.barriers, chans := mkL mkChan nxChan (atState5 k s) s.chans, said := marks (atState6 k s) s.said.length }

set_option maxHeartbeats 16000000 in
set_option maxRecDepth 100000 in
theorem markState_c (s : StateH) (k : Nat) (w : World) (hh : AtG w [fO (stateO s)] []) (hb : s.pure.small20) (hk : k ≤ 36028797018963968) :
    Calls Tryz.prog 21 #[stateV s, .int .i64 (k : Int)] w (RetG w [fO (stateO s)] fun v L => v = .int .i64 ((atState7 k s : Nat) : Int) ∧ L = [fO (stateO (mkState k s))]) := by
  obtain ⟨b0, b1, b2, b3, b4, b5, b6, b7⟩ := hb
  have t0 : atState0 k s = k + s.places.length := rfl
  have t1 : atState1 k s = atState0 k s + s.status.length := rfl
  have t2 : atState2 k s ≤ atState1 k s + s.sems.length * 8388608 := nxL_le (P := fun x => Sem.small20 x.m) (fun c x h => nxSem_le c x h) _ _ (allS_map b2).2
  have t3 : atState3 k s ≤ atState2 k s + s.onces.length * 8388608 := nxL_le (P := fun x => Once.small20 x.m) (fun c x h => nxOnce_le c x h) _ _ (allS_map b3).2
  have t4 : atState4 k s ≤ atState3 k s + s.groups.length * 8388608 := nxL_le (P := fun x => Group.small20 x.m) (fun c x h => nxGroup_le c x h) _ _ (allS_map b4).2
  have t5 : atState5 k s ≤ atState4 k s + s.barriers.length * 8388608 := nxL_le (P := fun x => Barrier.small20 x.m) (fun c x h => nxBarrier_le c x h) _ _ (allS_map b5).2
  have t6 : atState6 k s ≤ atState5 k s + s.chans.length * 8388608 := nxL_le (P := fun x => Chan.small20 x.m) (fun c x h => nxChan_le c x h) _ _ (allS_map b6).2
  have t7 : atState7 k s = atState6 k s + s.said.length := rfl
  have s0 : s.places.length ≤ 1048576 := b0
  have s1 : s.status.length ≤ 1048576 := b1
  have s2 := (allS_map b2).1
  have s3 := (allS_map b3).1
  have s4 := (allS_map b4).1
  have s5 := (allS_map b5).1
  have s6 := (allS_map b6).1
  have s7 : s.said.length ≤ 1048576 := b7
  refine callsG_fn Tryz.func21 rfl tabOk w _ rfl _ rfl _ _ hh trivial _ _ rfl rfl ?_
  refine stop_shift (.splitO 0 (L := [own s.h0 3 cInt 1 s.places, own s.h1 3 cInt 1 s.status, own s.h7 3 cInt 1 s.said]) (G' := semsO s.h2 s.sems ++ oncesO s.h3 s.onces ++ groupsO s.h4 s.groups ++ barriersO s.h5 s.barriers ++ chansO s.h6 s.chans) rfl ?_) ?_
  · refine List.Perm.cons _ (List.Perm.cons _ ?_)
    rw [show ∀ (a b c d e : List Fct) (x : Fct), a ++ (b ++ (c ++ (d ++ (e ++ [x])))) = (a ++ b ++ c ++ d ++ e) ++ [x] from fun a b c d e x => by simp]
    exact List.perm_append_comm
  refine stop_shift (.splitOO 3 [semsO s.h2 s.sems, oncesO s.h3 s.onces, groupsO s.h4 s.groups, barriersO s.h5 s.barriers, chansO s.h6 s.chans] rfl (.of_eq (by simp))) ?_
  refine stop_callG _ [5] (G := [_]) cl37 rfl rfl rfl rfl ⟨rfl, rfl⟩ ⟨rfl, trivial⟩ ⟨rfl, rfl, trivial⟩ (fun A w hW => (markIntS_c s.h0 s.places (k) w (hW.atG [5] (G := [_]) ⟨rfl, trivial⟩ rfl ⟨rfl, rfl, trivial⟩ [] (Fo := []) trivial rfl) (Nat.le_trans b0 (by decide)) (by omega))) ?_
  rintro v L ⟨rfl, rfl⟩
  refine stop_callG _ [6] (G := [_]) cl37 rfl rfl rfl rfl ⟨rfl, rfl⟩ ⟨rfl, trivial⟩ ⟨rfl, rfl, trivial⟩ (fun A w hW => (markIntS_c s.h1 s.status (atState0 k s) w (hW.atG [6] (G := [_]) ⟨rfl, trivial⟩ rfl ⟨rfl, rfl, trivial⟩ [] (Fo := []) trivial rfl) (Nat.le_trans b1 (by decide)) (by omega))) ?_
  rintro v L ⟨rfl, rfl⟩
  refine stop_callG _ [2] (G := [_]) cl84 rfl rfl rfl rfl ⟨rfl, rfl⟩ ⟨rfl, trivial⟩ ⟨rfl, rfl, trivial⟩ (fun A w hW => (markSemS_c s.h2 s.sems (atState1 k s) w (hW.atG [2] (G := [_]) ⟨rfl, trivial⟩ rfl ⟨rfl, rfl, trivial⟩ [] (Fo := []) trivial rfl) (allS_map b2).1 (allS_map b2).2 (by omega))) ?_
  rintro v L ⟨rfl, rfl⟩
  refine stop_callG _ [3] (G := [_]) cl85 rfl rfl rfl rfl ⟨rfl, rfl⟩ ⟨rfl, trivial⟩ ⟨rfl, rfl, trivial⟩ (fun A w hW => (markOnceS_c s.h3 s.onces (atState2 k s) w (hW.atG [3] (G := [_]) ⟨rfl, trivial⟩ rfl ⟨rfl, rfl, trivial⟩ [] (Fo := []) trivial rfl) (allS_map b3).1 (allS_map b3).2 (by omega))) ?_
  rintro v L ⟨rfl, rfl⟩
  refine stop_callG _ [4] (G := [_]) cl86 rfl rfl rfl rfl ⟨rfl, rfl⟩ ⟨rfl, trivial⟩ ⟨rfl, rfl, trivial⟩ (fun A w hW => (markGroupS_c s.h4 s.groups (atState3 k s) w (hW.atG [4] (G := [_]) ⟨rfl, trivial⟩ rfl ⟨rfl, rfl, trivial⟩ [] (Fo := []) trivial rfl) (allS_map b4).1 (allS_map b4).2 (by omega))) ?_
  rintro v L ⟨rfl, rfl⟩
  refine stop_callG _ [5] (G := [_]) cl87 rfl rfl rfl rfl ⟨rfl, rfl⟩ ⟨rfl, trivial⟩ ⟨rfl, rfl, trivial⟩ (fun A w hW => (markBarrierS_c s.h5 s.barriers (atState4 k s) w (hW.atG [5] (G := [_]) ⟨rfl, trivial⟩ rfl ⟨rfl, rfl, trivial⟩ [] (Fo := []) trivial rfl) (allS_map b5).1 (allS_map b5).2 (by omega))) ?_
  rintro v L ⟨rfl, rfl⟩
  refine stop_callG _ [6] (G := [_]) cl88 rfl rfl rfl rfl ⟨rfl, rfl⟩ ⟨rfl, trivial⟩ ⟨rfl, rfl, trivial⟩ (fun A w hW => (markChanS_c s.h6 s.chans (atState5 k s) w (hW.atG [6] (G := [_]) ⟨rfl, trivial⟩ rfl ⟨rfl, rfl, trivial⟩ [] (Fo := []) trivial rfl) (allS_map b6).1 (allS_map b6).2 (by omega))) ?_
  rintro v L ⟨rfl, rfl⟩
  refine stop_callG _ [7] (G := [_]) cl37 rfl rfl rfl rfl ⟨rfl, rfl⟩ ⟨rfl, trivial⟩ ⟨rfl, rfl, trivial⟩ (fun A w hW => (markIntS_c s.h7 s.said (atState6 k s) w (hW.atG [7] (G := [_]) ⟨rfl, trivial⟩ rfl ⟨rfl, rfl, trivial⟩ [] (Fo := []) trivial rfl) (Nat.le_trans b7 (by decide)) (by omega))) ?_
  rintro v L ⟨rfl, rfl⟩
  refine retG_shift (.joinO [7, 6, 5, 4, 3, 2, 1, 0] (Gs := [[_], [_], _, _, _, _, _, [_]]) ⟨.inl ⟨_, rfl, .own⟩, .inl ⟨_, rfl, .own⟩, .inl ⟨_, rfl, .o⟩, .inl ⟨_, rfl, .o⟩, .inl ⟨_, rfl, .o⟩, .inl ⟨_, rfl, .o⟩, .inl ⟨_, rfl, .o⟩, .inl ⟨_, rfl, .own⟩, trivial⟩ rfl (G := stateO (mkState k s)) (.of_eq (by simp [stateO, mkState]))) ?_
  exact retG [0] ⟨rfl, rfl⟩ ⟨.inl ⟨_, rfl, rfl⟩, trivial⟩ rfl ⟨rfl, trivial⟩ (fun _ => rfl)

end Go.Proofs.YtklclbcckjhdpaaGreat

namespace Go.Proofs.YtklclbcckjhdpaaGreat

open Go Go.Sx Go.RowKit

theorem atProg4_le (s : ProgH) (k : Nat) (hb : s.pure.small20) : atProg4 k s ≤ k + 4194304 + 8796093022208 := by
  obtain ⟨b0, b1, b2, b3, b4⟩ := hb
  have t0 : atProg0 k s = k + s.sems.length := rfl
  have t1 : atProg1 k s = atProg0 k s + s.groups.length := rfl
  have t2 : atProg2 k s = atProg1 k s + s.barriers.length := rfl
  have t3 : atProg3 k s = atProg2 k s + s.rooms.length := rfl
  have t4 : atProg4 k s ≤ atProg3 k s + s.threads.length * 8388608 := nxL_le (P := fun x => OpS.small20 x.m) (fun c x h => nxOpS_le c x h) _ _ (allS_map b4).2
  have s0 : s.sems.length ≤ 1048576 := b0
  have s1 : s.groups.length ≤ 1048576 := b1
  have s2 : s.barriers.length ≤ 1048576 := b2
  have s3 : s.rooms.length ≤ 1048576 := b3
  have s4 := (allS_map b4).1
  omega

/-- What ReadyThreads answers is told by the program and the state alone. -/
theorem readyAns_one (p : Prog) (s : State) (hs : s.small20) : ∃ A : List Int, A.length ≤ 1048576 ∧ ∀ xs : List Int, (Fits p s → xs = readyM s) → (¬ Fits p s → xs = []) → xs = A := by
  by_cases h : Fits p s
  · refine ⟨readyM s, ?_, fun xs h1 _ => h1 h⟩
    have h2 : s.status.length ≤ 1048576 := hs.2.1
    rw [readyM]
    split
    · exact Nat.le_trans (readyL_len _) h2
    · simp
  · exact ⟨[], by simp, fun xs _ h2 => h2 h⟩

set_option maxHeartbeats 16000000 in
set_option maxRecDepth 100000 in
theorem exactReadyThreads_c (p : ProgH) (s : StateH) (w : World) (h : At w [fR (progO p), fR (stateO s)]) :
    Calls Tryz.prog 9 #[progV p, stateV s] w (Ret w fun v L => v = .bool true ∧ L = []) := by
  refine calls2 Tryz.func9 rfl tabOk w _ rfl _ rfl _ h ⟨rfl, rfl, rfl, rfl, trivial⟩ _ _ (by decide) ?_
  refine stop_call _ cl12 rfl rfl rfl rfl ⟨rfl, rfl⟩ (fun A w hW => ret_abs (szProg_c p 1048576 w ⟨hW.get 0 rfl (.refl _), trivial⟩ (by omega) (by omega))) ?_
  rintro v L ⟨l0, e0, rfl, rfl⟩
  refine CaseB.mk (fun _ => ?_) (fun hz => ?_)
  · exact retw [] ⟨rfl, rfl⟩ trivial rfl trivial (fun _ => rfl)
  have hz0 : ¬ l0 < 0 := by simpa using hz
  obtain ⟨ha, hl⟩ := szProgM_gen p.pure 1048576 (by omega) (by rw [← e0]; exact hz0)
  rw [← e0] at hl
  refine stop_call _ cl13 rfl rfl rfl rfl ⟨rfl, rfl⟩ (fun A w hW => ret_abs (szState_c s l0 w ⟨hW.get 1 rfl (.refl _), trivial⟩ (by omega) hl)) ?_
  rintro v L ⟨l1, e1, rfl, rfl⟩
  refine CaseB.mk (fun _ => ?_) (fun hz => ?_)
  · exact retw [] ⟨rfl, rfl⟩ trivial rfl trivial (fun _ => rfl)
  have hz1 : ¬ l1 < 0 := by simpa using hz
  obtain ⟨hb, _⟩ := szStateM_gen s.pure l0 hl (by rw [← e1]; exact hz1)
  obtain ⟨A, hA, one⟩ := readyAns_one p.pure s.pure hb
  refine draw_start tabOk (by kernel_rfl) (by kernel_rfl) (by kernel_rfl) 200 [((0, 0), .v (p.h0.val p.sems.length)), ((0, 1), .v (p.h1.val p.groups.length)), ((0, 2), .v (p.h2.val p.barriers.length)), ((0, 3), .v (p.h3.val p.rooms.length)), ((0, 4), .v (p.h4.val p.threads.length)), ((1, 0), .v (s.h0.val s.places.length)), ((1, 1), .v (s.h1.val s.status.length)), ((1, 2), .v (s.h2.val s.sems.length)), ((1, 3), .v (s.h3.val s.onces.length)), ((1, 4), .v (s.h4.val s.groups.length)), ((1, 5), .v (s.h5.val s.barriers.length)), ((1, 6), .v (s.h6.val s.chans.length)), ((1, 7), .v (s.h7.val s.said.length)), ((1, 8), .v (.int .i64 s.fault))] [0, 1] [_, _] ⟨⟨_, rfl, rfl, (by first | exact trivial | exact Nat.le_of_ble_eq_true rfl)⟩, ⟨_, rfl, rfl, (by first | exact trivial | exact Nat.le_of_ble_eq_true rfl)⟩, ⟨_, rfl, rfl, (by first | exact trivial | exact Nat.le_of_ble_eq_true rfl)⟩, ⟨_, rfl, rfl, (by first | exact trivial | exact Nat.le_of_ble_eq_true rfl)⟩, ⟨_, rfl, rfl, (by first | exact trivial | exact Nat.le_of_ble_eq_true rfl)⟩, ⟨_, rfl, rfl, (by first | exact trivial | exact Nat.le_of_ble_eq_true rfl)⟩, ⟨_, rfl, rfl, (by first | exact trivial | exact Nat.le_of_ble_eq_true rfl)⟩, ⟨_, rfl, rfl, (by first | exact trivial | exact Nat.le_of_ble_eq_true rfl)⟩, ⟨_, rfl, rfl, (by first | exact trivial | exact Nat.le_of_ble_eq_true rfl)⟩, ⟨_, rfl, rfl, (by first | exact trivial | exact Nat.le_of_ble_eq_true rfl)⟩, ⟨_, rfl, rfl, (by first | exact trivial | exact Nat.le_of_ble_eq_true rfl)⟩, ⟨_, rfl, rfl, (by first | exact trivial | exact Nat.le_of_ble_eq_true rfl)⟩, ⟨_, rfl, rfl, (by first | exact trivial | exact Nat.le_of_ble_eq_true rfl)⟩, ⟨_, rfl, rfl, (by first | exact trivial | exact Nat.le_of_ble_eq_true rfl)⟩, trivial⟩ ⟨⟨_, rfl⟩, ⟨_, rfl⟩, ⟨_, rfl⟩, ⟨_, rfl⟩, ⟨_, rfl⟩, ⟨_, rfl⟩, ⟨_, rfl⟩, ⟨_, rfl⟩, ⟨_, rfl⟩, ⟨_, rfl⟩, ⟨_, rfl⟩, ⟨_, rfl⟩, ⟨_, rfl⟩, ⟨_, rfl⟩, trivial⟩ ⟨rfl, rfl, trivial⟩ rfl ?_
  refine d_call _ cl15 rfl rfl rfl rfl ⟨rfl, rfl⟩ (fun A w hW => toProg_c p w ⟨hW.get 0 rfl (.refl _), trivial⟩ ha) ?_
  rintro v L ⟨y0, rfl, p0, rfl⟩
  refine d_call _ cl16 rfl rfl rfl rfl ⟨rfl, rfl⟩ (fun A w hW => toState_c s w ⟨hW.get 2 rfl (.refl _), trivial⟩ hb) ?_
  rintro v L ⟨y1, rfl, p1, rfl⟩
  refine d_call _ cl34 rfl rfl rfl rfl ⟨rfl, rfl⟩ (fun A w hW => readyThreadsS_c y0 y1 w ⟨hW.get 1 rfl (.O_R fun _ h => h), hW.get 0 rfl (.O_R fun _ h => h), trivial⟩ (by rw [p0]; exact ha) (by rw [p1]; exact hb)) ?_
  rintro v L ⟨yw, B, rfl, i1, i2, rfl⟩
  rw [p0, p1] at i1 i2
  obtain rfl := one B i1 i2
  refine stop_call _ cl15 rfl rfl rfl rfl ⟨rfl, rfl⟩ (fun A w hW => toProg_c p w ⟨hW.get 3 rfl (.refl _), trivial⟩ ha) ?_
  rintro v L ⟨x0, rfl, q0, rfl⟩
  refine stop_call _ cl16 rfl rfl rfl rfl ⟨rfl, rfl⟩ (fun A w hW => toState_c s w ⟨hW.get 5 rfl (.refl _), trivial⟩ hb) ?_
  rintro v L ⟨x1, rfl, q1, rfl⟩
  refine stop_call _ cl35 rfl rfl rfl rfl ⟨rfl, rfl⟩ (fun A w hW => readyThreads_c x0 x1 w ⟨hW.get 1 rfl (.O_R fun _ h => h), hW.get 0 rfl (.O_R fun _ h => h), trivial⟩ (by rw [q0]; exact ha) (by rw [q1]; exact hb)) ?_
  rintro v L ⟨yg, C, rfl, j1, j2, rfl⟩
  rw [q0, q1] at j1 j2
  obtain rfl : C = B := one C j1 j2
  clear i1 i2 j1 j2
  refine stop_call _ cl36 rfl rfl rfl rfl ⟨rfl, rfl⟩ (fun A w hW => (eqIntS_c yg yw C C w ⟨hW.rdOwn 0 rfl, hW.rdOwn 3 rfl, trivial⟩ (by omega) (by omega))) ?_
  rintro v L ⟨rfl, rfl⟩
  refine CaseB.mk (fun g => by simp at g) (fun _ => ?_)
  refine draw_start tabOk (by kernel_rfl) (by kernel_rfl) (by kernel_rfl) 200 [((0, 0), .v (p.h0.val p.sems.length)), ((0, 1), .v (p.h1.val p.groups.length)), ((0, 2), .v (p.h2.val p.barriers.length)), ((0, 3), .v (p.h3.val p.rooms.length)), ((0, 4), .v (p.h4.val p.threads.length)), ((2, 0), .v (x0.h0.val x0.sems.length)), ((2, 1), .v (x0.h1.val x0.groups.length)), ((2, 2), .v (x0.h2.val x0.barriers.length)), ((2, 3), .v (x0.h3.val x0.rooms.length)), ((2, 4), .v (x0.h4.val x0.threads.length))] [] [] ⟨⟨_, rfl, rfl, (by first | exact trivial | exact Nat.le_of_ble_eq_true rfl)⟩, ⟨_, rfl, rfl, (by first | exact trivial | exact Nat.le_of_ble_eq_true rfl)⟩, ⟨_, rfl, rfl, (by first | exact trivial | exact Nat.le_of_ble_eq_true rfl)⟩, ⟨_, rfl, rfl, (by first | exact trivial | exact Nat.le_of_ble_eq_true rfl)⟩, ⟨_, rfl, rfl, (by first | exact trivial | exact Nat.le_of_ble_eq_true rfl)⟩, ⟨_, rfl, rfl, (by first | exact trivial | exact Nat.le_of_ble_eq_true rfl)⟩, ⟨_, rfl, rfl, (by first | exact trivial | exact Nat.le_of_ble_eq_true rfl)⟩, ⟨_, rfl, rfl, (by first | exact trivial | exact Nat.le_of_ble_eq_true rfl)⟩, ⟨_, rfl, rfl, (by first | exact trivial | exact Nat.le_of_ble_eq_true rfl)⟩, ⟨_, rfl, rfl, (by first | exact trivial | exact Nat.le_of_ble_eq_true rfl)⟩, trivial⟩ ⟨⟨_, rfl⟩, ⟨_, rfl⟩, ⟨_, rfl⟩, ⟨_, rfl⟩, ⟨_, rfl⟩, ⟨_, rfl⟩, ⟨_, rfl⟩, ⟨_, rfl⟩, ⟨_, rfl⟩, ⟨_, rfl⟩, trivial⟩ trivial rfl ?_
  refine d_call _ cl15 rfl rfl rfl rfl ⟨rfl, rfl⟩ (fun A w hW => toProg_c p w ⟨hW.get 6 rfl (.refl _), trivial⟩ ha) ?_
  rintro v L ⟨z0, rfl, r0, rfl⟩
  refine d_call _ cl19 rfl rfl rfl rfl ⟨rfl, rfl⟩ (fun A w hW => eqProg_c x0 z0 w ⟨hW.get 3 rfl (.O_R fun _ h => h), hW.get 0 rfl (.O_R fun _ h => h), trivial⟩ (by rw [q0]; exact ha) (by rw [r0]; exact ha)) ?_
  rintro v L ⟨rfl, rfl⟩
  refine CaseB.mk (fun g => by simp [q0, r0] at g) (fun _ => ?_)
  refine draw_start tabOk (by kernel_rfl) (by kernel_rfl) (by kernel_rfl) 200 [((1, 0), .v (s.h0.val s.places.length)), ((1, 1), .v (s.h1.val s.status.length)), ((1, 2), .v (s.h2.val s.sems.length)), ((1, 3), .v (s.h3.val s.onces.length)), ((1, 4), .v (s.h4.val s.groups.length)), ((1, 5), .v (s.h5.val s.barriers.length)), ((1, 6), .v (s.h6.val s.chans.length)), ((1, 7), .v (s.h7.val s.said.length)), ((1, 8), .v (.int .i64 s.fault)), ((3, 0), .v (x1.h0.val x1.places.length)), ((3, 1), .v (x1.h1.val x1.status.length)), ((3, 2), .v (x1.h2.val x1.sems.length)), ((3, 3), .v (x1.h3.val x1.onces.length)), ((3, 4), .v (x1.h4.val x1.groups.length)), ((3, 5), .v (x1.h5.val x1.barriers.length)), ((3, 6), .v (x1.h6.val x1.chans.length)), ((3, 7), .v (x1.h7.val x1.said.length)), ((3, 8), .v (.int .i64 x1.fault))] [] [] ⟨⟨_, rfl, rfl, (by first | exact trivial | exact Nat.le_of_ble_eq_true rfl)⟩, ⟨_, rfl, rfl, (by first | exact trivial | exact Nat.le_of_ble_eq_true rfl)⟩, ⟨_, rfl, rfl, (by first | exact trivial | exact Nat.le_of_ble_eq_true rfl)⟩, ⟨_, rfl, rfl, (by first | exact trivial | exact Nat.le_of_ble_eq_true rfl)⟩, ⟨_, rfl, rfl, (by first | exact trivial | exact Nat.le_of_ble_eq_true rfl)⟩, ⟨_, rfl, rfl, (by first | exact trivial | exact Nat.le_of_ble_eq_true rfl)⟩, ⟨_, rfl, rfl, (by first | exact trivial | exact Nat.le_of_ble_eq_true rfl)⟩, ⟨_, rfl, rfl, (by first | exact trivial | exact Nat.le_of_ble_eq_true rfl)⟩, ⟨_, rfl, rfl, (by first | exact trivial | exact Nat.le_of_ble_eq_true rfl)⟩, ⟨_, rfl, rfl, (by first | exact trivial | exact Nat.le_of_ble_eq_true rfl)⟩, ⟨_, rfl, rfl, (by first | exact trivial | exact Nat.le_of_ble_eq_true rfl)⟩, ⟨_, rfl, rfl, (by first | exact trivial | exact Nat.le_of_ble_eq_true rfl)⟩, ⟨_, rfl, rfl, (by first | exact trivial | exact Nat.le_of_ble_eq_true rfl)⟩, ⟨_, rfl, rfl, (by first | exact trivial | exact Nat.le_of_ble_eq_true rfl)⟩, ⟨_, rfl, rfl, (by first | exact trivial | exact Nat.le_of_ble_eq_true rfl)⟩, ⟨_, rfl, rfl, (by first | exact trivial | exact Nat.le_of_ble_eq_true rfl)⟩, ⟨_, rfl, rfl, (by first | exact trivial | exact Nat.le_of_ble_eq_true rfl)⟩, ⟨_, rfl, rfl, (by first | exact trivial | exact Nat.le_of_ble_eq_true rfl)⟩, trivial⟩ ⟨⟨_, rfl⟩, ⟨_, rfl⟩, ⟨_, rfl⟩, ⟨_, rfl⟩, ⟨_, rfl⟩, ⟨_, rfl⟩, ⟨_, rfl⟩, ⟨_, rfl⟩, ⟨_, rfl⟩, ⟨_, rfl⟩, ⟨_, rfl⟩, ⟨_, rfl⟩, ⟨_, rfl⟩, ⟨_, rfl⟩, ⟨_, rfl⟩, ⟨_, rfl⟩, ⟨_, rfl⟩, ⟨_, rfl⟩, trivial⟩ trivial rfl ?_
  refine d_call _ cl16 rfl rfl rfl rfl ⟨rfl, rfl⟩ (fun A w hW => toState_c s w ⟨hW.get 8 rfl (.refl _), trivial⟩ hb) ?_
  rintro v L ⟨z1, rfl, r1, rfl⟩
  refine d_call _ cl18 rfl rfl rfl rfl ⟨rfl, rfl⟩ (fun A w hW => eqState_c x1 z1 w ⟨hW.get 3 rfl (.O_R fun _ h => h), hW.get 0 rfl (.O_R fun _ h => h), trivial⟩ (by rw [q1]; exact hb) (by rw [r1]; exact hb)) ?_
  rintro v L ⟨rfl, rfl⟩
  refine CaseB.mk (fun g => by simp [q1, r1] at g) (fun _ => ?_)
  have hx0 : x0.pure.small20 := by rw [q0]; exact ha
  have hx1 : x1.pure.small20 := by rw [q1]; exact hb
  have hk := atProg4_le x0 1 hx0
  refine stop_callG _ [4] (G := [_]) cl20 rfl rfl rfl rfl ⟨rfl, rfl⟩ ⟨rfl, trivial⟩ ⟨rfl, rfl, trivial⟩ (fun A w hW => (markProg_c x0 1 w (hW.atG [4] (G := [_]) ⟨rfl, trivial⟩ rfl ⟨rfl, rfl, trivial⟩ [] (Fo := []) trivial rfl) hx0 (by decide))) ?_
  rintro v L ⟨rfl, rfl⟩
  generalize atProg4 1 x0 = k0 at hk ⊢
  refine stop_callG _ [4] (G := [_]) cl21 rfl rfl rfl rfl ⟨rfl, rfl⟩ ⟨rfl, trivial⟩ ⟨rfl, rfl, trivial⟩ (fun A w hW => (markState_c x1 k0 w (hW.atG [4] (G := [_]) ⟨rfl, trivial⟩ rfl ⟨rfl, rfl, trivial⟩ [] (Fo := []) trivial rfl) hx1 (by omega))) ?_
  rintro v L ⟨rfl, rfl⟩
  refine CaseB.mk (fun g => by have g' := of_decide_eq_true g; omega) (fun _ => ?_)
  refine stop_call _ cl36 rfl rfl rfl rfl ⟨rfl, rfl⟩ (fun A w hW => (eqIntS_c yg yw C C w ⟨hW.rdOwn 4 rfl, hW.rdOwn 5 rfl, trivial⟩ (by omega) (by omega))) ?_
  rintro v L ⟨rfl, rfl⟩
  refine CaseB.mk (fun g => by simp at g) (fun _ => ?_)
  refine stop_callG _ [4] (G := [_]) cl37 rfl rfl rfl rfl ⟨rfl, rfl⟩ ⟨rfl, trivial⟩ ⟨rfl, rfl, trivial⟩ (fun A w hW => (markIntS_c yg C 1 w (hW.atG [4] (G := [_]) ⟨rfl, trivial⟩ rfl ⟨rfl, rfl, trivial⟩ [] (Fo := []) trivial rfl) (by omega) (by omega))) ?_
  rintro v L ⟨rfl, rfl⟩
  refine stop_call _ cl38 rfl rfl rfl rfl ⟨rfl, rfl⟩ (fun A w hW => (heldIntS_n yg 1 C.length w ⟨hW.rdOwn 0 rfl, trivial⟩ (by omega) (by omega))) ?_
  rintro v L ⟨rfl, rfl⟩
  refine CaseB.mk (fun g => by have g' := of_decide_eq_true g; omega) (fun _ => ?_)
  refine CaseB.mk (fun g => by simp at g) (fun _ => ?_)
  refine draw_start tabOk (by kernel_rfl) (by kernel_rfl) (by kernel_rfl) 200 [((0, 0), .v (p.h0.val p.sems.length)), ((0, 1), .v (p.h1.val p.groups.length)), ((0, 2), .v (p.h2.val p.barriers.length)), ((0, 3), .v (p.h3.val p.rooms.length)), ((0, 4), .v (p.h4.val p.threads.length)), ((1, 0), .v (s.h0.val s.places.length)), ((1, 1), .v (s.h1.val s.status.length)), ((1, 2), .v (s.h2.val s.sems.length)), ((1, 3), .v (s.h3.val s.onces.length)), ((1, 4), .v (s.h4.val s.groups.length)), ((1, 5), .v (s.h5.val s.barriers.length)), ((1, 6), .v (s.h6.val s.chans.length)), ((1, 7), .v (s.h7.val s.said.length)), ((1, 8), .v (.int .i64 s.fault))] [] [] ⟨⟨_, rfl, rfl, (by first | exact trivial | exact Nat.le_of_ble_eq_true rfl)⟩, ⟨_, rfl, rfl, (by first | exact trivial | exact Nat.le_of_ble_eq_true rfl)⟩, ⟨_, rfl, rfl, (by first | exact trivial | exact Nat.le_of_ble_eq_true rfl)⟩, ⟨_, rfl, rfl, (by first | exact trivial | exact Nat.le_of_ble_eq_true rfl)⟩, ⟨_, rfl, rfl, (by first | exact trivial | exact Nat.le_of_ble_eq_true rfl)⟩, ⟨_, rfl, rfl, (by first | exact trivial | exact Nat.le_of_ble_eq_true rfl)⟩, ⟨_, rfl, rfl, (by first | exact trivial | exact Nat.le_of_ble_eq_true rfl)⟩, ⟨_, rfl, rfl, (by first | exact trivial | exact Nat.le_of_ble_eq_true rfl)⟩, ⟨_, rfl, rfl, (by first | exact trivial | exact Nat.le_of_ble_eq_true rfl)⟩, ⟨_, rfl, rfl, (by first | exact trivial | exact Nat.le_of_ble_eq_true rfl)⟩, ⟨_, rfl, rfl, (by first | exact trivial | exact Nat.le_of_ble_eq_true rfl)⟩, ⟨_, rfl, rfl, (by first | exact trivial | exact Nat.le_of_ble_eq_true rfl)⟩, ⟨_, rfl, rfl, (by first | exact trivial | exact Nat.le_of_ble_eq_true rfl)⟩, ⟨_, rfl, rfl, (by first | exact trivial | exact Nat.le_of_ble_eq_true rfl)⟩, trivial⟩ ⟨⟨_, rfl⟩, ⟨_, rfl⟩, ⟨_, rfl⟩, ⟨_, rfl⟩, ⟨_, rfl⟩, ⟨_, rfl⟩, ⟨_, rfl⟩, ⟨_, rfl⟩, ⟨_, rfl⟩, ⟨_, rfl⟩, ⟨_, rfl⟩, ⟨_, rfl⟩, ⟨_, rfl⟩, ⟨_, rfl⟩, trivial⟩ trivial rfl ?_
  refine d_call _ cl15 rfl rfl rfl rfl ⟨rfl, rfl⟩ (fun A w hW => toProg_c p w ⟨hW.get 8 rfl (.refl _), trivial⟩ ha) ?_
  rintro v L ⟨p2, rfl, t0, rfl⟩
  refine d_call _ cl16 rfl rfl rfl rfl ⟨rfl, rfl⟩ (fun A w hW => toState_c s w ⟨hW.get 10 rfl (.refl _), trivial⟩ hb) ?_
  rintro v L ⟨s2, rfl, t1, rfl⟩
  refine d_call _ cl35 rfl rfl rfl rfl ⟨rfl, rfl⟩ (fun A w hW => readyThreads_c p2 s2 w ⟨hW.get 1 rfl (.O_R fun _ h => h), hW.get 0 rfl (.O_R fun _ h => h), trivial⟩ (by rw [t0]; exact ha) (by rw [t1]; exact hb)) ?_
  rintro v L ⟨yh, D, rfl, k1, k2, rfl⟩
  rw [t0, t1] at k1 k2
  obtain rfl : D = C := one D k1 k2
  clear k1 k2
  refine stop_call _ cl36 rfl rfl rfl rfl ⟨rfl, rfl⟩ (fun A w hW => (eqIntS_c yh yw D D w ⟨hW.rdOwn 0 rfl, hW.rdOwn 8 rfl, trivial⟩ (by omega) (by omega))) ?_
  rintro v L ⟨rfl, rfl⟩
  refine CaseB.mk (fun g => by simp at g) (fun _ => ?_)
  refine stop_call _ cl38 rfl rfl rfl rfl ⟨rfl, rfl⟩ (fun A w hW => (heldIntS_n yg 1 D.length w ⟨hW.rdOwn 3 rfl, trivial⟩ (by omega) (by omega))) ?_
  rintro v L ⟨rfl, rfl⟩
  refine CaseB.mk (fun g => by have g' := of_decide_eq_true g; omega) (fun _ => ?_)
  refine CaseB.mk (fun g => by simp at g) (fun _ => ?_)
  exact retw [] ⟨rfl, rfl⟩ trivial rfl trivial (fun _ => rfl)

end Go.Proofs.YtklclbcckjhdpaaGreat

namespace Go.Proofs.YtklclbcckjhdpaaGreat

open Go Go.Sx Go.RowKit Go.ChangeShapes Go.WideShapes

theorem undI : Tryz.prog.underlying 3 = some (.int .i64) := by kernel_rfl

theorem undIs : Tryz.prog.underlying 22 = some (.slice 3) := by kernel_rfl

theorem el_int {H : Type} {enc : TypeId × Value → H} {W : World} : ∀ (n : Nat) (cs : List Value) (y : DataW H × List MemPlace), DataW.trod enc Tryz.prog W 0 (fun _ => true) true n 3 cs = some y → ∃ a : Int, cs = cInt a := fun n cs y hy => by
  obtain ⟨k, h1, _, _⟩ := DataW.trod_int undI hy
  exact ⟨k, h1⟩

theorem structWaiter : Tryz.prog.underlying 242 = some (.struct (Tryz.prog.fieldsOf 242)) := by kernel_rfl

theorem fieldsWaiter : (Tryz.prog.fieldsOf 242).toList.map (fun f => (f.type, f.offset, Tryz.prog.cellsOf f.type)) = [(3, 0, 1), (3, 1, 1)] := by kernel_rfl

theorem undWaiterS : Tryz.prog.underlying 163 = some (.slice 242) := by kernel_rfl

set_option maxRecDepth 100000 in
theorem el_Waiter {H : Type} {enc : TypeId × Value → H} {W : World} : ∀ (n : Nat) (cs : List Value) (y : DataW H × List MemPlace), DataW.trod enc Tryz.prog W 0 (fun _ => true) true n 242 cs = some y → ∃ a : Waiter, cs = cWaiter a := fun n cs y hy => by
  obtain ⟨hl, k, hx⟩ := trod_fields structWaiter fieldsWaiter (sz := 2) (by kernel_rfl) hy
  match cs, hl with
  | [a0, a1], _ =>
    obtain ⟨_, h0⟩ := hx 0 _ _ _ rfl
    obtain ⟨p0, e0⟩ := el_int _ _ _ h0
    obtain ⟨_, h1⟩ := hx 1 _ _ _ rfl
    obtain ⟨p1, e1⟩ := el_int _ _ _ h1
    simp [cInt] at e0 e1
    exact ⟨⟨p0, p1⟩, by simp [cWaiter, e0, e1]⟩

theorem structLetter : Tryz.prog.underlying 244 = some (.struct (Tryz.prog.fieldsOf 244)) := by kernel_rfl

theorem fieldsLetter : (Tryz.prog.fieldsOf 244).toList.map (fun f => (f.type, f.offset, Tryz.prog.cellsOf f.type)) = [(3, 0, 1), (3, 1, 1)] := by kernel_rfl

theorem undLetterS : Tryz.prog.underlying 173 = some (.slice 244) := by kernel_rfl

set_option maxRecDepth 100000 in
theorem el_Letter {H : Type} {enc : TypeId × Value → H} {W : World} : ∀ (n : Nat) (cs : List Value) (y : DataW H × List MemPlace), DataW.trod enc Tryz.prog W 0 (fun _ => true) true n 244 cs = some y → ∃ a : Letter, cs = cLet a := fun n cs y hy => by
  obtain ⟨hl, k, hx⟩ := trod_fields structLetter fieldsLetter (sz := 2) (by kernel_rfl) hy
  match cs, hl with
  | [a0, a1], _ =>
    obtain ⟨_, h0⟩ := hx 0 _ _ _ rfl
    obtain ⟨p0, e0⟩ := el_int _ _ _ h0
    obtain ⟨_, h1⟩ := hx 1 _ _ _ rfl
    obtain ⟨p1, e1⟩ := el_int _ _ _ h1
    simp [cInt] at e0 e1
    exact ⟨⟨p0, p1⟩, by simp [cLet, e0, e1]⟩

theorem structOp : Tryz.prog.underlying 228 = some (.struct (Tryz.prog.fieldsOf 228)) := by kernel_rfl

theorem fieldsOp : (Tryz.prog.fieldsOf 228).toList.map (fun f => (f.type, f.offset, Tryz.prog.cellsOf f.type)) = [(3, 0, 1), (3, 1, 1), (3, 2, 1)] := by kernel_rfl

theorem undOpS : Tryz.prog.underlying 161 = some (.slice 228) := by kernel_rfl

set_option maxRecDepth 100000 in
theorem el_Op {H : Type} {enc : TypeId × Value → H} {W : World} : ∀ (n : Nat) (cs : List Value) (y : DataW H × List MemPlace), DataW.trod enc Tryz.prog W 0 (fun _ => true) true n 228 cs = some y → ∃ a : Op, cs = cOp a := fun n cs y hy => by
  obtain ⟨hl, k, hx⟩ := trod_fields structOp fieldsOp (sz := 3) (by kernel_rfl) hy
  match cs, hl with
  | [a0, a1, a2], _ =>
    obtain ⟨_, h0⟩ := hx 0 _ _ _ rfl
    obtain ⟨p0, e0⟩ := el_int _ _ _ h0
    obtain ⟨_, h1⟩ := hx 1 _ _ _ rfl
    obtain ⟨p1, e1⟩ := el_int _ _ _ h1
    obtain ⟨_, h2⟩ := hx 2 _ _ _ rfl
    obtain ⟨p2, e2⟩ := el_int _ _ _ h2
    simp [cInt] at e0 e1 e2
    exact ⟨⟨p0, p1, p2⟩, by simp [cOp, e0, e1, e2]⟩

theorem undOpSS : Tryz.prog.underlying 23 = some (.slice 161) := by kernel_rfl

theorem el_OpS {H : Type} {enc : TypeId × Value → H} {W : World} : ∀ (n : Nat) (cs : List Value) (y : DataW H × List MemPlace), DataW.trod enc Tryz.prog W 0 (fun _ => true) true n 161 cs = some y → ∃ a : OpSH, cs = cOpSH a ∧ AllR W (opSO a) := fun n cs y hy => by
  obtain ⟨i, xs, e, r, f⟩ := open_sl encOp (by decide) undOpS (by kernel_rfl) el_Op hy
  exact ⟨⟨xs, i⟩, e, AllR.cons ⟨r, f⟩ (AllR.nil W)⟩

theorem structSem : Tryz.prog.underlying 165 = some (.struct (Tryz.prog.fieldsOf 165)) := by kernel_rfl

theorem fieldsSem : (Tryz.prog.fieldsOf 165).toList.map (fun f => (f.type, f.offset, Tryz.prog.cellsOf f.type)) = [(3, 0, 1), (3, 1, 1), (163, 2, 1)] := by kernel_rfl

theorem undSemS : Tryz.prog.underlying 26 = some (.slice 165) := by kernel_rfl

set_option maxRecDepth 100000 in
theorem el_Sem {H : Type} {enc : TypeId × Value → H} {W : World} : ∀ (n : Nat) (cs : List Value) (y : DataW H × List MemPlace), DataW.trod enc Tryz.prog W 0 (fun _ => true) true n 165 cs = some y → ∃ a : SemH, cs = cSemH a ∧ AllR W (semO a) := fun n cs y hy => by
  obtain ⟨hl, k, hx⟩ := trod_fields structSem fieldsSem (sz := 3) (by kernel_rfl) hy
  match cs, hl with
  | [a0, a1, a2], _ =>
    obtain ⟨_, h0⟩ := hx 0 _ _ _ rfl
    obtain ⟨p0, e0⟩ := el_int _ _ _ h0
    obtain ⟨_, h1⟩ := hx 1 _ _ _ rfl
    obtain ⟨p1, e1⟩ := el_int _ _ _ h1
    obtain ⟨_, h2⟩ := hx 2 _ _ _ rfl
    obtain ⟨i2, p2, e2, r2, f2⟩ := open_sl encWaiter (by decide) undWaiterS (by kernel_rfl) el_Waiter h2
    simp [cInt] at e0 e1 e2
    exact ⟨⟨⟨p0, p1, p2⟩, i2⟩, by simp [cSemH, e0, e1, e2], AllR.cons ⟨r2, f2⟩ (AllR.nil W)⟩

theorem structOnce : Tryz.prog.underlying 167 = some (.struct (Tryz.prog.fieldsOf 167)) := by kernel_rfl

theorem fieldsOnce : (Tryz.prog.fieldsOf 167).toList.map (fun f => (f.type, f.offset, Tryz.prog.cellsOf f.type)) = [(3, 0, 1), (3, 1, 1), (3, 2, 1), (22, 3, 1)] := by kernel_rfl

theorem undOnceS : Tryz.prog.underlying 27 = some (.slice 167) := by kernel_rfl

set_option maxRecDepth 100000 in
theorem el_Once {H : Type} {enc : TypeId × Value → H} {W : World} : ∀ (n : Nat) (cs : List Value) (y : DataW H × List MemPlace), DataW.trod enc Tryz.prog W 0 (fun _ => true) true n 167 cs = some y → ∃ a : OnceH, cs = cOnceH a ∧ AllR W (onceO a) := fun n cs y hy => by
  obtain ⟨hl, k, hx⟩ := trod_fields structOnce fieldsOnce (sz := 4) (by kernel_rfl) hy
  match cs, hl with
  | [a0, a1, a2, a3], _ =>
    obtain ⟨_, h0⟩ := hx 0 _ _ _ rfl
    obtain ⟨p0, e0⟩ := el_int _ _ _ h0
    obtain ⟨_, h1⟩ := hx 1 _ _ _ rfl
    obtain ⟨p1, e1⟩ := el_int _ _ _ h1
    obtain ⟨_, h2⟩ := hx 2 _ _ _ rfl
    obtain ⟨p2, e2⟩ := el_int _ _ _ h2
    obtain ⟨_, h3⟩ := hx 3 _ _ _ rfl
    obtain ⟨i3, p3, e3, r3, f3⟩ := open_sl encInt Nat.zero_lt_one undIs (by kernel_rfl) el_int h3
    simp [cInt] at e0 e1 e2 e3
    exact ⟨⟨⟨p0, p1, p2, p3⟩, i3⟩, by simp [cOnceH, e0, e1, e2, e3], AllR.cons ⟨r3, f3⟩ (AllR.nil W)⟩

theorem structGroup : Tryz.prog.underlying 169 = some (.struct (Tryz.prog.fieldsOf 169)) := by kernel_rfl

theorem fieldsGroup : (Tryz.prog.fieldsOf 169).toList.map (fun f => (f.type, f.offset, Tryz.prog.cellsOf f.type)) = [(3, 0, 1), (22, 1, 1)] := by kernel_rfl

theorem undGroupS : Tryz.prog.underlying 28 = some (.slice 169) := by kernel_rfl

set_option maxRecDepth 100000 in
theorem el_Group {H : Type} {enc : TypeId × Value → H} {W : World} : ∀ (n : Nat) (cs : List Value) (y : DataW H × List MemPlace), DataW.trod enc Tryz.prog W 0 (fun _ => true) true n 169 cs = some y → ∃ a : GroupH, cs = cGroupH a ∧ AllR W (groupO a) := fun n cs y hy => by
  obtain ⟨hl, k, hx⟩ := trod_fields structGroup fieldsGroup (sz := 2) (by kernel_rfl) hy
  match cs, hl with
  | [a0, a1], _ =>
    obtain ⟨_, h0⟩ := hx 0 _ _ _ rfl
    obtain ⟨p0, e0⟩ := el_int _ _ _ h0
    obtain ⟨_, h1⟩ := hx 1 _ _ _ rfl
    obtain ⟨i1, p1, e1, r1, f1⟩ := open_sl encInt Nat.zero_lt_one undIs (by kernel_rfl) el_int h1
    simp [cInt] at e0 e1
    exact ⟨⟨⟨p0, p1⟩, i1⟩, by simp [cGroupH, e0, e1], AllR.cons ⟨r1, f1⟩ (AllR.nil W)⟩

theorem structBarrier : Tryz.prog.underlying 171 = some (.struct (Tryz.prog.fieldsOf 171)) := by kernel_rfl

theorem fieldsBarrier : (Tryz.prog.fieldsOf 171).toList.map (fun f => (f.type, f.offset, Tryz.prog.cellsOf f.type)) = [(3, 0, 1), (3, 1, 1), (22, 2, 1)] := by kernel_rfl

theorem undBarrierS : Tryz.prog.underlying 29 = some (.slice 171) := by kernel_rfl

set_option maxRecDepth 100000 in
theorem el_Barrier {H : Type} {enc : TypeId × Value → H} {W : World} : ∀ (n : Nat) (cs : List Value) (y : DataW H × List MemPlace), DataW.trod enc Tryz.prog W 0 (fun _ => true) true n 171 cs = some y → ∃ a : BarrierH, cs = cBarrierH a ∧ AllR W (barrierO a) := fun n cs y hy => by
  obtain ⟨hl, k, hx⟩ := trod_fields structBarrier fieldsBarrier (sz := 3) (by kernel_rfl) hy
  match cs, hl with
  | [a0, a1, a2], _ =>
    obtain ⟨_, h0⟩ := hx 0 _ _ _ rfl
    obtain ⟨p0, e0⟩ := el_int _ _ _ h0
    obtain ⟨_, h1⟩ := hx 1 _ _ _ rfl
    obtain ⟨p1, e1⟩ := el_int _ _ _ h1
    obtain ⟨_, h2⟩ := hx 2 _ _ _ rfl
    obtain ⟨i2, p2, e2, r2, f2⟩ := open_sl encInt Nat.zero_lt_one undIs (by kernel_rfl) el_int h2
    simp [cInt] at e0 e1 e2
    exact ⟨⟨⟨p0, p1, p2⟩, i2⟩, by simp [cBarrierH, e0, e1, e2], AllR.cons ⟨r2, f2⟩ (AllR.nil W)⟩

theorem structChan : Tryz.prog.underlying 175 = some (.struct (Tryz.prog.fieldsOf 175)) := by kernel_rfl

theorem fieldsChan : (Tryz.prog.fieldsOf 175).toList.map (fun f => (f.type, f.offset, Tryz.prog.cellsOf f.type)) = [(3, 0, 1), (22, 1, 1), (173, 2, 1), (22, 3, 1), (4, 4, 1)] := by kernel_rfl

theorem undChanS : Tryz.prog.underlying 30 = some (.slice 175) := by kernel_rfl

set_option maxRecDepth 100000 in
theorem el_Chan {H : Type} {enc : TypeId × Value → H} {W : World} : ∀ (n : Nat) (cs : List Value) (y : DataW H × List MemPlace), DataW.trod enc Tryz.prog W 0 (fun _ => true) true n 175 cs = some y → ∃ a : ChanH, cs = cChanH a ∧ AllR W (chanO a) := fun n cs y hy => by
  obtain ⟨hl, k, hx⟩ := trod_fields structChan fieldsChan (sz := 5) (by kernel_rfl) hy
  match cs, hl with
  | [a0, a1, a2, a3, a4], _ =>
    obtain ⟨_, h0⟩ := hx 0 _ _ _ rfl
    obtain ⟨p0, e0⟩ := el_int _ _ _ h0
    obtain ⟨_, h1⟩ := hx 1 _ _ _ rfl
    obtain ⟨i1, p1, e1, r1, f1⟩ := open_sl encInt Nat.zero_lt_one undIs (by kernel_rfl) el_int h1
    obtain ⟨_, h2⟩ := hx 2 _ _ _ rfl
    obtain ⟨i2, p2, e2, r2, f2⟩ := open_sl encLet (by decide) undLetterS (by kernel_rfl) el_Letter h2
    obtain ⟨_, h3⟩ := hx 3 _ _ _ rfl
    obtain ⟨i3, p3, e3, r3, f3⟩ := open_sl encInt Nat.zero_lt_one undIs (by kernel_rfl) el_int h3
    obtain ⟨_, h4⟩ := hx 4 _ _ _ rfl
    obtain ⟨p4, e4, _⟩ := DataW.trod_bool undBool h4
    simp [cInt] at e0 e1 e2 e3 e4
    exact ⟨⟨⟨p0, p1, p2, p3, p4⟩, i1, i2, i3⟩, by simp [cChanH, e0, e1, e2, e3, e4], AllR.cons ⟨r1, f1⟩ (AllR.cons ⟨r2, f2⟩ (AllR.cons ⟨r3, f3⟩ (AllR.nil W)))⟩

theorem structProg : Tryz.prog.underlying 25 = some (.struct (Tryz.prog.fieldsOf 25)) := by kernel_rfl

theorem fieldsProg : (Tryz.prog.fieldsOf 25).toList.map (fun f => (f.type, f.offset, Tryz.prog.cellsOf f.type)) = [(22, 0, 1), (22, 1, 1), (22, 2, 1), (22, 3, 1), (23, 4, 1)] := by kernel_rfl

set_option maxRecDepth 100000 in
theorem open_Prog {H : Type} {enc : TypeId × Value → H} {W : World} {base : Nat} {v : Value} {d : DataW H} {p : List MemPlace} (hv : Value.okWide Tryz.prog W .any base 25 v) (h : DataW.Trod enc Tryz.prog W 0 (fun _ => true) true 25 v d p) :
    ∃ s : ProgH, v = progV s ∧ (fR (progO s)).P W ∧ ∀ b, (fR (progO s)).foot b → b < W.heap.size := by
  obtain ⟨vs, rfl, _⟩ := okWide_struct structProg hv
  obtain ⟨fuel, hf⟩ := h
  obtain ⟨hl, k, hx⟩ := trod_fields structProg fieldsProg (sz := 5) (by kernel_rfl) hf
  obtain ⟨cs⟩ := vs
  have hl : cs.length = 5 := hl
  match cs, hl with
  | [a0, a1, a2, a3, a4], _ =>
    obtain ⟨_, h0⟩ := hx 0 _ _ _ rfl
    obtain ⟨i0, p0, e0, r0, f0⟩ := open_sl encInt Nat.zero_lt_one undIs (by kernel_rfl) el_int h0
    obtain ⟨_, h1⟩ := hx 1 _ _ _ rfl
    obtain ⟨i1, p1, e1, r1, f1⟩ := open_sl encInt Nat.zero_lt_one undIs (by kernel_rfl) el_int h1
    obtain ⟨_, h2⟩ := hx 2 _ _ _ rfl
    obtain ⟨i2, p2, e2, r2, f2⟩ := open_sl encInt Nat.zero_lt_one undIs (by kernel_rfl) el_int h2
    obtain ⟨_, h3⟩ := hx 3 _ _ _ rfl
    obtain ⟨i3, p3, e3, r3, f3⟩ := open_sl encInt Nat.zero_lt_one undIs (by kernel_rfl) el_int h3
    obtain ⟨_, h4⟩ := hx 4 _ _ _ rfl
    obtain ⟨i4, p4, e4, r4, f4, q4⟩ := open_slQ encOpSH (by decide) undOpSS (by kernel_rfl) el_OpS h4
    simp [Value.cells] at e0 e1 e2 e3 e4
    refine ⟨⟨p0, p1, p2, p3, p4, i0, i1, i2, i3, i4⟩, ?_, AllR.at ?_⟩
    · simp [progV, e0, e1, e2, e3, e4]
    · exact AllR.cons ⟨r0, f0⟩ (AllR.cons ⟨r1, f1⟩ (AllR.cons ⟨r2, f2⟩ (AllR.cons ⟨r3, f3⟩ ((AllR.cons ⟨r4, f4⟩ (AllR.flat q4))))))

theorem structState : Tryz.prog.underlying 32 = some (.struct (Tryz.prog.fieldsOf 32)) := by kernel_rfl

theorem fieldsState : (Tryz.prog.fieldsOf 32).toList.map (fun f => (f.type, f.offset, Tryz.prog.cellsOf f.type)) = [(22, 0, 1), (22, 1, 1), (26, 2, 1), (27, 3, 1), (28, 4, 1), (29, 5, 1), (30, 6, 1), (22, 7, 1), (3, 8, 1)] := by kernel_rfl

set_option maxRecDepth 100000 in
theorem open_State {H : Type} {enc : TypeId × Value → H} {W : World} {base : Nat} {v : Value} {d : DataW H} {p : List MemPlace} (hv : Value.okWide Tryz.prog W .any base 32 v) (h : DataW.Trod enc Tryz.prog W 0 (fun _ => true) true 32 v d p) :
    ∃ s : StateH, v = stateV s ∧ (fR (stateO s)).P W ∧ ∀ b, (fR (stateO s)).foot b → b < W.heap.size := by
  obtain ⟨vs, rfl, _⟩ := okWide_struct structState hv
  obtain ⟨fuel, hf⟩ := h
  obtain ⟨hl, k, hx⟩ := trod_fields structState fieldsState (sz := 9) (by kernel_rfl) hf
  obtain ⟨cs⟩ := vs
  have hl : cs.length = 9 := hl
  match cs, hl with
  | [a0, a1, a2, a3, a4, a5, a6, a7, a8], _ =>
    obtain ⟨_, h0⟩ := hx 0 _ _ _ rfl
    obtain ⟨i0, p0, e0, r0, f0⟩ := open_sl encInt Nat.zero_lt_one undIs (by kernel_rfl) el_int h0
    obtain ⟨_, h1⟩ := hx 1 _ _ _ rfl
    obtain ⟨i1, p1, e1, r1, f1⟩ := open_sl encInt Nat.zero_lt_one undIs (by kernel_rfl) el_int h1
    obtain ⟨_, h2⟩ := hx 2 _ _ _ rfl
    obtain ⟨i2, p2, e2, r2, f2, q2⟩ := open_slQ encSemH (by decide) undSemS (by kernel_rfl) el_Sem h2
    obtain ⟨_, h3⟩ := hx 3 _ _ _ rfl
    obtain ⟨i3, p3, e3, r3, f3, q3⟩ := open_slQ encOnceH (by decide) undOnceS (by kernel_rfl) el_Once h3
    obtain ⟨_, h4⟩ := hx 4 _ _ _ rfl
    obtain ⟨i4, p4, e4, r4, f4, q4⟩ := open_slQ encGroupH (by decide) undGroupS (by kernel_rfl) el_Group h4
    obtain ⟨_, h5⟩ := hx 5 _ _ _ rfl
    obtain ⟨i5, p5, e5, r5, f5, q5⟩ := open_slQ encBarrierH (by decide) undBarrierS (by kernel_rfl) el_Barrier h5
    obtain ⟨_, h6⟩ := hx 6 _ _ _ rfl
    obtain ⟨i6, p6, e6, r6, f6, q6⟩ := open_slQ encChanH (by decide) undChanS (by kernel_rfl) el_Chan h6
    obtain ⟨_, h7⟩ := hx 7 _ _ _ rfl
    obtain ⟨i7, p7, e7, r7, f7⟩ := open_sl encInt Nat.zero_lt_one undIs (by kernel_rfl) el_int h7
    obtain ⟨_, h8⟩ := hx 8 _ _ _ rfl
    obtain ⟨p8, e8⟩ := el_int _ _ _ h8
    simp [cInt, Value.cells] at e0 e1 e2 e3 e4 e5 e6 e7 e8
    refine ⟨⟨p0, p1, p2, p3, p4, p5, p6, p7, p8, i0, i1, i2, i3, i4, i5, i6, i7⟩, ?_, AllR.at ?_⟩
    · simp [stateV, e0, e1, e2, e3, e4, e5, e6, e7, e8]
    · exact AllR.cons ⟨r0, f0⟩ (AllR.cons ⟨r1, f1⟩ ((AllR.append (AllR.cons ⟨r2, f2⟩ (AllR.flat q2)) (AllR.append (AllR.cons ⟨r3, f3⟩ (AllR.flat q3)) (AllR.append (AllR.cons ⟨r4, f4⟩ (AllR.flat q4)) (AllR.append (AllR.cons ⟨r5, f5⟩ (AllR.flat q5)) (AllR.append (AllR.cons ⟨r6, f6⟩ (AllR.flat q6)) (AllR.cons ⟨r7, f7⟩ (AllR.nil W)))))))))

set_option maxRecDepth 100000 in
theorem lifted_PS {f : FuncId} {fn : Func} {s : ChangeSpec} {conds : List PathCond} (hf : Tryz.checked.prog.funcs[f]? = some fn) (hfn : Tryz.checked.prog.inits.idxOf? f = none) (hpl : fn.params = #[25, 32]) (hres : fn.resultTypes = #[4]) (hvars : s.vars = [])
    (hspec : ∀ (H : Type) (d0 d1 : DataW H), s.fn H [d0, d1] = { results := [.lit (.bool true)], args := [d0, d1] })
    (hc : ∀ (x0 : ProgH) (x1 : StateH) (w : World), At w [fR (progO x0), fR (stateO x1)] → Calls Tryz.prog f #[progV x0, stateV x1] w (Ret w fun v L => v = .bool true ∧ L = []))
    (os : Os) (started : os.Started) (H : Type) (enc : TypeId × Value → H)
    (wit : ∃ (w : World) (tape : Tape) (i : Input), w.os = os ∧ (w.forCall tape i).Shaped Tryz.checked.prog ∧ i.vars = [] ∧ Input.okWide Tryz.checked.prog (w.forCall tape i) .any w.heap.size f i ∧
      s.pre6 enc Tryz.checked.prog fn conds false (w.forCall tape i).memory i.args ∧ ({} : Assume).holds Tryz.checked.prog (lone (Frame.enter Tryz.checked.prog f i.args .normal) [] (w.forCall tape i))) :
    ReturnsInHanded {} Tryz.checked os f .any (s.pre6 enc Tryz.checked.prog fn conds false) (s.post enc Tryz.checked.prog fn false true false false) := by
  refine returnsInHanded_of_change (C := Tryz.checked) ownNone started hfn hf wit ?_
  intro W base args ds gs before hval hW _ _
  have hW' := hW
  obtain ⟨p, q, hA0, hV, _, _, _⟩ := hW
  rw [hpl] at hA0
  have hA : DataW.TrodAll enc Tryz.prog W 0 (fun _ => true) true [25, 32] args.toList ds p := hA0
  obtain ⟨v0, vs0, d0, ds0, p0, q0, e0, rfl, _, h0, hA⟩ := trodAll_cons hA
  obtain ⟨v1, vs1, d1, ds1, p1, q1, rfl, rfl, _, h1, hA⟩ := trodAll_cons hA
  obtain ⟨rfl, rfl, _⟩ := trodAll_nil hA
  obtain rfl : args = #[v0, v1] := by apply Array.ext'; simpa using e0
  obtain ⟨x0, rfl, hat0⟩ := open_Prog (hval 0 25 v0 (by rw [hpl]; rfl) rfl) h0
  obtain ⟨x1, rfl, hat1⟩ := open_State (hval 1 32 v1 (by rw [hpl]; rfl) rfl) h1
  refine (hc x0 x1 W ⟨hat0, hat1, trivial⟩).mono fun e W' hR => ?_
  obtain ⟨v, L, rfl, he, _, rfl, _⟩ := hR
  rw [hvars] at hV
  obtain ⟨rfl, _⟩ := trodVars_none hV
  exact ⟨_, rfl, law_post (P := Tryz.prog) laidOut (pl := [25, 32]) (by rw [hpl]) (by kernel_rfl) hvars hres undBool (hspec H d0 d1) hW' he.below⟩

end Go.Proofs.YtklclbcckjhdpaaGreat

namespace Go.Proofs.YtklclbcckjhdpaaGreat

open Go Go.Sx Go.RowKit Go.ChangeShapes Go.WideShapes

set_option maxRecDepth 100000 in
theorem fnExactReadyThreads_lifted (os : Os) (started : os.Started) (H : Type) (enc : TypeId × Value → H) :
    ReturnsInHanded {} Tryz.checked os 9 .any (Rows.fnExactReadyThreadsSpec.pre6 enc Tryz.checked.prog Tryz.f9 Rows.fnExactReadyThreadsRow.domain false) (Rows.fnExactReadyThreadsSpec.post enc Tryz.checked.prog Tryz.f9 false true false false) :=
  lifted_PS Tryz.func9 (by kernel_rfl) rfl rfl rfl (fun _ _ _ => rfl) exactReadyThreads_c os started H enc
    (ChangeSpec.witness6 (enc := enc) (C := Tryz.checked) false ⟨#[], #[.agg #[.slice none 0 0, .slice none 0 0, .slice none 0 0, .slice none 0 0, .slice none 0 0], .agg #[.slice none 0 0, .slice none 0 0, .slice none 0 0, .slice none 0 0, .slice none 0 0, .slice none 0 0, .slice none 0 0, .slice none 0 0, .int .i64 0]], []⟩ 8 (by kernel_rfl) (by kernel_rfl) (by kernel_rfl) (by kernel_rfl))

theorem fnExactReadyThreads_holds : Rows.FnExactReadyThreadsSaid :=
  OpenClaim.holds_of_wide 9 Tryz.f9 rfl rfl rfl rfl rfl rfl rfl ⟨rfl, rfl, rfl, rfl, rfl⟩ rfl rfl rfl rfl rfl (by kernel_rfl) Tryz.func9 (by kernel_rfl)
    (of_decide_eq_true (by kernel_rfl)) (by unfold Func.isWrapper; first | (rw [if_pos (by decide +kernel)]; kernel_rfl) | (rw [if_neg (by decide +kernel)]; exact ⟨rfl, rfl⟩))
    (fun os started H enc _ => fnExactReadyThreads_lifted os started H enc)

end Go.Proofs.YtklclbcckjhdpaaGreat
