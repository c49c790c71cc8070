/- FnExactStartProg: texts that its proof stands on, part 5. -/
import Derived.Test.YtpopeaoklccgcaaQExactStartProgd
namespace Go.Proofs.Ytpopeaoklccgcaa

open Go Go.Sx Go.RowKit

def mkOnce (c : Nat) (x : OnceH) : OnceH := ⟨⟨((c : Nat) : Int), ((c + 1 : Nat) : Int), ((c + 1 + 1 : Nat) : Int), marks (c + 1 + 1 + 1) x.m.waits.length⟩, x.q⟩

def nxOnce (c : Nat) (x : OnceH) : Nat := c + 1 + 1 + 1 + x.m.waits.length

theorem nxOnce_le (c : Nat) (x : OnceH) (h : Once.small20 x.m) : nxOnce c x ≤ c + 8388608 := by
  unfold Once.small20 at h
  unfold nxOnce
  omega

set_option maxHeartbeats 16000000 in
set_option maxRecDepth 100000 in
theorem markOnceS_c (h : Sl) (xs : List OnceH) (k : Nat) (w : World) (hh : AtG w [fO (oncesO h xs)] []) (hl : xs.length ≤ 1048576) (hb : ∀ x ∈ xs, Once.small20 x.m) (hk : k ≤ 144115188075855872) :
    Calls Try.prog 79 #[h.val xs.length, .int .i64 (k : Int)] w (RetG w [fO (oncesO h xs)] fun v L => v = .int .i64 ((nxL nxOnce k xs : Nat) : Int) ∧ L = [fO (oncesO h (mkL mkOnce nxOnce k xs))]) := by
  refine callsG_fn Try.func79 rfl tabOk w _ rfl _ rfl _ _ hh trivial _ _ rfl rfl ?_
  refine LoopW.mk ⟨{ p : List OnceH × List OnceH × Nat // mkL mkOnce nxOnce k xs = p.1 ++ mkL mkOnce nxOnce p.2.2 p.2.1 ∧ nxL nxOnce k xs = nxL nxOnce p.2.2 p.2.1 ∧ p.1.length + p.2.1.length = xs.length ∧ (∀ x ∈ p.2.1, Once.small20 x.m) ∧ p.2.2 + p.2.1.length * 8388608 ≤ 288230376151711744 },
    fun p => .mk [(0, .v (h.val (p.1.1 ++ p.1.2.1).length)), (1, .v (.int .i64 (p.1.2.2 : Int))), (5, .v (.int .i64 (p.1.1.length : Int)))] 0 0 [] [] [own h 89 cOnceH 4 (p.1.1 ++ p.1.2.1), fO ((p.1.1 ++ p.1.2.1).flatMap onceO)],
    fun p => p.1.2.1.length, ⟨([], xs, k), by simp, rfl, by simp, hb, by simp only; omega⟩, ?_, ?_⟩
  · refine weak_shift (.splitO 0 (L := [own h 89 cOnceH 4 xs]) (G' := xs.flatMap onceO) rfl (.of_eq rfl)) ?_
    refine weak_mk [0, 1] ?_ ?_ ?_ ?_ ?_ rfl rfl
    · repeat (first | exact trivial | refine ⟨⟨_, rfl, (by first | exact .of rfl | exact .lit rfl | exact .of (by first | (rfl)) | exact .lit (by first | (rfl))), (by first | exact trivial | exact Nat.le_of_ble_eq_true rfl)⟩, ?_⟩)
    · repeat (first | exact trivial | refine ⟨⟨(by first | exact .head _ | exact .tail _ (.head _) | exact .tail _ (.tail _ (.head _)) | exact .tail _ (.tail _ (.tail _ (.head _))) | exact .tail _ (.tail _ (.tail _ (.tail _ (.head _)))) | exact .tail _ (.tail _ (.tail _ (.tail _ (.tail _ (.head _))))) | exact .tail _ (.tail _ (.tail _ (.tail _ (.tail _ (.tail _ (.head _)))))) | exact .tail _ (.tail _ (.tail _ (.tail _ (.tail _ (.tail _ (.tail _ (.head _))))))) | exact .tail _ (.tail _ (.tail _ (.tail _ (.tail _ (.tail _ (.tail _ (.tail _ (.head _)))))))) | exact .tail _ (.tail _ (.tail _ (.tail _ (.tail _ (.tail _ (.tail _ (.tail _ (.tail _ (.head _)))))))))), Nat.le_of_ble_eq_true rfl⟩, ?_⟩)
    · repeat (first | exact trivial | refine ⟨⟨_, rfl, (by first | exact .of rfl | exact .lit rfl | exact .of (by first | (rfl)) | exact .lit (by first | (rfl))), (by first | exact trivial | exact Nat.le_of_ble_eq_true rfl)⟩, ?_⟩)
    · repeat (first | exact trivial | refine ⟨⟨_, rfl⟩, ?_⟩)
    · repeat (first | exact trivial | refine ⟨.inl ⟨_, rfl, (by first | rfl | (rfl))⟩, ?_⟩ | refine ⟨.inr ⟨Nat.le_of_ble_eq_true rfl, rfl, rfl, rfl, rfl⟩, ?_⟩)
  rintro ⟨⟨ys, zs, c⟩, i1, i2, i3, i4, i5⟩
  simp only at i1 i2 i3 i4 i5
  refine CaseB.mk (fun g => ?_) (fun g => ?_)
  · cases zs with
    | nil => simp at g
    | cons x zs =>
      simp only [List.length_cons] at i3 i5
      have hx := i4 x (by simp)
      have hnx := nxOnce_le c x hx
      unfold Once.small20 at hx
      have hlt : ∀ y : OnceH, ys.length < (ys ++ y :: zs).length := fun y => by simp
      refine stop_idxW encOnceH 0 tabOk rfl rfl rfl rfl rfl ⟨rfl, rfl⟩ rfl (by first | rfl | (simp; done)) ys.length rfl (hlt _) (fun g0 hg0 => ?_)
      refine stop_fldW tabOk rfl rfl rfl rfl ⟨rfl, rfl⟩ ?_
      refine stop_storeW encOnceH 0 tabOk rfl rfl rfl rfl rfl rfl rfl rfl hg0 ys.length 0 (⟨⟨((c : Nat) : Int), x.m.owner, x.m.value, x.m.waits⟩, x.q⟩ : OnceH) rfl (hlt _) rfl [.int .i64 ((c : Nat) : Int)] (fun _ => rfl) (by simp [cOnceH]) ?_
      rw [app_set]
      have hw1 : IntKind.i64.wrap (((c : Nat) : Int) + 1) = ((c + 1 : Nat) : Int) := e_succ (c) (c + 1) (by omega) (by omega)
      refine stop_eq 1 rfl (congrArg (Value.int .i64) hw1) ?_
      refine stop_idxW encOnceH 0 tabOk rfl rfl rfl rfl rfl ⟨rfl, rfl⟩ rfl (by first | rfl | (simp; done)) ys.length rfl (hlt _) (fun g1 hg1 => ?_)
      refine stop_fldW tabOk rfl rfl rfl rfl ⟨rfl, rfl⟩ ?_
      refine stop_storeW encOnceH 0 tabOk rfl rfl rfl rfl rfl rfl rfl rfl hg1 ys.length 1 (⟨⟨((c : Nat) : Int), ((c + 1 : Nat) : Int), x.m.value, x.m.waits⟩, x.q⟩ : OnceH) rfl (hlt _) rfl [.int .i64 ((c + 1 : Nat) : Int)] (fun _ => by simp only [List.map_cons, List.map_nil, SV.den, hw1]) (by simp [cOnceH]) ?_
      rw [app_set]
      have hw2 : IntKind.i64.wrap (((c + 1 : Nat) : Int) + 1) = ((c + 1 + 1 : Nat) : Int) := e_succ (c + 1) (c + 1 + 1) (by omega) (by omega)
      refine stop_eq 1 rfl (congrArg (Value.int .i64) hw2) ?_
      refine stop_idxW encOnceH 0 tabOk rfl rfl rfl rfl rfl ⟨rfl, rfl⟩ rfl (by first | rfl | (simp; done)) ys.length rfl (hlt _) (fun g2 hg2 => ?_)
      refine stop_fldW tabOk rfl rfl rfl rfl ⟨rfl, rfl⟩ ?_
      refine stop_storeW encOnceH 0 tabOk rfl rfl rfl rfl rfl rfl rfl rfl hg2 ys.length 2 (⟨⟨((c : Nat) : Int), ((c + 1 : Nat) : Int), ((c + 1 + 1 : Nat) : Int), x.m.waits⟩, x.q⟩ : OnceH) rfl (hlt _) rfl [.int .i64 ((c + 1 + 1 : Nat) : Int)] (fun _ => by simp only [List.map_cons, List.map_nil, SV.den, hw2]) (by simp [cOnceH]) ?_
      rw [app_set]
      have hw3 : IntKind.i64.wrap (((c + 1 + 1 : Nat) : Int) + 1) = ((c + 1 + 1 + 1 : Nat) : Int) := e_succ (c + 1 + 1) (c + 1 + 1 + 1) (by omega) (by omega)
      refine stop_eq 1 rfl (congrArg (Value.int .i64) hw3) ?_
      refine stop_idx encOnceH (xs := ys ++ (⟨⟨((c : Nat) : Int), ((c + 1 : Nat) : Int), ((c + 1 + 1 : Nat) : Int), x.m.waits⟩, x.q⟩ : OnceH) :: zs) tabOk rfl (Eq.trans rfl (congrArg (fun n => some (SV.v (h.val n))) (by simp))) rfl rfl rfl ⟨rfl, rfl⟩ (rdOwnAt 0 rfl) ys.length rfl (hlt _) (fun ad3 => ?_)
      rw [app_get]
      refine stop_shift (.splitO 1 (L := onceO x) (G' := (ys ++ zs).flatMap onceO) rfl (perm_out onceO ys zs x)) ?_
      refine stop_callG _ [0] (G := [_]) cl76 rfl rfl rfl rfl ⟨rfl, rfl⟩ ⟨rfl, trivial⟩ ⟨rfl, rfl, trivial⟩ (fun A w hW => (markIntS_c _ _ (c + 1 + 1 + 1) w (hW.atG [0] (G := [_]) ⟨rfl, trivial⟩ rfl ⟨rfl, rfl, trivial⟩ [] (Fo := []) trivial rfl) (by first | omega | (simp only; omega)) (by omega))) ?_
      rintro v L ⟨rfl, rfl⟩
      have hwj := e_succ ys.length xs.length (by omega) (by omega)
      have hz : nxOnce c x = c + 1 + 1 + 1 + x.m.waits.length := rfl
      generalize hzz : mkOnce c x = z
      have hwj2 : IntKind.i64.wrap ((ys.length : Int) + 1) = (((ys ++ [z]).length : Nat) : Int) := by rw [hwj]; simp
      have hl0 : h.val (ys ++ x :: zs).length = h.val ((ys ++ [z]) ++ zs).length := congrArg h.val (by simp)
      have hrow : own h 89 cOnceH 4 (ys ++ (⟨⟨((c : Nat) : Int), ((c + 1 : Nat) : Int), ((c + 1 + 1 : Nat) : Int), x.m.waits⟩, x.q⟩ : OnceH) :: zs) = own h 89 cOnceH 4 ((ys ++ [z]) ++ zs) := by
        subst hzz
        have e1 : cells cOnceH (ys ++ (⟨⟨((c : Nat) : Int), ((c + 1 : Nat) : Int), ((c + 1 + 1 : Nat) : Int), x.m.waits⟩, x.q⟩ : OnceH) :: zs) = cells cOnceH ((ys ++ [mkOnce c x]) ++ zs) := by simp [cells, cOnceH, mkOnce, marks_len]
        have e2 : (ys ++ (⟨⟨((c : Nat) : Int), ((c + 1 : Nat) : Int), ((c + 1 + 1 : Nat) : Int), x.m.waits⟩, x.q⟩ : OnceH) :: zs).length = ((ys ++ [mkOnce c x]) ++ zs).length := by simp
        rw [own_eq e1 e2]
      refine ⟨⟨(ys ++ [z], zs, nxOnce c x), by rw [i1, ← hzz]; simp [mkL], by rw [i2]; rfl, by simp; omega, fun y hy => i4 y (by simp [hy]), by simp only; omega⟩, ?_, by simp⟩
      refine weak_shift (.joinO [0, 1] (Gs := [[_], _]) ⟨.inl ⟨_, rfl, .own⟩, .inl ⟨_, rfl, .o⟩, trivial⟩ rfl (G := ((ys ++ [z]) ++ zs).flatMap onceO) (.trans (.of_eq (by rw [← hzz]; simp [onceO, mkOnce])) (perm_in onceO ys zs z))) ?_
      refine weak_mk [1, 0] ?_ ?_ ?_ ?_ ?_ rfl rfl
      · repeat (first | exact trivial | refine ⟨⟨_, rfl, (by first | exact .of rfl | exact .lit rfl | exact .of (by first | ((first | exact hrow | exact congrArg SV.v hl0 | exact congrArg (fun z => SV.v (Value.int .i64 z)) hwj2 | exact congrArg (fun z => SV.v (Value.int .i64 z)) rfl))) | exact .lit (by first | ((first | exact hrow | exact congrArg SV.v hl0 | exact congrArg (fun z => SV.v (Value.int .i64 z)) hwj2 | exact congrArg (fun z => SV.v (Value.int .i64 z)) rfl)))), (by first | exact trivial | exact Nat.le_of_ble_eq_true rfl)⟩, ?_⟩)
      · repeat (first | exact trivial | refine ⟨⟨(by first | exact .head _ | exact .tail _ (.head _) | exact .tail _ (.tail _ (.head _)) | exact .tail _ (.tail _ (.tail _ (.head _))) | exact .tail _ (.tail _ (.tail _ (.tail _ (.head _)))) | exact .tail _ (.tail _ (.tail _ (.tail _ (.tail _ (.head _))))) | exact .tail _ (.tail _ (.tail _ (.tail _ (.tail _ (.tail _ (.head _)))))) | exact .tail _ (.tail _ (.tail _ (.tail _ (.tail _ (.tail _ (.tail _ (.head _))))))) | exact .tail _ (.tail _ (.tail _ (.tail _ (.tail _ (.tail _ (.tail _ (.tail _ (.head _)))))))) | exact .tail _ (.tail _ (.tail _ (.tail _ (.tail _ (.tail _ (.tail _ (.tail _ (.tail _ (.head _)))))))))), Nat.le_of_ble_eq_true rfl⟩, ?_⟩)
      · repeat (first | exact trivial | refine ⟨⟨_, rfl, (by first | exact .of rfl | exact .lit rfl | exact .of (by first | ((first | exact hrow | exact congrArg SV.v hl0 | exact congrArg (fun z => SV.v (Value.int .i64 z)) hwj2 | exact congrArg (fun z => SV.v (Value.int .i64 z)) rfl))) | exact .lit (by first | ((first | exact hrow | exact congrArg SV.v hl0 | exact congrArg (fun z => SV.v (Value.int .i64 z)) hwj2 | exact congrArg (fun z => SV.v (Value.int .i64 z)) rfl)))), (by first | exact trivial | exact Nat.le_of_ble_eq_true rfl)⟩, ?_⟩)
      · repeat (first | exact trivial | refine ⟨⟨_, rfl⟩, ?_⟩)
      · repeat (first | exact trivial | refine ⟨.inl ⟨_, rfl, (by first | rfl | ((first | exact hrow | exact congrArg SV.v hl0 | exact congrArg (fun z => SV.v (Value.int .i64 z)) hwj2 | exact congrArg (fun z => SV.v (Value.int .i64 z)) rfl)))⟩, ?_⟩ | refine ⟨.inr ⟨Nat.le_of_ble_eq_true rfl, rfl, rfl, rfl, rfl⟩, ?_⟩)
  · cases zs with
    | nil =>
      simp only [mkL, List.append_nil] at i1
      simp only [nxL] at i2
      have hyl : ys.length = xs.length := by simpa using i3
      simp only [List.append_nil]
      refine retG_shift (.joinO [0, 1] (Gs := [[_], _]) ⟨.inl ⟨_, rfl, .own⟩, .inl ⟨_, rfl, .o⟩, trivial⟩ rfl (G := oncesO h ys) (.of_eq (by simp [oncesO, nestO]))) ?_
      exact retG [0] (L := [fO (oncesO h ys)]) ⟨congrArg (fun z : Nat => Value.int .i64 (z : Int)) i2.symm, by rw [i1]⟩ ⟨.inl ⟨_, rfl, rfl⟩, trivial⟩ rfl ⟨rfl, trivial⟩ (fun _ => rfl)
    | cons x zs => simp at g; omega

set_option maxHeartbeats 16000000 in
set_option maxRecDepth 100000 in
theorem heldOnceS_c (h : Sl) (xs : List OnceH) (k : Nat) (w : World) (hh : At w [fR (oncesO h (mkL mkOnce nxOnce k xs))]) (hl : xs.length ≤ 1048576) (hb : ∀ x ∈ xs, Once.small20 x.m) (hk : k ≤ 144115188075855872) :
    Calls Try.prog 85 #[h.val (mkL mkOnce nxOnce k xs).length, .int .i64 (k : Int)] w (Ret w fun v L => v = .int .i64 ((nxL nxOnce k xs : Nat) : Int) ∧ L = []) := by
  obtain ⟨R, hR⟩ : ∃ R, R = mkL mkOnce nxOnce k xs := ⟨_, rfl⟩
  have hRl : R.length = xs.length := by rw [hR]; exact mkL_len _ _ _ _
  rw [← hR] at hh ⊢
  refine calls2 Try.func85 rfl tabOk w _ rfl _ rfl _ hh ⟨rfl, rfl, trivial⟩ _ _ (by decide) ?_
  refine LoopW.mk ⟨{ p : Nat × List OnceH × Nat // R.drop p.1 = mkL mkOnce nxOnce p.2.2 p.2.1 ∧ nxL nxOnce k xs = nxL nxOnce p.2.2 p.2.1 ∧ p.1 + p.2.1.length = R.length ∧ (∀ x ∈ p.2.1, Once.small20 x.m) ∧ p.2.2 + p.2.1.length * 8388608 ≤ 288230376151711744 },
    fun p => .mk [(0, .v (h.val R.length)), (1, .v (.int .i64 (p.1.2.2 : Int))), (5, .v (.int .i64 (p.1.1 : Int)))] 0 0 [] [] [fR (oncesO h R)],
    fun p => p.1.2.1.length, ⟨(0, xs, k), by rw [hR]; rfl, rfl, by simp [hRl], hb, by simp only; omega⟩, ?_, ?_⟩
  · refine weak_mk [0] ?_ ?_ ?_ ?_ ?_ rfl rfl
    · repeat (first | exact trivial | refine ⟨⟨_, rfl, (by first | exact .of rfl | exact .lit rfl | exact .of (by first | (rfl)) | exact .lit (by first | (rfl))), (by first | exact trivial | exact Nat.le_of_ble_eq_true rfl)⟩, ?_⟩)
    · repeat (first | exact trivial | refine ⟨⟨(by first | exact .head _ | exact .tail _ (.head _) | exact .tail _ (.tail _ (.head _)) | exact .tail _ (.tail _ (.tail _ (.head _))) | exact .tail _ (.tail _ (.tail _ (.tail _ (.head _)))) | exact .tail _ (.tail _ (.tail _ (.tail _ (.tail _ (.head _))))) | exact .tail _ (.tail _ (.tail _ (.tail _ (.tail _ (.tail _ (.head _)))))) | exact .tail _ (.tail _ (.tail _ (.tail _ (.tail _ (.tail _ (.tail _ (.head _))))))) | exact .tail _ (.tail _ (.tail _ (.tail _ (.tail _ (.tail _ (.tail _ (.tail _ (.head _)))))))) | exact .tail _ (.tail _ (.tail _ (.tail _ (.tail _ (.tail _ (.tail _ (.tail _ (.tail _ (.head _)))))))))), Nat.le_of_ble_eq_true rfl⟩, ?_⟩)
    · repeat (first | exact trivial | refine ⟨⟨_, rfl, (by first | exact .of rfl | exact .lit rfl | exact .of (by first | (rfl)) | exact .lit (by first | (rfl))), (by first | exact trivial | exact Nat.le_of_ble_eq_true rfl)⟩, ?_⟩)
    · repeat (first | exact trivial | refine ⟨⟨_, rfl⟩, ?_⟩)
    · repeat (first | exact trivial | refine ⟨.inl ⟨_, rfl, (by first | rfl | (rfl))⟩, ?_⟩ | refine ⟨.inr ⟨Nat.le_of_ble_eq_true rfl, rfl, rfl, rfl, rfl⟩, ?_⟩)
  rintro ⟨⟨j, zs, c⟩, i1, i2, i3, i4, i5⟩
  simp only at i1 i2 i3 i4 i5
  refine CaseB.mk (fun g => ?_) (fun g => ?_)
  · have hlt : j < R.length := by simpa using g
    cases zs with
    | nil => simp at i3; omega
    | cons x zs =>
      simp only [List.length_cons] at i3 i5
      have hx := i4 x (by simp)
      have hnx := nxOnce_le c x hx
      unfold Once.small20 at hx
      rw [List.drop_eq_getElem_cons hlt] at i1
      simp only [mkL, List.cons.injEq] at i1
      obtain ⟨hv, i1⟩ := i1
      refine stop_idx encOnceH tabOk rfl rfl rfl rfl rfl ⟨rfl, rfl⟩ (rdVia 0 rfl (.ofR nest_h)) j rfl hlt (fun ad0 => ?_)
      rw [hv]
      refine CaseB.mk (fun g => by simp [mkOnce] at g) (fun _ => ?_)
      have hw1 : IntKind.i64.wrap (((c : Nat) : Int) + 1) = ((c + 1 : Nat) : Int) := e_succ (c) (c + 1) (by omega) (by omega)
      refine stop_eq 1 rfl (congrArg (Value.int .i64) hw1) ?_
      refine stop_idx encOnceH tabOk rfl rfl rfl rfl rfl ⟨rfl, rfl⟩ (rdVia 0 rfl (.ofR nest_h)) j rfl hlt (fun ad1 => ?_)
      rw [hv]
      refine CaseB.mk (fun g => by simp [mkOnce] at g) (fun _ => ?_)
      have hw2 : IntKind.i64.wrap (((c + 1 : Nat) : Int) + 1) = ((c + 1 + 1 : Nat) : Int) := e_succ (c + 1) (c + 1 + 1) (by omega) (by omega)
      refine stop_eq 1 rfl (congrArg (Value.int .i64) hw2) ?_
      refine stop_idx encOnceH tabOk rfl rfl rfl rfl rfl ⟨rfl, rfl⟩ (rdVia 0 rfl (.ofR nest_h)) j rfl hlt (fun ad2 => ?_)
      rw [hv]
      refine CaseB.mk (fun g => by simp [mkOnce] at g) (fun _ => ?_)
      have hw3 : IntKind.i64.wrap (((c + 1 + 1 : Nat) : Int) + 1) = ((c + 1 + 1 + 1 : Nat) : Int) := e_succ (c + 1 + 1) (c + 1 + 1 + 1) (by omega) (by omega)
      refine stop_eq 1 rfl (congrArg (Value.int .i64) hw3) ?_
      refine stop_idx encOnceH tabOk rfl rfl rfl rfl rfl ⟨rfl, rfl⟩ (rdVia 0 rfl (.ofR nest_h)) j rfl hlt (fun ad3 => ?_)
      rw [hv]
      have hr0 := oncesO_0 h R j hlt
      rw [hv] at hr0
      refine stop_call _ cl83 rfl rfl rfl rfl ⟨rfl, rfl⟩ (fun A w hW => heldIntS_c _ (c + 1 + 1 + 1) x.m.waits.length w ⟨hW.get 0 rfl (.ofR hr0), trivial⟩ (by omega) (by omega)) ?_
      rintro v L ⟨rfl, rfl⟩
      refine CaseB.mk (fun g => by simp at g; omega) (fun _ => ?_)
      have hwj := e_succ j R.length hlt (by omega)
      refine ⟨⟨(j + 1, zs, nxOnce c x), i1, by rw [i2]; rfl, by simp only; omega, fun y hy => i4 y (by simp [hy]), by simp only; omega⟩, ?_, by simp⟩
      refine weak_mk [0] ?_ ?_ ?_ ?_ ?_ rfl rfl
      · repeat (first | exact trivial | refine ⟨⟨_, rfl, (by first | exact .of rfl | exact .lit rfl | exact .of (by first | ((first | exact congrArg (fun z => SV.v (Value.int .i64 z)) hwj | exact congrArg (fun z => SV.v (Value.int .i64 z)) rfl))) | exact .lit (by first | ((first | exact congrArg (fun z => SV.v (Value.int .i64 z)) hwj | exact congrArg (fun z => SV.v (Value.int .i64 z)) rfl)))), (by first | exact trivial | exact Nat.le_of_ble_eq_true rfl)⟩, ?_⟩)
      · repeat (first | exact trivial | refine ⟨⟨(by first | exact .head _ | exact .tail _ (.head _) | exact .tail _ (.tail _ (.head _)) | exact .tail _ (.tail _ (.tail _ (.head _))) | exact .tail _ (.tail _ (.tail _ (.tail _ (.head _)))) | exact .tail _ (.tail _ (.tail _ (.tail _ (.tail _ (.head _))))) | exact .tail _ (.tail _ (.tail _ (.tail _ (.tail _ (.tail _ (.head _)))))) | exact .tail _ (.tail _ (.tail _ (.tail _ (.tail _ (.tail _ (.tail _ (.head _))))))) | exact .tail _ (.tail _ (.tail _ (.tail _ (.tail _ (.tail _ (.tail _ (.tail _ (.head _)))))))) | exact .tail _ (.tail _ (.tail _ (.tail _ (.tail _ (.tail _ (.tail _ (.tail _ (.tail _ (.head _)))))))))), Nat.le_of_ble_eq_true rfl⟩, ?_⟩)
      · repeat (first | exact trivial | refine ⟨⟨_, rfl, (by first | exact .of rfl | exact .lit rfl | exact .of (by first | ((first | exact congrArg (fun z => SV.v (Value.int .i64 z)) hwj | exact congrArg (fun z => SV.v (Value.int .i64 z)) rfl))) | exact .lit (by first | ((first | exact congrArg (fun z => SV.v (Value.int .i64 z)) hwj | exact congrArg (fun z => SV.v (Value.int .i64 z)) rfl)))), (by first | exact trivial | exact Nat.le_of_ble_eq_true rfl)⟩, ?_⟩)
      · repeat (first | exact trivial | refine ⟨⟨_, rfl⟩, ?_⟩)
      · repeat (first | exact trivial | refine ⟨.inl ⟨_, rfl, (by first | rfl | ((first | exact congrArg (fun z => SV.v (Value.int .i64 z)) hwj | exact congrArg (fun z => SV.v (Value.int .i64 z)) rfl)))⟩, ?_⟩ | refine ⟨.inr ⟨Nat.le_of_ble_eq_true rfl, rfl, rfl, rfl, rfl⟩, ?_⟩)
  · have hge : R.length ≤ j := by simpa using g
    cases zs with
    | nil => exact retw [] ⟨congrArg (fun z : Nat => Value.int .i64 (z : Int)) i2.symm, rfl⟩ trivial rfl trivial (fun _ => rfl)
    | cons x zs => simp at i3; omega

end Go.Proofs.Ytpopeaoklccgcaa

namespace Go.Proofs.Ytpopeaoklccgcaa

open Go Go.Sx Go.RowKit

def mkGroup (c : Nat) (x : GroupH) : GroupH := ⟨⟨((c : Nat) : Int), marks (c + 1) x.m.waits.length⟩, x.q⟩

def nxGroup (c : Nat) (x : GroupH) : Nat := c + 1 + x.m.waits.length

theorem nxGroup_le (c : Nat) (x : GroupH) (h : Group.small20 x.m) : nxGroup c x ≤ c + 8388608 := by
  unfold Group.small20 at h
  unfold nxGroup
  omega

set_option maxHeartbeats 16000000 in
set_option maxRecDepth 100000 in
theorem markGroupS_c (h : Sl) (xs : List GroupH) (k : Nat) (w : World) (hh : AtG w [fO (groupsO h xs)] []) (hl : xs.length ≤ 1048576) (hb : ∀ x ∈ xs, Group.small20 x.m) (hk : k ≤ 144115188075855872) :
    Calls Try.prog 80 #[h.val xs.length, .int .i64 (k : Int)] w (RetG w [fO (groupsO h xs)] fun v L => v = .int .i64 ((nxL nxGroup k xs : Nat) : Int) ∧ L = [fO (groupsO h (mkL mkGroup nxGroup k xs))]) := by
  refine callsG_fn Try.func80 rfl tabOk w _ rfl _ rfl _ _ hh trivial _ _ rfl rfl ?_
  refine LoopW.mk ⟨{ p : List GroupH × List GroupH × Nat // mkL mkGroup nxGroup k xs = p.1 ++ mkL mkGroup nxGroup p.2.2 p.2.1 ∧ nxL nxGroup k xs = nxL nxGroup p.2.2 p.2.1 ∧ p.1.length + p.2.1.length = xs.length ∧ (∀ x ∈ p.2.1, Group.small20 x.m) ∧ p.2.2 + p.2.1.length * 8388608 ≤ 288230376151711744 },
    fun p => .mk [(0, .v (h.val (p.1.1 ++ p.1.2.1).length)), (1, .v (.int .i64 (p.1.2.2 : Int))), (5, .v (.int .i64 (p.1.1.length : Int)))] 0 0 [] [] [own h 93 cGroupH 2 (p.1.1 ++ p.1.2.1), fO ((p.1.1 ++ p.1.2.1).flatMap groupO)],
    fun p => p.1.2.1.length, ⟨([], xs, k), by simp, rfl, by simp, hb, by simp only; omega⟩, ?_, ?_⟩
  · refine weak_shift (.splitO 0 (L := [own h 93 cGroupH 2 xs]) (G' := xs.flatMap groupO) rfl (.of_eq rfl)) ?_
    refine weak_mk [0, 1] ?_ ?_ ?_ ?_ ?_ rfl rfl
    · repeat (first | exact trivial | refine ⟨⟨_, rfl, (by first | exact .of rfl | exact .lit rfl | exact .of (by first | (rfl)) | exact .lit (by first | (rfl))), (by first | exact trivial | exact Nat.le_of_ble_eq_true rfl)⟩, ?_⟩)
    · repeat (first | exact trivial | refine ⟨⟨(by first | exact .head _ | exact .tail _ (.head _) | exact .tail _ (.tail _ (.head _)) | exact .tail _ (.tail _ (.tail _ (.head _))) | exact .tail _ (.tail _ (.tail _ (.tail _ (.head _)))) | exact .tail _ (.tail _ (.tail _ (.tail _ (.tail _ (.head _))))) | exact .tail _ (.tail _ (.tail _ (.tail _ (.tail _ (.tail _ (.head _)))))) | exact .tail _ (.tail _ (.tail _ (.tail _ (.tail _ (.tail _ (.tail _ (.head _))))))) | exact .tail _ (.tail _ (.tail _ (.tail _ (.tail _ (.tail _ (.tail _ (.tail _ (.head _)))))))) | exact .tail _ (.tail _ (.tail _ (.tail _ (.tail _ (.tail _ (.tail _ (.tail _ (.tail _ (.head _)))))))))), Nat.le_of_ble_eq_true rfl⟩, ?_⟩)
    · repeat (first | exact trivial | refine ⟨⟨_, rfl, (by first | exact .of rfl | exact .lit rfl | exact .of (by first | (rfl)) | exact .lit (by first | (rfl))), (by first | exact trivial | exact Nat.le_of_ble_eq_true rfl)⟩, ?_⟩)
    · repeat (first | exact trivial | refine ⟨⟨_, rfl⟩, ?_⟩)
    · repeat (first | exact trivial | refine ⟨.inl ⟨_, rfl, (by first | rfl | (rfl))⟩, ?_⟩ | refine ⟨.inr ⟨Nat.le_of_ble_eq_true rfl, rfl, rfl, rfl, rfl⟩, ?_⟩)
  rintro ⟨⟨ys, zs, c⟩, i1, i2, i3, i4, i5⟩
  simp only at i1 i2 i3 i4 i5
  refine CaseB.mk (fun g => ?_) (fun g => ?_)
  · cases zs with
    | nil => simp at g
    | cons x zs =>
      simp only [List.length_cons] at i3 i5
      have hx := i4 x (by simp)
      have hnx := nxGroup_le c x hx
      unfold Group.small20 at hx
      have hlt : ∀ y : GroupH, ys.length < (ys ++ y :: zs).length := fun y => by simp
      refine stop_idxW encGroupH 0 tabOk rfl rfl rfl rfl rfl ⟨rfl, rfl⟩ rfl (by first | rfl | (simp; done)) ys.length rfl (hlt _) (fun g0 hg0 => ?_)
      refine stop_fldW tabOk rfl rfl rfl rfl ⟨rfl, rfl⟩ ?_
      refine stop_storeW encGroupH 0 tabOk rfl rfl rfl rfl rfl rfl rfl rfl hg0 ys.length 0 (⟨⟨((c : Nat) : Int), x.m.waits⟩, x.q⟩ : GroupH) rfl (hlt _) rfl [.int .i64 ((c : Nat) : Int)] (fun _ => rfl) (by simp [cGroupH]) ?_
      rw [app_set]
      have hw1 : IntKind.i64.wrap (((c : Nat) : Int) + 1) = ((c + 1 : Nat) : Int) := e_succ (c) (c + 1) (by omega) (by omega)
      refine stop_eq 1 rfl (congrArg (Value.int .i64) hw1) ?_
      refine stop_idx encGroupH (xs := ys ++ (⟨⟨((c : Nat) : Int), x.m.waits⟩, x.q⟩ : GroupH) :: zs) tabOk rfl (Eq.trans rfl (congrArg (fun n => some (SV.v (h.val n))) (by simp))) rfl rfl rfl ⟨rfl, rfl⟩ (rdOwnAt 0 rfl) ys.length rfl (hlt _) (fun ad1 => ?_)
      rw [app_get]
      refine stop_shift (.splitO 1 (L := groupO x) (G' := (ys ++ zs).flatMap groupO) rfl (perm_out groupO ys zs x)) ?_
      refine stop_callG _ [0] (G := [_]) cl76 rfl rfl rfl rfl ⟨rfl, rfl⟩ ⟨rfl, trivial⟩ ⟨rfl, rfl, trivial⟩ (fun A w hW => (markIntS_c _ _ (c + 1) w (hW.atG [0] (G := [_]) ⟨rfl, trivial⟩ rfl ⟨rfl, rfl, trivial⟩ [] (Fo := []) trivial rfl) (by first | omega | (simp only; omega)) (by omega))) ?_
      rintro v L ⟨rfl, rfl⟩
      have hwj := e_succ ys.length xs.length (by omega) (by omega)
      have hz : nxGroup c x = c + 1 + x.m.waits.length := rfl
      generalize hzz : mkGroup c x = z
      have hwj2 : IntKind.i64.wrap ((ys.length : Int) + 1) = (((ys ++ [z]).length : Nat) : Int) := by rw [hwj]; simp
      have hl0 : h.val (ys ++ x :: zs).length = h.val ((ys ++ [z]) ++ zs).length := congrArg h.val (by simp)
      have hrow : own h 93 cGroupH 2 (ys ++ (⟨⟨((c : Nat) : Int), x.m.waits⟩, x.q⟩ : GroupH) :: zs) = own h 93 cGroupH 2 ((ys ++ [z]) ++ zs) := by
        subst hzz
        have e1 : cells cGroupH (ys ++ (⟨⟨((c : Nat) : Int), x.m.waits⟩, x.q⟩ : GroupH) :: zs) = cells cGroupH ((ys ++ [mkGroup c x]) ++ zs) := by simp [cells, cGroupH, mkGroup, marks_len]
        have e2 : (ys ++ (⟨⟨((c : Nat) : Int), x.m.waits⟩, x.q⟩ : GroupH) :: zs).length = ((ys ++ [mkGroup c x]) ++ zs).length := by simp
        rw [own_eq e1 e2]
      refine ⟨⟨(ys ++ [z], zs, nxGroup c x), by rw [i1, ← hzz]; simp [mkL], by rw [i2]; rfl, by simp; omega, fun y hy => i4 y (by simp [hy]), by simp only; omega⟩, ?_, by simp⟩
      refine weak_shift (.joinO [0, 1] (Gs := [[_], _]) ⟨.inl ⟨_, rfl, .own⟩, .inl ⟨_, rfl, .o⟩, trivial⟩ rfl (G := ((ys ++ [z]) ++ zs).flatMap groupO) (.trans (.of_eq (by rw [← hzz]; simp [groupO, mkGroup])) (perm_in groupO ys zs z))) ?_
      refine weak_mk [1, 0] ?_ ?_ ?_ ?_ ?_ rfl rfl
      · repeat (first | exact trivial | refine ⟨⟨_, rfl, (by first | exact .of rfl | exact .lit rfl | exact .of (by first | ((first | exact hrow | exact congrArg SV.v hl0 | exact congrArg (fun z => SV.v (Value.int .i64 z)) hwj2 | exact congrArg (fun z => SV.v (Value.int .i64 z)) rfl))) | exact .lit (by first | ((first | exact hrow | exact congrArg SV.v hl0 | exact congrArg (fun z => SV.v (Value.int .i64 z)) hwj2 | exact congrArg (fun z => SV.v (Value.int .i64 z)) rfl)))), (by first | exact trivial | exact Nat.le_of_ble_eq_true rfl)⟩, ?_⟩)
      · repeat (first | exact trivial | refine ⟨⟨(by first | exact .head _ | exact .tail _ (.head _) | exact .tail _ (.tail _ (.head _)) | exact .tail _ (.tail _ (.tail _ (.head _))) | exact .tail _ (.tail _ (.tail _ (.tail _ (.head _)))) | exact .tail _ (.tail _ (.tail _ (.tail _ (.tail _ (.head _))))) | exact .tail _ (.tail _ (.tail _ (.tail _ (.tail _ (.tail _ (.head _)))))) | exact .tail _ (.tail _ (.tail _ (.tail _ (.tail _ (.tail _ (.tail _ (.head _))))))) | exact .tail _ (.tail _ (.tail _ (.tail _ (.tail _ (.tail _ (.tail _ (.tail _ (.head _)))))))) | exact .tail _ (.tail _ (.tail _ (.tail _ (.tail _ (.tail _ (.tail _ (.tail _ (.tail _ (.head _)))))))))), Nat.le_of_ble_eq_true rfl⟩, ?_⟩)
      · repeat (first | exact trivial | refine ⟨⟨_, rfl, (by first | exact .of rfl | exact .lit rfl | exact .of (by first | ((first | exact hrow | exact congrArg SV.v hl0 | exact congrArg (fun z => SV.v (Value.int .i64 z)) hwj2 | exact congrArg (fun z => SV.v (Value.int .i64 z)) rfl))) | exact .lit (by first | ((first | exact hrow | exact congrArg SV.v hl0 | exact congrArg (fun z => SV.v (Value.int .i64 z)) hwj2 | exact congrArg (fun z => SV.v (Value.int .i64 z)) rfl)))), (by first | exact trivial | exact Nat.le_of_ble_eq_true rfl)⟩, ?_⟩)
      · repeat (first | exact trivial | refine ⟨⟨_, rfl⟩, ?_⟩)
      · repeat (first | exact trivial | refine ⟨.inl ⟨_, rfl, (by first | rfl | ((first | exact hrow | exact congrArg SV.v hl0 | exact congrArg (fun z => SV.v (Value.int .i64 z)) hwj2 | exact congrArg (fun z => SV.v (Value.int .i64 z)) rfl)))⟩, ?_⟩ | refine ⟨.inr ⟨Nat.le_of_ble_eq_true rfl, rfl, rfl, rfl, rfl⟩, ?_⟩)
  · cases zs with
    | nil =>
      simp only [mkL, List.append_nil] at i1
      simp only [nxL] at i2
      have hyl : ys.length = xs.length := by simpa using i3
      simp only [List.append_nil]
      refine retG_shift (.joinO [0, 1] (Gs := [[_], _]) ⟨.inl ⟨_, rfl, .own⟩, .inl ⟨_, rfl, .o⟩, trivial⟩ rfl (G := groupsO h ys) (.of_eq (by simp [groupsO, nestO]))) ?_
      exact retG [0] (L := [fO (groupsO h ys)]) ⟨congrArg (fun z : Nat => Value.int .i64 (z : Int)) i2.symm, by rw [i1]⟩ ⟨.inl ⟨_, rfl, rfl⟩, trivial⟩ rfl ⟨rfl, trivial⟩ (fun _ => rfl)
    | cons x zs => simp at g; omega

set_option maxHeartbeats 16000000 in
set_option maxRecDepth 100000 in
theorem heldGroupS_c (h : Sl) (xs : List GroupH) (k : Nat) (w : World) (hh : At w [fR (groupsO h (mkL mkGroup nxGroup k xs))]) (hl : xs.length ≤ 1048576) (hb : ∀ x ∈ xs, Group.small20 x.m) (hk : k ≤ 144115188075855872) :
    Calls Try.prog 86 #[h.val (mkL mkGroup nxGroup k xs).length, .int .i64 (k : Int)] w (Ret w fun v L => v = .int .i64 ((nxL nxGroup k xs : Nat) : Int) ∧ L = []) := by
  obtain ⟨R, hR⟩ : ∃ R, R = mkL mkGroup nxGroup k xs := ⟨_, rfl⟩
  have hRl : R.length = xs.length := by rw [hR]; exact mkL_len _ _ _ _
  rw [← hR] at hh ⊢
  refine calls2 Try.func86 rfl tabOk w _ rfl _ rfl _ hh ⟨rfl, rfl, trivial⟩ _ _ (by decide) ?_
  refine LoopW.mk ⟨{ p : Nat × List GroupH × Nat // R.drop p.1 = mkL mkGroup nxGroup p.2.2 p.2.1 ∧ nxL nxGroup k xs = nxL nxGroup p.2.2 p.2.1 ∧ p.1 + p.2.1.length = R.length ∧ (∀ x ∈ p.2.1, Group.small20 x.m) ∧ p.2.2 + p.2.1.length * 8388608 ≤ 288230376151711744 },
    fun p => .mk [(0, .v (h.val R.length)), (1, .v (.int .i64 (p.1.2.2 : Int))), (5, .v (.int .i64 (p.1.1 : Int)))] 0 0 [] [] [fR (groupsO h R)],
    fun p => p.1.2.1.length, ⟨(0, xs, k), by rw [hR]; rfl, rfl, by simp [hRl], hb, by simp only; omega⟩, ?_, ?_⟩
  · refine weak_mk [0] ?_ ?_ ?_ ?_ ?_ rfl rfl
    · repeat (first | exact trivial | refine ⟨⟨_, rfl, (by first | exact .of rfl | exact .lit rfl | exact .of (by first | (rfl)) | exact .lit (by first | (rfl))), (by first | exact trivial | exact Nat.le_of_ble_eq_true rfl)⟩, ?_⟩)
    · repeat (first | exact trivial | refine ⟨⟨(by first | exact .head _ | exact .tail _ (.head _) | exact .tail _ (.tail _ (.head _)) | exact .tail _ (.tail _ (.tail _ (.head _))) | exact .tail _ (.tail _ (.tail _ (.tail _ (.head _)))) | exact .tail _ (.tail _ (.tail _ (.tail _ (.tail _ (.head _))))) | exact .tail _ (.tail _ (.tail _ (.tail _ (.tail _ (.tail _ (.head _)))))) | exact .tail _ (.tail _ (.tail _ (.tail _ (.tail _ (.tail _ (.tail _ (.head _))))))) | exact .tail _ (.tail _ (.tail _ (.tail _ (.tail _ (.tail _ (.tail _ (.tail _ (.head _)))))))) | exact .tail _ (.tail _ (.tail _ (.tail _ (.tail _ (.tail _ (.tail _ (.tail _ (.tail _ (.head _)))))))))), Nat.le_of_ble_eq_true rfl⟩, ?_⟩)
    · repeat (first | exact trivial | refine ⟨⟨_, rfl, (by first | exact .of rfl | exact .lit rfl | exact .of (by first | (rfl)) | exact .lit (by first | (rfl))), (by first | exact trivial | exact Nat.le_of_ble_eq_true rfl)⟩, ?_⟩)
    · repeat (first | exact trivial | refine ⟨⟨_, rfl⟩, ?_⟩)
    · repeat (first | exact trivial | refine ⟨.inl ⟨_, rfl, (by first | rfl | (rfl))⟩, ?_⟩ | refine ⟨.inr ⟨Nat.le_of_ble_eq_true rfl, rfl, rfl, rfl, rfl⟩, ?_⟩)
  rintro ⟨⟨j, zs, c⟩, i1, i2, i3, i4, i5⟩
  simp only at i1 i2 i3 i4 i5
  refine CaseB.mk (fun g => ?_) (fun g => ?_)
  · have hlt : j < R.length := by simpa using g
    cases zs with
    | nil => simp at i3; omega
    | cons x zs =>
      simp only [List.length_cons] at i3 i5
      have hx := i4 x (by simp)
      have hnx := nxGroup_le c x hx
      unfold Group.small20 at hx
      rw [List.drop_eq_getElem_cons hlt] at i1
      simp only [mkL, List.cons.injEq] at i1
      obtain ⟨hv, i1⟩ := i1
      refine stop_idx encGroupH tabOk rfl rfl rfl rfl rfl ⟨rfl, rfl⟩ (rdVia 0 rfl (.ofR nest_h)) j rfl hlt (fun ad0 => ?_)
      rw [hv]
      refine CaseB.mk (fun g => by simp [mkGroup] at g) (fun _ => ?_)
      have hw1 : IntKind.i64.wrap (((c : Nat) : Int) + 1) = ((c + 1 : Nat) : Int) := e_succ (c) (c + 1) (by omega) (by omega)
      refine stop_eq 1 rfl (congrArg (Value.int .i64) hw1) ?_
      refine stop_idx encGroupH tabOk rfl rfl rfl rfl rfl ⟨rfl, rfl⟩ (rdVia 0 rfl (.ofR nest_h)) j rfl hlt (fun ad1 => ?_)
      rw [hv]
      have hr0 := groupsO_0 h R j hlt
      rw [hv] at hr0
      refine stop_call _ cl83 rfl rfl rfl rfl ⟨rfl, rfl⟩ (fun A w hW => heldIntS_c _ (c + 1) x.m.waits.length w ⟨hW.get 0 rfl (.ofR hr0), trivial⟩ (by omega) (by omega)) ?_
      rintro v L ⟨rfl, rfl⟩
      refine CaseB.mk (fun g => by simp at g; omega) (fun _ => ?_)
      have hwj := e_succ j R.length hlt (by omega)
      refine ⟨⟨(j + 1, zs, nxGroup c x), i1, by rw [i2]; rfl, by simp only; omega, fun y hy => i4 y (by simp [hy]), by simp only; omega⟩, ?_, by simp⟩
      refine weak_mk [0] ?_ ?_ ?_ ?_ ?_ rfl rfl
      · repeat (first | exact trivial | refine ⟨⟨_, rfl, (by first | exact .of rfl | exact .lit rfl | exact .of (by first | ((first | exact congrArg (fun z => SV.v (Value.int .i64 z)) hwj | exact congrArg (fun z => SV.v (Value.int .i64 z)) rfl))) | exact .lit (by first | ((first | exact congrArg (fun z => SV.v (Value.int .i64 z)) hwj | exact congrArg (fun z => SV.v (Value.int .i64 z)) rfl)))), (by first | exact trivial | exact Nat.le_of_ble_eq_true rfl)⟩, ?_⟩)
      · repeat (first | exact trivial | refine ⟨⟨(by first | exact .head _ | exact .tail _ (.head _) | exact .tail _ (.tail _ (.head _)) | exact .tail _ (.tail _ (.tail _ (.head _))) | exact .tail _ (.tail _ (.tail _ (.tail _ (.head _)))) | exact .tail _ (.tail _ (.tail _ (.tail _ (.tail _ (.head _))))) | exact .tail _ (.tail _ (.tail _ (.tail _ (.tail _ (.tail _ (.head _)))))) | exact .tail _ (.tail _ (.tail _ (.tail _ (.tail _ (.tail _ (.tail _ (.head _))))))) | exact .tail _ (.tail _ (.tail _ (.tail _ (.tail _ (.tail _ (.tail _ (.tail _ (.head _)))))))) | exact .tail _ (.tail _ (.tail _ (.tail _ (.tail _ (.tail _ (.tail _ (.tail _ (.tail _ (.head _)))))))))), Nat.le_of_ble_eq_true rfl⟩, ?_⟩)
      · repeat (first | exact trivial | refine ⟨⟨_, rfl, (by first | exact .of rfl | exact .lit rfl | exact .of (by first | ((first | exact congrArg (fun z => SV.v (Value.int .i64 z)) hwj | exact congrArg (fun z => SV.v (Value.int .i64 z)) rfl))) | exact .lit (by first | ((first | exact congrArg (fun z => SV.v (Value.int .i64 z)) hwj | exact congrArg (fun z => SV.v (Value.int .i64 z)) rfl)))), (by first | exact trivial | exact Nat.le_of_ble_eq_true rfl)⟩, ?_⟩)
      · repeat (first | exact trivial | refine ⟨⟨_, rfl⟩, ?_⟩)
      · repeat (first | exact trivial | refine ⟨.inl ⟨_, rfl, (by first | rfl | ((first | exact congrArg (fun z => SV.v (Value.int .i64 z)) hwj | exact congrArg (fun z => SV.v (Value.int .i64 z)) rfl)))⟩, ?_⟩ | refine ⟨.inr ⟨Nat.le_of_ble_eq_true rfl, rfl, rfl, rfl, rfl⟩, ?_⟩)
  · have hge : R.length ≤ j := by simpa using g
    cases zs with
    | nil => exact retw [] ⟨congrArg (fun z : Nat => Value.int .i64 (z : Int)) i2.symm, rfl⟩ trivial rfl trivial (fun _ => rfl)
    | cons x zs => simp at i3; omega

end Go.Proofs.Ytpopeaoklccgcaa

namespace Go.Proofs.Ytpopeaoklccgcaa

open Go Go.Sx Go.RowKit

def mkBarrier (c : Nat) (x : BarrierH) : BarrierH := ⟨⟨((c : Nat) : Int), ((c + 1 : Nat) : Int), marks (c + 1 + 1) x.m.waits.length⟩, x.q⟩

def nxBarrier (c : Nat) (x : BarrierH) : Nat := c + 1 + 1 + x.m.waits.length

theorem nxBarrier_le (c : Nat) (x : BarrierH) (h : Barrier.small20 x.m) : nxBarrier c x ≤ c + 8388608 := by
  unfold Barrier.small20 at h
  unfold nxBarrier
  omega

set_option maxHeartbeats 16000000 in
set_option maxRecDepth 100000 in
theorem markBarrierS_c (h : Sl) (xs : List BarrierH) (k : Nat) (w : World) (hh : AtG w [fO (barriersO h xs)] []) (hl : xs.length ≤ 1048576) (hb : ∀ x ∈ xs, Barrier.small20 x.m) (hk : k ≤ 144115188075855872) :
    Calls Try.prog 81 #[h.val xs.length, .int .i64 (k : Int)] w (RetG w [fO (barriersO h xs)] fun v L => v = .int .i64 ((nxL nxBarrier k xs : Nat) : Int) ∧ L = [fO (barriersO h (mkL mkBarrier nxBarrier k xs))]) := by
  refine callsG_fn Try.func81 rfl tabOk w _ rfl _ rfl _ _ hh trivial _ _ rfl rfl ?_
  refine LoopW.mk ⟨{ p : List BarrierH × List BarrierH × Nat // mkL mkBarrier nxBarrier k xs = p.1 ++ mkL mkBarrier nxBarrier p.2.2 p.2.1 ∧ nxL nxBarrier k xs = nxL nxBarrier p.2.2 p.2.1 ∧ p.1.length + p.2.1.length = xs.length ∧ (∀ x ∈ p.2.1, Barrier.small20 x.m) ∧ p.2.2 + p.2.1.length * 8388608 ≤ 288230376151711744 },
    fun p => .mk [(0, .v (h.val (p.1.1 ++ p.1.2.1).length)), (1, .v (.int .i64 (p.1.2.2 : Int))), (5, .v (.int .i64 (p.1.1.length : Int)))] 0 0 [] [] [own h 70 cBarrierH 3 (p.1.1 ++ p.1.2.1), fO ((p.1.1 ++ p.1.2.1).flatMap barrierO)],
    fun p => p.1.2.1.length, ⟨([], xs, k), by simp, rfl, by simp, hb, by simp only; omega⟩, ?_, ?_⟩
  · refine weak_shift (.splitO 0 (L := [own h 70 cBarrierH 3 xs]) (G' := xs.flatMap barrierO) rfl (.of_eq rfl)) ?_
    refine weak_mk [0, 1] ?_ ?_ ?_ ?_ ?_ rfl rfl
    · repeat (first | exact trivial | refine ⟨⟨_, rfl, (by first | exact .of rfl | exact .lit rfl | exact .of (by first | (rfl)) | exact .lit (by first | (rfl))), (by first | exact trivial | exact Nat.le_of_ble_eq_true rfl)⟩, ?_⟩)
    · repeat (first | exact trivial | refine ⟨⟨(by first | exact .head _ | exact .tail _ (.head _) | exact .tail _ (.tail _ (.head _)) | exact .tail _ (.tail _ (.tail _ (.head _))) | exact .tail _ (.tail _ (.tail _ (.tail _ (.head _)))) | exact .tail _ (.tail _ (.tail _ (.tail _ (.tail _ (.head _))))) | exact .tail _ (.tail _ (.tail _ (.tail _ (.tail _ (.tail _ (.head _)))))) | exact .tail _ (.tail _ (.tail _ (.tail _ (.tail _ (.tail _ (.tail _ (.head _))))))) | exact .tail _ (.tail _ (.tail _ (.tail _ (.tail _ (.tail _ (.tail _ (.tail _ (.head _)))))))) | exact .tail _ (.tail _ (.tail _ (.tail _ (.tail _ (.tail _ (.tail _ (.tail _ (.tail _ (.head _)))))))))), Nat.le_of_ble_eq_true rfl⟩, ?_⟩)
    · repeat (first | exact trivial | refine ⟨⟨_, rfl, (by first | exact .of rfl | exact .lit rfl | exact .of (by first | (rfl)) | exact .lit (by first | (rfl))), (by first | exact trivial | exact Nat.le_of_ble_eq_true rfl)⟩, ?_⟩)
    · repeat (first | exact trivial | refine ⟨⟨_, rfl⟩, ?_⟩)
    · repeat (first | exact trivial | refine ⟨.inl ⟨_, rfl, (by first | rfl | (rfl))⟩, ?_⟩ | refine ⟨.inr ⟨Nat.le_of_ble_eq_true rfl, rfl, rfl, rfl, rfl⟩, ?_⟩)
  rintro ⟨⟨ys, zs, c⟩, i1, i2, i3, i4, i5⟩
  simp only at i1 i2 i3 i4 i5
  refine CaseB.mk (fun g => ?_) (fun g => ?_)
  · cases zs with
    | nil => simp at g
    | cons x zs =>
      simp only [List.length_cons] at i3 i5
      have hx := i4 x (by simp)
      have hnx := nxBarrier_le c x hx
      unfold Barrier.small20 at hx
      have hlt : ∀ y : BarrierH, ys.length < (ys ++ y :: zs).length := fun y => by simp
      refine stop_idxW encBarrierH 0 tabOk rfl rfl rfl rfl rfl ⟨rfl, rfl⟩ rfl (by first | rfl | (simp; done)) ys.length rfl (hlt _) (fun g0 hg0 => ?_)
      refine stop_fldW tabOk rfl rfl rfl rfl ⟨rfl, rfl⟩ ?_
      refine stop_storeW encBarrierH 0 tabOk rfl rfl rfl rfl rfl rfl rfl rfl hg0 ys.length 0 (⟨⟨((c : Nat) : Int), x.m.round, x.m.waits⟩, x.q⟩ : BarrierH) rfl (hlt _) rfl [.int .i64 ((c : Nat) : Int)] (fun _ => rfl) (by simp [cBarrierH]) ?_
      rw [app_set]
      have hw1 : IntKind.i64.wrap (((c : Nat) : Int) + 1) = ((c + 1 : Nat) : Int) := e_succ (c) (c + 1) (by omega) (by omega)
      refine stop_eq 1 rfl (congrArg (Value.int .i64) hw1) ?_
      refine stop_idxW encBarrierH 0 tabOk rfl rfl rfl rfl rfl ⟨rfl, rfl⟩ rfl (by first | rfl | (simp; done)) ys.length rfl (hlt _) (fun g1 hg1 => ?_)
      refine stop_fldW tabOk rfl rfl rfl rfl ⟨rfl, rfl⟩ ?_
      refine stop_storeW encBarrierH 0 tabOk rfl rfl rfl rfl rfl rfl rfl rfl hg1 ys.length 1 (⟨⟨((c : Nat) : Int), ((c + 1 : Nat) : Int), x.m.waits⟩, x.q⟩ : BarrierH) rfl (hlt _) rfl [.int .i64 ((c + 1 : Nat) : Int)] (fun _ => by simp only [List.map_cons, List.map_nil, SV.den, hw1]) (by simp [cBarrierH]) ?_
      rw [app_set]
      have hw2 : IntKind.i64.wrap (((c + 1 : Nat) : Int) + 1) = ((c + 1 + 1 : Nat) : Int) := e_succ (c + 1) (c + 1 + 1) (by omega) (by omega)
      refine stop_eq 1 rfl (congrArg (Value.int .i64) hw2) ?_
      refine stop_idx encBarrierH (xs := ys ++ (⟨⟨((c : Nat) : Int), ((c + 1 : Nat) : Int), x.m.waits⟩, x.q⟩ : BarrierH) :: zs) tabOk rfl (Eq.trans rfl (congrArg (fun n => some (SV.v (h.val n))) (by simp))) rfl rfl rfl ⟨rfl, rfl⟩ (rdOwnAt 0 rfl) ys.length rfl (hlt _) (fun ad2 => ?_)
      rw [app_get]
      refine stop_shift (.splitO 1 (L := barrierO x) (G' := (ys ++ zs).flatMap barrierO) rfl (perm_out barrierO ys zs x)) ?_
      refine stop_callG _ [0] (G := [_]) cl76 rfl rfl rfl rfl ⟨rfl, rfl⟩ ⟨rfl, trivial⟩ ⟨rfl, rfl, trivial⟩ (fun A w hW => (markIntS_c _ _ (c + 1 + 1) w (hW.atG [0] (G := [_]) ⟨rfl, trivial⟩ rfl ⟨rfl, rfl, trivial⟩ [] (Fo := []) trivial rfl) (by first | omega | (simp only; omega)) (by omega))) ?_
      rintro v L ⟨rfl, rfl⟩
      have hwj := e_succ ys.length xs.length (by omega) (by omega)
      have hz : nxBarrier c x = c + 1 + 1 + x.m.waits.length := rfl
      generalize hzz : mkBarrier c x = z
      have hwj2 : IntKind.i64.wrap ((ys.length : Int) + 1) = (((ys ++ [z]).length : Nat) : Int) := by rw [hwj]; simp
      have hl0 : h.val (ys ++ x :: zs).length = h.val ((ys ++ [z]) ++ zs).length := congrArg h.val (by simp)
      have hrow : own h 70 cBarrierH 3 (ys ++ (⟨⟨((c : Nat) : Int), ((c + 1 : Nat) : Int), x.m.waits⟩, x.q⟩ : BarrierH) :: zs) = own h 70 cBarrierH 3 ((ys ++ [z]) ++ zs) := by
        subst hzz
        have e1 : cells cBarrierH (ys ++ (⟨⟨((c : Nat) : Int), ((c + 1 : Nat) : Int), x.m.waits⟩, x.q⟩ : BarrierH) :: zs) = cells cBarrierH ((ys ++ [mkBarrier c x]) ++ zs) := by simp [cells, cBarrierH, mkBarrier, marks_len]
        have e2 : (ys ++ (⟨⟨((c : Nat) : Int), ((c + 1 : Nat) : Int), x.m.waits⟩, x.q⟩ : BarrierH) :: zs).length = ((ys ++ [mkBarrier c x]) ++ zs).length := by simp
        rw [own_eq e1 e2]
      refine ⟨⟨(ys ++ [z], zs, nxBarrier c x), by rw [i1, ← hzz]; simp [mkL], by rw [i2]; rfl, by simp; omega, fun y hy => i4 y (by simp [hy]), by simp only; omega⟩, ?_, by simp⟩
      refine weak_shift (.joinO [0, 1] (Gs := [[_], _]) ⟨.inl ⟨_, rfl, .own⟩, .inl ⟨_, rfl, .o⟩, trivial⟩ rfl (G := ((ys ++ [z]) ++ zs).flatMap barrierO) (.trans (.of_eq (by rw [← hzz]; simp [barrierO, mkBarrier])) (perm_in barrierO ys zs z))) ?_
      refine weak_mk [1, 0] ?_ ?_ ?_ ?_ ?_ rfl rfl
      · repeat (first | exact trivial | refine ⟨⟨_, rfl, (by first | exact .of rfl | exact .lit rfl | exact .of (by first | ((first | exact hrow | exact congrArg SV.v hl0 | exact congrArg (fun z => SV.v (Value.int .i64 z)) hwj2 | exact congrArg (fun z => SV.v (Value.int .i64 z)) rfl))) | exact .lit (by first | ((first | exact hrow | exact congrArg SV.v hl0 | exact congrArg (fun z => SV.v (Value.int .i64 z)) hwj2 | exact congrArg (fun z => SV.v (Value.int .i64 z)) rfl)))), (by first | exact trivial | exact Nat.le_of_ble_eq_true rfl)⟩, ?_⟩)
      · repeat (first | exact trivial | refine ⟨⟨(by first | exact .head _ | exact .tail _ (.head _) | exact .tail _ (.tail _ (.head _)) | exact .tail _ (.tail _ (.tail _ (.head _))) | exact .tail _ (.tail _ (.tail _ (.tail _ (.head _)))) | exact .tail _ (.tail _ (.tail _ (.tail _ (.tail _ (.head _))))) | exact .tail _ (.tail _ (.tail _ (.tail _ (.tail _ (.tail _ (.head _)))))) | exact .tail _ (.tail _ (.tail _ (.tail _ (.tail _ (.tail _ (.tail _ (.head _))))))) | exact .tail _ (.tail _ (.tail _ (.tail _ (.tail _ (.tail _ (.tail _ (.tail _ (.head _)))))))) | exact .tail _ (.tail _ (.tail _ (.tail _ (.tail _ (.tail _ (.tail _ (.tail _ (.tail _ (.head _)))))))))), Nat.le_of_ble_eq_true rfl⟩, ?_⟩)
      · repeat (first | exact trivial | refine ⟨⟨_, rfl, (by first | exact .of rfl | exact .lit rfl | exact .of (by first | ((first | exact hrow | exact congrArg SV.v hl0 | exact congrArg (fun z => SV.v (Value.int .i64 z)) hwj2 | exact congrArg (fun z => SV.v (Value.int .i64 z)) rfl))) | exact .lit (by first | ((first | exact hrow | exact congrArg SV.v hl0 | exact congrArg (fun z => SV.v (Value.int .i64 z)) hwj2 | exact congrArg (fun z => SV.v (Value.int .i64 z)) rfl)))), (by first | exact trivial | exact Nat.le_of_ble_eq_true rfl)⟩, ?_⟩)
      · repeat (first | exact trivial | refine ⟨⟨_, rfl⟩, ?_⟩)
      · repeat (first | exact trivial | refine ⟨.inl ⟨_, rfl, (by first | rfl | ((first | exact hrow | exact congrArg SV.v hl0 | exact congrArg (fun z => SV.v (Value.int .i64 z)) hwj2 | exact congrArg (fun z => SV.v (Value.int .i64 z)) rfl)))⟩, ?_⟩ | refine ⟨.inr ⟨Nat.le_of_ble_eq_true rfl, rfl, rfl, rfl, rfl⟩, ?_⟩)
  · cases zs with
    | nil =>
      simp only [mkL, List.append_nil] at i1
      simp only [nxL] at i2
      have hyl : ys.length = xs.length := by simpa using i3
      simp only [List.append_nil]
      refine retG_shift (.joinO [0, 1] (Gs := [[_], _]) ⟨.inl ⟨_, rfl, .own⟩, .inl ⟨_, rfl, .o⟩, trivial⟩ rfl (G := barriersO h ys) (.of_eq (by simp [barriersO, nestO]))) ?_
      exact retG [0] (L := [fO (barriersO h ys)]) ⟨congrArg (fun z : Nat => Value.int .i64 (z : Int)) i2.symm, by rw [i1]⟩ ⟨.inl ⟨_, rfl, rfl⟩, trivial⟩ rfl ⟨rfl, trivial⟩ (fun _ => rfl)
    | cons x zs => simp at g; omega

set_option maxHeartbeats 16000000 in
set_option maxRecDepth 100000 in
theorem heldBarrierS_c (h : Sl) (xs : List BarrierH) (k : Nat) (w : World) (hh : At w [fR (barriersO h (mkL mkBarrier nxBarrier k xs))]) (hl : xs.length ≤ 1048576) (hb : ∀ x ∈ xs, Barrier.small20 x.m) (hk : k ≤ 144115188075855872) :
    Calls Try.prog 87 #[h.val (mkL mkBarrier nxBarrier k xs).length, .int .i64 (k : Int)] w (Ret w fun v L => v = .int .i64 ((nxL nxBarrier k xs : Nat) : Int) ∧ L = []) := by
  obtain ⟨R, hR⟩ : ∃ R, R = mkL mkBarrier nxBarrier k xs := ⟨_, rfl⟩
  have hRl : R.length = xs.length := by rw [hR]; exact mkL_len _ _ _ _
  rw [← hR] at hh ⊢
  refine calls2 Try.func87 rfl tabOk w _ rfl _ rfl _ hh ⟨rfl, rfl, trivial⟩ _ _ (by decide) ?_
  refine LoopW.mk ⟨{ p : Nat × List BarrierH × Nat // R.drop p.1 = mkL mkBarrier nxBarrier p.2.2 p.2.1 ∧ nxL nxBarrier k xs = nxL nxBarrier p.2.2 p.2.1 ∧ p.1 + p.2.1.length = R.length ∧ (∀ x ∈ p.2.1, Barrier.small20 x.m) ∧ p.2.2 + p.2.1.length * 8388608 ≤ 288230376151711744 },
    fun p => .mk [(0, .v (h.val R.length)), (1, .v (.int .i64 (p.1.2.2 : Int))), (5, .v (.int .i64 (p.1.1 : Int)))] 0 0 [] [] [fR (barriersO h R)],
    fun p => p.1.2.1.length, ⟨(0, xs, k), by rw [hR]; rfl, rfl, by simp [hRl], hb, by simp only; omega⟩, ?_, ?_⟩
  · refine weak_mk [0] ?_ ?_ ?_ ?_ ?_ rfl rfl
    · repeat (first | exact trivial | refine ⟨⟨_, rfl, (by first | exact .of rfl | exact .lit rfl | exact .of (by first | (rfl)) | exact .lit (by first | (rfl))), (by first | exact trivial | exact Nat.le_of_ble_eq_true rfl)⟩, ?_⟩)
    · repeat (first | exact trivial | refine ⟨⟨(by first | exact .head _ | exact .tail _ (.head _) | exact .tail _ (.tail _ (.head _)) | exact .tail _ (.tail _ (.tail _ (.head _))) | exact .tail _ (.tail _ (.tail _ (.tail _ (.head _)))) | exact .tail _ (.tail _ (.tail _ (.tail _ (.tail _ (.head _))))) | exact .tail _ (.tail _ (.tail _ (.tail _ (.tail _ (.tail _ (.head _)))))) | exact .tail _ (.tail _ (.tail _ (.tail _ (.tail _ (.tail _ (.tail _ (.head _))))))) | exact .tail _ (.tail _ (.tail _ (.tail _ (.tail _ (.tail _ (.tail _ (.tail _ (.head _)))))))) | exact .tail _ (.tail _ (.tail _ (.tail _ (.tail _ (.tail _ (.tail _ (.tail _ (.tail _ (.head _)))))))))), Nat.le_of_ble_eq_true rfl⟩, ?_⟩)
    · repeat (first | exact trivial | refine ⟨⟨_, rfl, (by first | exact .of rfl | exact .lit rfl | exact .of (by first | (rfl)) | exact .lit (by first | (rfl))), (by first | exact trivial | exact Nat.le_of_ble_eq_true rfl)⟩, ?_⟩)
    · repeat (first | exact trivial | refine ⟨⟨_, rfl⟩, ?_⟩)
    · repeat (first | exact trivial | refine ⟨.inl ⟨_, rfl, (by first | rfl | (rfl))⟩, ?_⟩ | refine ⟨.inr ⟨Nat.le_of_ble_eq_true rfl, rfl, rfl, rfl, rfl⟩, ?_⟩)
  rintro ⟨⟨j, zs, c⟩, i1, i2, i3, i4, i5⟩
  simp only at i1 i2 i3 i4 i5
  refine CaseB.mk (fun g => ?_) (fun g => ?_)
  · have hlt : j < R.length := by simpa using g
    cases zs with
    | nil => simp at i3; omega
    | cons x zs =>
      simp only [List.length_cons] at i3 i5
      have hx := i4 x (by simp)
      have hnx := nxBarrier_le c x hx
      unfold Barrier.small20 at hx
      rw [List.drop_eq_getElem_cons hlt] at i1
      simp only [mkL, List.cons.injEq] at i1
      obtain ⟨hv, i1⟩ := i1
      refine stop_idx encBarrierH tabOk rfl rfl rfl rfl rfl ⟨rfl, rfl⟩ (rdVia 0 rfl (.ofR nest_h)) j rfl hlt (fun ad0 => ?_)
      rw [hv]
      refine CaseB.mk (fun g => by simp [mkBarrier] at g) (fun _ => ?_)
      have hw1 : IntKind.i64.wrap (((c : Nat) : Int) + 1) = ((c + 1 : Nat) : Int) := e_succ (c) (c + 1) (by omega) (by omega)
      refine stop_eq 1 rfl (congrArg (Value.int .i64) hw1) ?_
      refine stop_idx encBarrierH tabOk rfl rfl rfl rfl rfl ⟨rfl, rfl⟩ (rdVia 0 rfl (.ofR nest_h)) j rfl hlt (fun ad1 => ?_)
      rw [hv]
      refine CaseB.mk (fun g => by simp [mkBarrier] at g) (fun _ => ?_)
      have hw2 : IntKind.i64.wrap (((c + 1 : Nat) : Int) + 1) = ((c + 1 + 1 : Nat) : Int) := e_succ (c + 1) (c + 1 + 1) (by omega) (by omega)
      refine stop_eq 1 rfl (congrArg (Value.int .i64) hw2) ?_
      refine stop_idx encBarrierH tabOk rfl rfl rfl rfl rfl ⟨rfl, rfl⟩ (rdVia 0 rfl (.ofR nest_h)) j rfl hlt (fun ad2 => ?_)
      rw [hv]
      have hr0 := barriersO_0 h R j hlt
      rw [hv] at hr0
      refine stop_call _ cl83 rfl rfl rfl rfl ⟨rfl, rfl⟩ (fun A w hW => heldIntS_c _ (c + 1 + 1) x.m.waits.length w ⟨hW.get 0 rfl (.ofR hr0), trivial⟩ (by omega) (by omega)) ?_
      rintro v L ⟨rfl, rfl⟩
      refine CaseB.mk (fun g => by simp at g; omega) (fun _ => ?_)
      have hwj := e_succ j R.length hlt (by omega)
      refine ⟨⟨(j + 1, zs, nxBarrier c x), i1, by rw [i2]; rfl, by simp only; omega, fun y hy => i4 y (by simp [hy]), by simp only; omega⟩, ?_, by simp⟩
      refine weak_mk [0] ?_ ?_ ?_ ?_ ?_ rfl rfl
      · repeat (first | exact trivial | refine ⟨⟨_, rfl, (by first | exact .of rfl | exact .lit rfl | exact .of (by first | ((first | exact congrArg (fun z => SV.v (Value.int .i64 z)) hwj | exact congrArg (fun z => SV.v (Value.int .i64 z)) rfl))) | exact .lit (by first | ((first | exact congrArg (fun z => SV.v (Value.int .i64 z)) hwj | exact congrArg (fun z => SV.v (Value.int .i64 z)) rfl)))), (by first | exact trivial | exact Nat.le_of_ble_eq_true rfl)⟩, ?_⟩)
      · repeat (first | exact trivial | refine ⟨⟨(by first | exact .head _ | exact .tail _ (.head _) | exact .tail _ (.tail _ (.head _)) | exact .tail _ (.tail _ (.tail _ (.head _))) | exact .tail _ (.tail _ (.tail _ (.tail _ (.head _)))) | exact .tail _ (.tail _ (.tail _ (.tail _ (.tail _ (.head _))))) | exact .tail _ (.tail _ (.tail _ (.tail _ (.tail _ (.tail _ (.head _)))))) | exact .tail _ (.tail _ (.tail _ (.tail _ (.tail _ (.tail _ (.tail _ (.head _))))))) | exact .tail _ (.tail _ (.tail _ (.tail _ (.tail _ (.tail _ (.tail _ (.tail _ (.head _)))))))) | exact .tail _ (.tail _ (.tail _ (.tail _ (.tail _ (.tail _ (.tail _ (.tail _ (.tail _ (.head _)))))))))), Nat.le_of_ble_eq_true rfl⟩, ?_⟩)
      · repeat (first | exact trivial | refine ⟨⟨_, rfl, (by first | exact .of rfl | exact .lit rfl | exact .of (by first | ((first | exact congrArg (fun z => SV.v (Value.int .i64 z)) hwj | exact congrArg (fun z => SV.v (Value.int .i64 z)) rfl))) | exact .lit (by first | ((first | exact congrArg (fun z => SV.v (Value.int .i64 z)) hwj | exact congrArg (fun z => SV.v (Value.int .i64 z)) rfl)))), (by first | exact trivial | exact Nat.le_of_ble_eq_true rfl)⟩, ?_⟩)
      · repeat (first | exact trivial | refine ⟨⟨_, rfl⟩, ?_⟩)
      · repeat (first | exact trivial | refine ⟨.inl ⟨_, rfl, (by first | rfl | ((first | exact congrArg (fun z => SV.v (Value.int .i64 z)) hwj | exact congrArg (fun z => SV.v (Value.int .i64 z)) rfl)))⟩, ?_⟩ | refine ⟨.inr ⟨Nat.le_of_ble_eq_true rfl, rfl, rfl, rfl, rfl⟩, ?_⟩)
  · have hge : R.length ≤ j := by simpa using g
    cases zs with
    | nil => exact retw [] ⟨congrArg (fun z : Nat => Value.int .i64 (z : Int)) i2.symm, rfl⟩ trivial rfl trivial (fun _ => rfl)
    | cons x zs => simp at i3; omega

end Go.Proofs.Ytpopeaoklccgcaa

namespace Go.Proofs.Ytpopeaoklccgcaa

open Go Go.Sx Go.RowKit

def mkChan (c : Nat) (x : ChanH) : ChanH := ⟨⟨((c : Nat) : Int), marks (c + 1) x.m.items.length, marksLetter (c + 1 + x.m.items.length) x.m.senders.length, marks (c + 1 + x.m.items.length + 2 * x.m.senders.length) x.m.getters.length, ((((c + 1 + x.m.items.length + 2 * x.m.senders.length + x.m.getters.length) % 3 : Nat) : Int) == 0)⟩, x.q0, x.q1, x.q2⟩

def nxChan (c : Nat) (x : ChanH) : Nat := c + 1 + x.m.items.length + 2 * x.m.senders.length + x.m.getters.length + 1

theorem nxChan_le (c : Nat) (x : ChanH) (h : Chan.small20 x.m) : nxChan c x ≤ c + 8388608 := by
  unfold Chan.small20 at h
  unfold nxChan
  omega

set_option maxHeartbeats 16000000 in
set_option maxRecDepth 100000 in
theorem markChanS_c (h : Sl) (xs : List ChanH) (k : Nat) (w : World) (hh : AtG w [fO (chansO h xs)] []) (hl : xs.length ≤ 1048576) (hb : ∀ x ∈ xs, Chan.small20 x.m) (hk : k ≤ 144115188075855872) :
    Calls Try.prog 82 #[h.val xs.length, .int .i64 (k : Int)] w (RetG w [fO (chansO h xs)] fun v L => v = .int .i64 ((nxL nxChan k xs : Nat) : Int) ∧ L = [fO (chansO h (mkL mkChan nxChan k xs))]) := by
  refine callsG_fn Try.func82 rfl tabOk w _ rfl _ rfl _ _ hh trivial _ _ rfl rfl ?_
  refine LoopW.mk ⟨{ p : List ChanH × List ChanH × Nat // mkL mkChan nxChan k xs = p.1 ++ mkL mkChan nxChan p.2.2 p.2.1 ∧ nxL nxChan k xs = nxL nxChan p.2.2 p.2.1 ∧ p.1.length + p.2.1.length = xs.length ∧ (∀ x ∈ p.2.1, Chan.small20 x.m) ∧ p.2.2 + p.2.1.length * 8388608 ≤ 288230376151711744 },
    fun p => .mk [(0, .v (h.val (p.1.1 ++ p.1.2.1).length)), (1, .v (.int .i64 (p.1.2.2 : Int))), (5, .v (.int .i64 (p.1.1.length : Int)))] 0 0 [] [] [own h 74 cChanH 5 (p.1.1 ++ p.1.2.1), fO ((p.1.1 ++ p.1.2.1).flatMap chanO)],
    fun p => p.1.2.1.length, ⟨([], xs, k), by simp, rfl, by simp, hb, by simp only; omega⟩, ?_, ?_⟩
  · refine weak_shift (.splitO 0 (L := [own h 74 cChanH 5 xs]) (G' := xs.flatMap chanO) rfl (.of_eq rfl)) ?_
    refine weak_mk [0, 1] ?_ ?_ ?_ ?_ ?_ rfl rfl
    · repeat (first | exact trivial | refine ⟨⟨_, rfl, (by first | exact .of rfl | exact .lit rfl | exact .of (by first | (rfl)) | exact .lit (by first | (rfl))), (by first | exact trivial | exact Nat.le_of_ble_eq_true rfl)⟩, ?_⟩)
    · repeat (first | exact trivial | refine ⟨⟨(by first | exact .head _ | exact .tail _ (.head _) | exact .tail _ (.tail _ (.head _)) | exact .tail _ (.tail _ (.tail _ (.head _))) | exact .tail _ (.tail _ (.tail _ (.tail _ (.head _)))) | exact .tail _ (.tail _ (.tail _ (.tail _ (.tail _ (.head _))))) | exact .tail _ (.tail _ (.tail _ (.tail _ (.tail _ (.tail _ (.head _)))))) | exact .tail _ (.tail _ (.tail _ (.tail _ (.tail _ (.tail _ (.tail _ (.head _))))))) | exact .tail _ (.tail _ (.tail _ (.tail _ (.tail _ (.tail _ (.tail _ (.tail _ (.head _)))))))) | exact .tail _ (.tail _ (.tail _ (.tail _ (.tail _ (.tail _ (.tail _ (.tail _ (.tail _ (.head _)))))))))), Nat.le_of_ble_eq_true rfl⟩, ?_⟩)
    · repeat (first | exact trivial | refine ⟨⟨_, rfl, (by first | exact .of rfl | exact .lit rfl | exact .of (by first | (rfl)) | exact .lit (by first | (rfl))), (by first | exact trivial | exact Nat.le_of_ble_eq_true rfl)⟩, ?_⟩)
    · repeat (first | exact trivial | refine ⟨⟨_, rfl⟩, ?_⟩)
    · repeat (first | exact trivial | refine ⟨.inl ⟨_, rfl, (by first | rfl | (rfl))⟩, ?_⟩ | refine ⟨.inr ⟨Nat.le_of_ble_eq_true rfl, rfl, rfl, rfl, rfl⟩, ?_⟩)
  rintro ⟨⟨ys, zs, c⟩, i1, i2, i3, i4, i5⟩
  simp only at i1 i2 i3 i4 i5
  refine CaseB.mk (fun g => ?_) (fun g => ?_)
  · cases zs with
    | nil => simp at g
    | cons x zs =>
      simp only [List.length_cons] at i3 i5
      have hx := i4 x (by simp)
      have hnx := nxChan_le c x hx
      unfold Chan.small20 at hx
      have hlt : ∀ y : ChanH, ys.length < (ys ++ y :: zs).length := fun y => by simp
      refine stop_idxW encChanH 0 tabOk rfl rfl rfl rfl rfl ⟨rfl, rfl⟩ rfl (by first | rfl | (simp; done)) ys.length rfl (hlt _) (fun g0 hg0 => ?_)
      refine stop_fldW tabOk rfl rfl rfl rfl ⟨rfl, rfl⟩ ?_
      refine stop_storeW encChanH 0 tabOk rfl rfl rfl rfl rfl rfl rfl rfl hg0 ys.length 0 (⟨⟨((c : Nat) : Int), x.m.items, x.m.senders, x.m.getters, x.m.closed⟩, x.q0, x.q1, x.q2⟩ : ChanH) rfl (hlt _) rfl [.int .i64 ((c : Nat) : Int)] (fun _ => rfl) (by simp [cChanH]) ?_
      rw [app_set]
      have hw1 : IntKind.i64.wrap (((c : Nat) : Int) + 1) = ((c + 1 : Nat) : Int) := e_succ (c) (c + 1) (by omega) (by omega)
      refine stop_eq 1 rfl (congrArg (Value.int .i64) hw1) ?_
      refine stop_idx encChanH (xs := ys ++ (⟨⟨((c : Nat) : Int), x.m.items, x.m.senders, x.m.getters, x.m.closed⟩, x.q0, x.q1, x.q2⟩ : ChanH) :: zs) tabOk rfl (Eq.trans rfl (congrArg (fun n => some (SV.v (h.val n))) (by simp))) rfl rfl rfl ⟨rfl, rfl⟩ (rdOwnAt 0 rfl) ys.length rfl (hlt _) (fun ad1 => ?_)
      rw [app_get]
      refine stop_shift (.splitO 1 (L := chanO x) (G' := (ys ++ zs).flatMap chanO) rfl (perm_out chanO ys zs x)) ?_
      refine stop_callG _ [0] (G := [_]) cl76 rfl rfl rfl rfl ⟨rfl, rfl⟩ ⟨rfl, trivial⟩ ⟨rfl, rfl, trivial⟩ (fun A w hW => (markIntS_c _ _ (c + 1) w (hW.atG [0] (G := [_]) ⟨rfl, trivial⟩ rfl ⟨rfl, rfl, trivial⟩ [] (Fo := []) trivial rfl) (by first | omega | (simp only; omega)) (by omega))) ?_
      rintro v L ⟨rfl, rfl⟩
      refine stop_idx encChanH (xs := ys ++ (⟨⟨((c : Nat) : Int), x.m.items, x.m.senders, x.m.getters, x.m.closed⟩, x.q0, x.q1, x.q2⟩ : ChanH) :: zs) tabOk rfl (Eq.trans rfl (congrArg (fun n => some (SV.v (h.val n))) (by simp))) rfl rfl rfl ⟨rfl, rfl⟩ (rdOwnAt 4 rfl) ys.length rfl (hlt _) (fun ad2 => ?_)
      rw [app_get]
      refine stop_callG _ [1] (G := [_]) cl129 rfl rfl rfl rfl ⟨rfl, rfl⟩ ⟨rfl, trivial⟩ ⟨rfl, rfl, trivial⟩ (fun A w hW => (markLetterS_c _ _ (c + 1 + x.m.items.length) w (hW.atG [1] (G := [_]) ⟨rfl, trivial⟩ rfl ⟨rfl, rfl, trivial⟩ [] (Fo := []) trivial rfl) (by first | omega | (simp only; omega)) (by omega))) ?_
      rintro v L ⟨rfl, rfl⟩
      refine stop_idx encChanH (xs := ys ++ (⟨⟨((c : Nat) : Int), x.m.items, x.m.senders, x.m.getters, x.m.closed⟩, x.q0, x.q1, x.q2⟩ : ChanH) :: zs) tabOk rfl (Eq.trans rfl (congrArg (fun n => some (SV.v (h.val n))) (by simp))) rfl rfl rfl ⟨rfl, rfl⟩ (rdOwnAt 4 rfl) ys.length rfl (hlt _) (fun ad3 => ?_)
      rw [app_get]
      refine stop_callG _ [2] (G := [_]) cl76 rfl rfl rfl rfl ⟨rfl, rfl⟩ ⟨rfl, trivial⟩ ⟨rfl, rfl, trivial⟩ (fun A w hW => (markIntS_c _ _ (c + 1 + x.m.items.length + 2 * x.m.senders.length) w (hW.atG [2] (G := [_]) ⟨rfl, trivial⟩ rfl ⟨rfl, rfl, trivial⟩ [] (Fo := []) trivial rfl) (by first | omega | (simp only; omega)) (by omega))) ?_
      rintro v L ⟨rfl, rfl⟩
      refine stop_bin rfl rfl rfl ⟨rfl, rfl⟩ (.int .i64 ((((c + 1 + x.m.items.length + 2 * x.m.senders.length + x.m.getters.length) % 3 : Nat) : Int))) (fun w => eqGuard_int w) (fun w => rem_run (by decide) (by rw [Int.tmod_eq_emod_of_nonneg (by omega)]; first | omega | (simp only; omega)) w) ?_
      refine stop_idxW encChanH 4 tabOk rfl rfl rfl rfl rfl ⟨rfl, rfl⟩ rfl (by first | rfl | (simp; done)) ys.length rfl (hlt _) (fun g4 hg4 => ?_)
      refine stop_fldW tabOk rfl rfl rfl rfl ⟨rfl, rfl⟩ ?_
      refine stop_storeW encChanH 4 tabOk rfl rfl rfl rfl rfl rfl rfl rfl hg4 ys.length 4 (⟨⟨((c : Nat) : Int), x.m.items, x.m.senders, x.m.getters, ((((c + 1 + x.m.items.length + 2 * x.m.senders.length + x.m.getters.length) % 3 : Nat) : Int) == 0)⟩, x.q0, x.q1, x.q2⟩ : ChanH) rfl (hlt _) rfl [.bool ((((c + 1 + x.m.items.length + 2 * x.m.senders.length + x.m.getters.length) % 3 : Nat) : Int) == 0)] (fun _ => rfl) (by simp [cChanH]) ?_
      rw [app_set]
      have hw2 : IntKind.i64.wrap (((c + 1 + x.m.items.length + 2 * x.m.senders.length + x.m.getters.length : Nat) : Int) + 1) = ((c + 1 + x.m.items.length + 2 * x.m.senders.length + x.m.getters.length + 1 : Nat) : Int) := e_succ (c + 1 + x.m.items.length + 2 * x.m.senders.length + x.m.getters.length) (c + 1 + x.m.items.length + 2 * x.m.senders.length + x.m.getters.length + 1) (by omega) (by omega)
      have hwj := e_succ ys.length xs.length (by omega) (by omega)
      have hz : nxChan c x = c + 1 + x.m.items.length + 2 * x.m.senders.length + x.m.getters.length + 1 := rfl
      generalize hzz : mkChan c x = z
      have hwj2 : IntKind.i64.wrap ((ys.length : Int) + 1) = (((ys ++ [z]).length : Nat) : Int) := by rw [hwj]; simp
      have hl0 : h.val (ys ++ x :: zs).length = h.val ((ys ++ [z]) ++ zs).length := congrArg h.val (by simp)
      have hrow : own h 74 cChanH 5 (ys ++ (⟨⟨((c : Nat) : Int), x.m.items, x.m.senders, x.m.getters, ((((c + 1 + x.m.items.length + 2 * x.m.senders.length + x.m.getters.length) % 3 : Nat) : Int) == 0)⟩, x.q0, x.q1, x.q2⟩ : ChanH) :: zs) = own h 74 cChanH 5 ((ys ++ [z]) ++ zs) := by
        subst hzz
        have e1 : cells cChanH (ys ++ (⟨⟨((c : Nat) : Int), x.m.items, x.m.senders, x.m.getters, ((((c + 1 + x.m.items.length + 2 * x.m.senders.length + x.m.getters.length) % 3 : Nat) : Int) == 0)⟩, x.q0, x.q1, x.q2⟩ : ChanH) :: zs) = cells cChanH ((ys ++ [mkChan c x]) ++ zs) := by simp [cells, cChanH, mkChan, marks_len, marksLetter_len]
        have e2 : (ys ++ (⟨⟨((c : Nat) : Int), x.m.items, x.m.senders, x.m.getters, ((((c + 1 + x.m.items.length + 2 * x.m.senders.length + x.m.getters.length) % 3 : Nat) : Int) == 0)⟩, x.q0, x.q1, x.q2⟩ : ChanH) :: zs).length = ((ys ++ [mkChan c x]) ++ zs).length := by simp
        rw [own_eq e1 e2]
      refine ⟨⟨(ys ++ [z], zs, nxChan c x), by rw [i1, ← hzz]; simp [mkL], by rw [i2]; rfl, by simp; omega, fun y hy => i4 y (by simp [hy]), by simp only; omega⟩, ?_, by simp⟩
      refine weak_shift (.joinO [3, 2, 1, 4] (Gs := [[_], [_], [_], _]) ⟨.inl ⟨_, rfl, .own⟩, .inl ⟨_, rfl, .own⟩, .inl ⟨_, rfl, .own⟩, .inl ⟨_, rfl, .o⟩, trivial⟩ rfl (G := ((ys ++ [z]) ++ zs).flatMap chanO) (.trans (.of_eq (by rw [← hzz]; simp [chanO, mkChan])) (perm_in chanO ys zs z))) ?_
      refine weak_mk [1, 0] ?_ ?_ ?_ ?_ ?_ rfl rfl
      · repeat (first | exact trivial | refine ⟨⟨_, rfl, (by first | exact .of rfl | exact .lit rfl | exact .of (by first | ((first | exact hrow | exact congrArg SV.v hl0 | exact congrArg (fun z => SV.v (Value.int .i64 z)) hwj2 | exact congrArg (fun z => SV.v (Value.int .i64 z)) hw2))) | exact .lit (by first | ((first | exact hrow | exact congrArg SV.v hl0 | exact congrArg (fun z => SV.v (Value.int .i64 z)) hwj2 | exact congrArg (fun z => SV.v (Value.int .i64 z)) hw2)))), (by first | exact trivial | exact Nat.le_of_ble_eq_true rfl)⟩, ?_⟩)
      · repeat (first | exact trivial | refine ⟨⟨(by first | exact .head _ | exact .tail _ (.head _) | exact .tail _ (.tail _ (.head _)) | exact .tail _ (.tail _ (.tail _ (.head _))) | exact .tail _ (.tail _ (.tail _ (.tail _ (.head _)))) | exact .tail _ (.tail _ (.tail _ (.tail _ (.tail _ (.head _))))) | exact .tail _ (.tail _ (.tail _ (.tail _ (.tail _ (.tail _ (.head _)))))) | exact .tail _ (.tail _ (.tail _ (.tail _ (.tail _ (.tail _ (.tail _ (.head _))))))) | exact .tail _ (.tail _ (.tail _ (.tail _ (.tail _ (.tail _ (.tail _ (.tail _ (.head _)))))))) | exact .tail _ (.tail _ (.tail _ (.tail _ (.tail _ (.tail _ (.tail _ (.tail _ (.tail _ (.head _)))))))))), Nat.le_of_ble_eq_true rfl⟩, ?_⟩)
      · repeat (first | exact trivial | refine ⟨⟨_, rfl, (by first | exact .of rfl | exact .lit rfl | exact .of (by first | ((first | exact hrow | exact congrArg SV.v hl0 | exact congrArg (fun z => SV.v (Value.int .i64 z)) hwj2 | exact congrArg (fun z => SV.v (Value.int .i64 z)) hw2))) | exact .lit (by first | ((first | exact hrow | exact congrArg SV.v hl0 | exact congrArg (fun z => SV.v (Value.int .i64 z)) hwj2 | exact congrArg (fun z => SV.v (Value.int .i64 z)) hw2)))), (by first | exact trivial | exact Nat.le_of_ble_eq_true rfl)⟩, ?_⟩)
      · repeat (first | exact trivial | refine ⟨⟨_, rfl⟩, ?_⟩)
      · repeat (first | exact trivial | refine ⟨.inl ⟨_, rfl, (by first | rfl | ((first | exact hrow | exact congrArg SV.v hl0 | exact congrArg (fun z => SV.v (Value.int .i64 z)) hwj2 | exact congrArg (fun z => SV.v (Value.int .i64 z)) hw2)))⟩, ?_⟩ | refine ⟨.inr ⟨Nat.le_of_ble_eq_true rfl, rfl, rfl, rfl, rfl⟩, ?_⟩)
  · cases zs with
    | nil =>
      simp only [mkL, List.append_nil] at i1
      simp only [nxL] at i2
      have hyl : ys.length = xs.length := by simpa using i3
      simp only [List.append_nil]
      refine retG_shift (.joinO [0, 1] (Gs := [[_], _]) ⟨.inl ⟨_, rfl, .own⟩, .inl ⟨_, rfl, .o⟩, trivial⟩ rfl (G := chansO h ys) (.of_eq (by simp [chansO, nestO]))) ?_
      exact retG [0] (L := [fO (chansO h ys)]) ⟨congrArg (fun z : Nat => Value.int .i64 (z : Int)) i2.symm, by rw [i1]⟩ ⟨.inl ⟨_, rfl, rfl⟩, trivial⟩ rfl ⟨rfl, trivial⟩ (fun _ => rfl)
    | cons x zs => simp at g; omega

set_option maxHeartbeats 16000000 in
set_option maxRecDepth 100000 in
theorem heldChanS_c (h : Sl) (xs : List ChanH) (k : Nat) (w : World) (hh : At w [fR (chansO h (mkL mkChan nxChan k xs))]) (hl : xs.length ≤ 1048576) (hb : ∀ x ∈ xs, Chan.small20 x.m) (hk : k ≤ 144115188075855872) :
    Calls Try.prog 88 #[h.val (mkL mkChan nxChan k xs).length, .int .i64 (k : Int)] w (Ret w fun v L => v = .int .i64 ((nxL nxChan k xs : Nat) : Int) ∧ L = []) := by
  obtain ⟨R, hR⟩ : ∃ R, R = mkL mkChan nxChan k xs := ⟨_, rfl⟩
  have hRl : R.length = xs.length := by rw [hR]; exact mkL_len _ _ _ _
  rw [← hR] at hh ⊢
  refine calls2 Try.func88 rfl tabOk w _ rfl _ rfl _ hh ⟨rfl, rfl, trivial⟩ _ _ (by decide) ?_
  refine LoopW.mk ⟨{ p : Nat × List ChanH × Nat // R.drop p.1 = mkL mkChan nxChan p.2.2 p.2.1 ∧ nxL nxChan k xs = nxL nxChan p.2.2 p.2.1 ∧ p.1 + p.2.1.length = R.length ∧ (∀ x ∈ p.2.1, Chan.small20 x.m) ∧ p.2.2 + p.2.1.length * 8388608 ≤ 288230376151711744 },
    fun p => .mk [(0, .v (h.val R.length)), (1, .v (.int .i64 (p.1.2.2 : Int))), (5, .v (.int .i64 (p.1.1 : Int)))] 0 0 [] [] [fR (chansO h R)],
    fun p => p.1.2.1.length, ⟨(0, xs, k), by rw [hR]; rfl, rfl, by simp [hRl], hb, by simp only; omega⟩, ?_, ?_⟩
  · refine weak_mk [0] ?_ ?_ ?_ ?_ ?_ rfl rfl
    · repeat (first | exact trivial | refine ⟨⟨_, rfl, (by first | exact .of rfl | exact .lit rfl | exact .of (by first | (rfl)) | exact .lit (by first | (rfl))), (by first | exact trivial | exact Nat.le_of_ble_eq_true rfl)⟩, ?_⟩)
    · repeat (first | exact trivial | refine ⟨⟨(by first | exact .head _ | exact .tail _ (.head _) | exact .tail _ (.tail _ (.head _)) | exact .tail _ (.tail _ (.tail _ (.head _))) | exact .tail _ (.tail _ (.tail _ (.tail _ (.head _)))) | exact .tail _ (.tail _ (.tail _ (.tail _ (.tail _ (.head _))))) | exact .tail _ (.tail _ (.tail _ (.tail _ (.tail _ (.tail _ (.head _)))))) | exact .tail _ (.tail _ (.tail _ (.tail _ (.tail _ (.tail _ (.tail _ (.head _))))))) | exact .tail _ (.tail _ (.tail _ (.tail _ (.tail _ (.tail _ (.tail _ (.tail _ (.head _)))))))) | exact .tail _ (.tail _ (.tail _ (.tail _ (.tail _ (.tail _ (.tail _ (.tail _ (.tail _ (.head _)))))))))), Nat.le_of_ble_eq_true rfl⟩, ?_⟩)
    · repeat (first | exact trivial | refine ⟨⟨_, rfl, (by first | exact .of rfl | exact .lit rfl | exact .of (by first | (rfl)) | exact .lit (by first | (rfl))), (by first | exact trivial | exact Nat.le_of_ble_eq_true rfl)⟩, ?_⟩)
    · repeat (first | exact trivial | refine ⟨⟨_, rfl⟩, ?_⟩)
    · repeat (first | exact trivial | refine ⟨.inl ⟨_, rfl, (by first | rfl | (rfl))⟩, ?_⟩ | refine ⟨.inr ⟨Nat.le_of_ble_eq_true rfl, rfl, rfl, rfl, rfl⟩, ?_⟩)
  rintro ⟨⟨j, zs, c⟩, i1, i2, i3, i4, i5⟩
  simp only at i1 i2 i3 i4 i5
  refine CaseB.mk (fun g => ?_) (fun g => ?_)
  · have hlt : j < R.length := by simpa using g
    cases zs with
    | nil => simp at i3; omega
    | cons x zs =>
      simp only [List.length_cons] at i3 i5
      have hx := i4 x (by simp)
      have hnx := nxChan_le c x hx
      unfold Chan.small20 at hx
      rw [List.drop_eq_getElem_cons hlt] at i1
      simp only [mkL, List.cons.injEq] at i1
      obtain ⟨hv, i1⟩ := i1
      refine stop_idx encChanH tabOk rfl rfl rfl rfl rfl ⟨rfl, rfl⟩ (rdVia 0 rfl (.ofR nest_h)) j rfl hlt (fun ad0 => ?_)
      rw [hv]
      refine CaseB.mk (fun g => by simp [mkChan] at g) (fun _ => ?_)
      have hw1 : IntKind.i64.wrap (((c : Nat) : Int) + 1) = ((c + 1 : Nat) : Int) := e_succ (c) (c + 1) (by omega) (by omega)
      refine stop_eq 1 rfl (congrArg (Value.int .i64) hw1) ?_
      refine stop_idx encChanH tabOk rfl rfl rfl rfl rfl ⟨rfl, rfl⟩ (rdVia 0 rfl (.ofR nest_h)) j rfl hlt (fun ad1 => ?_)
      rw [hv]
      have hr0 := chansO_0 h R j hlt
      rw [hv] at hr0
      refine stop_call _ cl83 rfl rfl rfl rfl ⟨rfl, rfl⟩ (fun A w hW => heldIntS_c _ (c + 1) x.m.items.length w ⟨hW.get 0 rfl (.ofR hr0), trivial⟩ (by omega) (by omega)) ?_
      rintro v L ⟨rfl, rfl⟩
      refine CaseB.mk (fun g => by simp at g; omega) (fun _ => ?_)
      refine stop_idx encChanH tabOk rfl rfl rfl rfl rfl ⟨rfl, rfl⟩ (rdVia 0 rfl (.ofR nest_h)) j rfl hlt (fun ad2 => ?_)
      rw [hv]
      have hr1 := chansO_1 h R j hlt
      rw [hv] at hr1
      refine stop_call _ cl131 rfl rfl rfl rfl ⟨rfl, rfl⟩ (fun A w hW => heldLetterS_c _ (c + 1 + x.m.items.length) x.m.senders.length w ⟨hW.get 0 rfl (.ofR hr1), trivial⟩ (by omega) (by omega)) ?_
      rintro v L ⟨rfl, rfl⟩
      refine CaseB.mk (fun g => by simp at g; omega) (fun _ => ?_)
      refine stop_idx encChanH tabOk rfl rfl rfl rfl rfl ⟨rfl, rfl⟩ (rdVia 0 rfl (.ofR nest_h)) j rfl hlt (fun ad3 => ?_)
      rw [hv]
      have hr2 := chansO_2 h R j hlt
      rw [hv] at hr2
      refine stop_call _ cl83 rfl rfl rfl rfl ⟨rfl, rfl⟩ (fun A w hW => heldIntS_c _ (c + 1 + x.m.items.length + 2 * x.m.senders.length) x.m.getters.length w ⟨hW.get 0 rfl (.ofR hr2), trivial⟩ (by omega) (by omega)) ?_
      rintro v L ⟨rfl, rfl⟩
      refine CaseB.mk (fun g => by simp at g; omega) (fun _ => ?_)
      refine stop_idx encChanH tabOk rfl rfl rfl rfl rfl ⟨rfl, rfl⟩ (rdVia 0 rfl (.ofR nest_h)) j rfl hlt (fun ad4 => ?_)
      rw [hv]
      refine stop_bin rfl rfl rfl ⟨rfl, rfl⟩ (.int .i64 ((((c + 1 + x.m.items.length + 2 * x.m.senders.length + x.m.getters.length) % 3 : Nat) : Int))) (fun w => eqGuard_int w) (fun w => rem_run (by decide) (by rw [Int.tmod_eq_emod_of_nonneg (by omega)]; first | omega | (simp only; omega)) w) ?_
      refine CaseB.mk (fun g => by simp [mkChan] at g) (fun _ => ?_)
      have hw2 : IntKind.i64.wrap (((c + 1 + x.m.items.length + 2 * x.m.senders.length + x.m.getters.length : Nat) : Int) + 1) = ((c + 1 + x.m.items.length + 2 * x.m.senders.length + x.m.getters.length + 1 : Nat) : Int) := e_succ (c + 1 + x.m.items.length + 2 * x.m.senders.length + x.m.getters.length) (c + 1 + x.m.items.length + 2 * x.m.senders.length + x.m.getters.length + 1) (by omega) (by omega)
      have hwj := e_succ j R.length hlt (by omega)
      refine ⟨⟨(j + 1, zs, nxChan c x), i1, by rw [i2]; rfl, by simp only; omega, fun y hy => i4 y (by simp [hy]), by simp only; omega⟩, ?_, by simp⟩
      refine weak_mk [0] ?_ ?_ ?_ ?_ ?_ rfl rfl
      · repeat (first | exact trivial | refine ⟨⟨_, rfl, (by first | exact .of rfl | exact .lit rfl | exact .of (by first | ((first | exact congrArg (fun z => SV.v (Value.int .i64 z)) hwj | exact congrArg (fun z => SV.v (Value.int .i64 z)) hw2))) | exact .lit (by first | ((first | exact congrArg (fun z => SV.v (Value.int .i64 z)) hwj | exact congrArg (fun z => SV.v (Value.int .i64 z)) hw2)))), (by first | exact trivial | exact Nat.le_of_ble_eq_true rfl)⟩, ?_⟩)
      · repeat (first | exact trivial | refine ⟨⟨(by first | exact .head _ | exact .tail _ (.head _) | exact .tail _ (.tail _ (.head _)) | exact .tail _ (.tail _ (.tail _ (.head _))) | exact .tail _ (.tail _ (.tail _ (.tail _ (.head _)))) | exact .tail _ (.tail _ (.tail _ (.tail _ (.tail _ (.head _))))) | exact .tail _ (.tail _ (.tail _ (.tail _ (.tail _ (.tail _ (.head _)))))) | exact .tail _ (.tail _ (.tail _ (.tail _ (.tail _ (.tail _ (.tail _ (.head _))))))) | exact .tail _ (.tail _ (.tail _ (.tail _ (.tail _ (.tail _ (.tail _ (.tail _ (.head _)))))))) | exact .tail _ (.tail _ (.tail _ (.tail _ (.tail _ (.tail _ (.tail _ (.tail _ (.tail _ (.head _)))))))))), Nat.le_of_ble_eq_true rfl⟩, ?_⟩)
      · repeat (first | exact trivial | refine ⟨⟨_, rfl, (by first | exact .of rfl | exact .lit rfl | exact .of (by first | ((first | exact congrArg (fun z => SV.v (Value.int .i64 z)) hwj | exact congrArg (fun z => SV.v (Value.int .i64 z)) hw2))) | exact .lit (by first | ((first | exact congrArg (fun z => SV.v (Value.int .i64 z)) hwj | exact congrArg (fun z => SV.v (Value.int .i64 z)) hw2)))), (by first | exact trivial | exact Nat.le_of_ble_eq_true rfl)⟩, ?_⟩)
      · repeat (first | exact trivial | refine ⟨⟨_, rfl⟩, ?_⟩)
      · repeat (first | exact trivial | refine ⟨.inl ⟨_, rfl, (by first | rfl | ((first | exact congrArg (fun z => SV.v (Value.int .i64 z)) hwj | exact congrArg (fun z => SV.v (Value.int .i64 z)) hw2)))⟩, ?_⟩ | refine ⟨.inr ⟨Nat.le_of_ble_eq_true rfl, rfl, rfl, rfl, rfl⟩, ?_⟩)
  · have hge : R.length ≤ j := by simpa using g
    cases zs with
    | nil => exact retw [] ⟨congrArg (fun z : Nat => Value.int .i64 (z : Int)) i2.symm, rfl⟩ trivial rfl trivial (fun _ => rfl)
    | cons x zs => simp at i3; omega

end Go.Proofs.Ytpopeaoklccgcaa

namespace Go.Proofs.Ytpopeaoklccgcaa

open Go Go.Sx Go.RowKit

def atState0 (k : Nat) (s : StateH) : Nat := k + s.places.length

def atState1 (k : Nat) (s : StateH) : Nat := (atState0 k s) + s.status.length

def atState2 (k : Nat) (s : StateH) : Nat := nxL nxSem (atState1 k s) s.sems

def atState3 (k : Nat) (s : StateH) : Nat := nxL nxOnce (atState2 k s) s.onces

def atState4 (k : Nat) (s : StateH) : Nat := nxL nxGroup (atState3 k s) s.groups

def atState5 (k : Nat) (s : StateH) : Nat := nxL nxBarrier (atState4 k s) s.barriers

def atState6 (k : Nat) (s : StateH) : Nat := nxL nxChan (atState5 k s) s.chans

def atState7 (k : Nat) (s : StateH) : Nat := (atState6 k s) + s.said.length

def mkState (k : Nat) (s : StateH) : StateH := { s with places := marks (k) s.places.length, status := marks (atState0 k s) s.status.length, sems := mkL mkSem nxSem (atState1 k s) s.sems, onces := mkL mkOnce nxOnce (atState2 k s) s.onces, groups := mkL mkGroup nxGroup (atState3 k s) s.groups, barriers := mkL mkBarrier nxBarrier (atState4 k s) s.barriers, chans := mkL mkChan nxChan (atState5 k s) s.chans, said := marks (atState6 k s) s.said.length }

set_option maxHeartbeats 16000000 in
set_option maxRecDepth 100000 in
theorem markState_c (s : StateH) (k : Nat) (w : World) (hh : AtG w [fO (stateO s)] []) (hb : s.pure.small20) (hk : k ≤ 36028797018963968) :
    Calls Try.prog 22 #[stateV s, .int .i64 (k : Int)] w (RetG w [fO (stateO s)] fun v L => v = .int .i64 ((atState7 k s : Nat) : Int) ∧ L = [fO (stateO (mkState k s))]) := by
  obtain ⟨b0, b1, b2, b3, b4, b5, b6, b7⟩ := hb
  have t0 : atState0 k s = k + s.places.length := rfl
  have t1 : atState1 k s = atState0 k s + s.status.length := rfl
  have t2 : atState2 k s ≤ atState1 k s + s.sems.length * 8388608 := nxL_le (P := fun x => Sem.small20 x.m) (fun c x h => nxSem_le c x h) _ _ (allS_map b2).2
  have t3 : atState3 k s ≤ atState2 k s + s.onces.length * 8388608 := nxL_le (P := fun x => Once.small20 x.m) (fun c x h => nxOnce_le c x h) _ _ (allS_map b3).2
  have t4 : atState4 k s ≤ atState3 k s + s.groups.length * 8388608 := nxL_le (P := fun x => Group.small20 x.m) (fun c x h => nxGroup_le c x h) _ _ (allS_map b4).2
  have t5 : atState5 k s ≤ atState4 k s + s.barriers.length * 8388608 := nxL_le (P := fun x => Barrier.small20 x.m) (fun c x h => nxBarrier_le c x h) _ _ (allS_map b5).2
  have t6 : atState6 k s ≤ atState5 k s + s.chans.length * 8388608 := nxL_le (P := fun x => Chan.small20 x.m) (fun c x h => nxChan_le c x h) _ _ (allS_map b6).2
  have t7 : atState7 k s = atState6 k s + s.said.length := rfl
  have s0 : s.places.length ≤ 1048576 := b0
  have s1 : s.status.length ≤ 1048576 := b1
  have s2 := (allS_map b2).1
  have s3 := (allS_map b3).1
  have s4 := (allS_map b4).1
  have s5 := (allS_map b5).1
  have s6 := (allS_map b6).1
  have s7 : s.said.length ≤ 1048576 := b7
  refine callsG_fn Try.func22 rfl tabOk w _ rfl _ rfl _ _ hh trivial _ _ rfl rfl ?_
  refine stop_shift (.splitO 0 (L := [own s.h0 3 cInt 1 s.places, own s.h1 3 cInt 1 s.status, own s.h7 3 cInt 1 s.said]) (G' := semsO s.h2 s.sems ++ oncesO s.h3 s.onces ++ groupsO s.h4 s.groups ++ barriersO s.h5 s.barriers ++ chansO s.h6 s.chans) rfl ?_) ?_
  · refine List.Perm.cons _ (List.Perm.cons _ ?_)
    rw [show ∀ (a b c d e : List Fct) (x : Fct), a ++ (b ++ (c ++ (d ++ (e ++ [x])))) = (a ++ b ++ c ++ d ++ e) ++ [x] from fun a b c d e x => by simp]
    exact List.perm_append_comm
  refine stop_shift (.splitOO 3 [semsO s.h2 s.sems, oncesO s.h3 s.onces, groupsO s.h4 s.groups, barriersO s.h5 s.barriers, chansO s.h6 s.chans] rfl (.of_eq (by simp))) ?_
  refine stop_callG _ [5] (G := [_]) cl76 rfl rfl rfl rfl ⟨rfl, rfl⟩ ⟨rfl, trivial⟩ ⟨rfl, rfl, trivial⟩ (fun A w hW => (markIntS_c s.h0 s.places (k) w (hW.atG [5] (G := [_]) ⟨rfl, trivial⟩ rfl ⟨rfl, rfl, trivial⟩ [] (Fo := []) trivial rfl) (Nat.le_trans b0 (by decide)) (by omega))) ?_
  rintro v L ⟨rfl, rfl⟩
  refine stop_callG _ [6] (G := [_]) cl76 rfl rfl rfl rfl ⟨rfl, rfl⟩ ⟨rfl, trivial⟩ ⟨rfl, rfl, trivial⟩ (fun A w hW => (markIntS_c s.h1 s.status (atState0 k s) w (hW.atG [6] (G := [_]) ⟨rfl, trivial⟩ rfl ⟨rfl, rfl, trivial⟩ [] (Fo := []) trivial rfl) (Nat.le_trans b1 (by decide)) (by omega))) ?_
  rintro v L ⟨rfl, rfl⟩
  refine stop_callG _ [2] (G := [_]) cl78 rfl rfl rfl rfl ⟨rfl, rfl⟩ ⟨rfl, trivial⟩ ⟨rfl, rfl, trivial⟩ (fun A w hW => (markSemS_c s.h2 s.sems (atState1 k s) w (hW.atG [2] (G := [_]) ⟨rfl, trivial⟩ rfl ⟨rfl, rfl, trivial⟩ [] (Fo := []) trivial rfl) (allS_map b2).1 (allS_map b2).2 (by omega))) ?_
  rintro v L ⟨rfl, rfl⟩
  refine stop_callG _ [3] (G := [_]) cl79 rfl rfl rfl rfl ⟨rfl, rfl⟩ ⟨rfl, trivial⟩ ⟨rfl, rfl, trivial⟩ (fun A w hW => (markOnceS_c s.h3 s.onces (atState2 k s) w (hW.atG [3] (G := [_]) ⟨rfl, trivial⟩ rfl ⟨rfl, rfl, trivial⟩ [] (Fo := []) trivial rfl) (allS_map b3).1 (allS_map b3).2 (by omega))) ?_
  rintro v L ⟨rfl, rfl⟩
  refine stop_callG _ [4] (G := [_]) cl80 rfl rfl rfl rfl ⟨rfl, rfl⟩ ⟨rfl, trivial⟩ ⟨rfl, rfl, trivial⟩ (fun A w hW => (markGroupS_c s.h4 s.groups (atState3 k s) w (hW.atG [4] (G := [_]) ⟨rfl, trivial⟩ rfl ⟨rfl, rfl, trivial⟩ [] (Fo := []) trivial rfl) (allS_map b4).1 (allS_map b4).2 (by omega))) ?_
  rintro v L ⟨rfl, rfl⟩
  refine stop_callG _ [5] (G := [_]) cl81 rfl rfl rfl rfl ⟨rfl, rfl⟩ ⟨rfl, trivial⟩ ⟨rfl, rfl, trivial⟩ (fun A w hW => (markBarrierS_c s.h5 s.barriers (atState4 k s) w (hW.atG [5] (G := [_]) ⟨rfl, trivial⟩ rfl ⟨rfl, rfl, trivial⟩ [] (Fo := []) trivial rfl) (allS_map b5).1 (allS_map b5).2 (by omega))) ?_
  rintro v L ⟨rfl, rfl⟩
  refine stop_callG _ [6] (G := [_]) cl82 rfl rfl rfl rfl ⟨rfl, rfl⟩ ⟨rfl, trivial⟩ ⟨rfl, rfl, trivial⟩ (fun A w hW => (markChanS_c s.h6 s.chans (atState5 k s) w (hW.atG [6] (G := [_]) ⟨rfl, trivial⟩ rfl ⟨rfl, rfl, trivial⟩ [] (Fo := []) trivial rfl) (allS_map b6).1 (allS_map b6).2 (by omega))) ?_
  rintro v L ⟨rfl, rfl⟩
  refine stop_callG _ [7] (G := [_]) cl76 rfl rfl rfl rfl ⟨rfl, rfl⟩ ⟨rfl, trivial⟩ ⟨rfl, rfl, trivial⟩ (fun A w hW => (markIntS_c s.h7 s.said (atState6 k s) w (hW.atG [7] (G := [_]) ⟨rfl, trivial⟩ rfl ⟨rfl, rfl, trivial⟩ [] (Fo := []) trivial rfl) (Nat.le_trans b7 (by decide)) (by omega))) ?_
  rintro v L ⟨rfl, rfl⟩
  refine retG_shift (.joinO [7, 6, 5, 4, 3, 2, 1, 0] (Gs := [[_], [_], _, _, _, _, _, [_]]) ⟨.inl ⟨_, rfl, .own⟩, .inl ⟨_, rfl, .own⟩, .inl ⟨_, rfl, .o⟩, .inl ⟨_, rfl, .o⟩, .inl ⟨_, rfl, .o⟩, .inl ⟨_, rfl, .o⟩, .inl ⟨_, rfl, .o⟩, .inl ⟨_, rfl, .own⟩, trivial⟩ rfl (G := stateO (mkState k s)) (.of_eq (by simp [stateO, mkState]))) ?_
  exact retG [0] ⟨rfl, rfl⟩ ⟨.inl ⟨_, rfl, rfl⟩, trivial⟩ rfl ⟨rfl, trivial⟩ (fun _ => rfl)

set_option maxHeartbeats 16000000 in
set_option maxRecDepth 100000 in
theorem heldState_c (s : StateH) (k : Nat) (w : World) (hh : At w [fR (stateO (mkState k s))]) (hb : s.pure.small20) (hk : k ≤ 36028797018963968) :
    Calls Try.prog 23 #[stateV (mkState k s), .int .i64 (k : Int)] w (Ret w fun v L => v = .int .i64 ((atState7 k s : Nat) : Int) ∧ L = []) := by
  obtain ⟨b0, b1, b2, b3, b4, b5, b6, b7⟩ := hb
  have t0 : atState0 k s = k + s.places.length := rfl
  have t1 : atState1 k s = atState0 k s + s.status.length := rfl
  have t2 : atState2 k s ≤ atState1 k s + s.sems.length * 8388608 := nxL_le (P := fun x => Sem.small20 x.m) (fun c x h => nxSem_le c x h) _ _ (allS_map b2).2
  have t3 : atState3 k s ≤ atState2 k s + s.onces.length * 8388608 := nxL_le (P := fun x => Once.small20 x.m) (fun c x h => nxOnce_le c x h) _ _ (allS_map b3).2
  have t4 : atState4 k s ≤ atState3 k s + s.groups.length * 8388608 := nxL_le (P := fun x => Group.small20 x.m) (fun c x h => nxGroup_le c x h) _ _ (allS_map b4).2
  have t5 : atState5 k s ≤ atState4 k s + s.barriers.length * 8388608 := nxL_le (P := fun x => Barrier.small20 x.m) (fun c x h => nxBarrier_le c x h) _ _ (allS_map b5).2
  have t6 : atState6 k s ≤ atState5 k s + s.chans.length * 8388608 := nxL_le (P := fun x => Chan.small20 x.m) (fun c x h => nxChan_le c x h) _ _ (allS_map b6).2
  have t7 : atState7 k s = atState6 k s + s.said.length := rfl
  have s0 : s.places.length ≤ 1048576 := b0
  have s1 : s.status.length ≤ 1048576 := b1
  have s2 := (allS_map b2).1
  have s3 := (allS_map b3).1
  have s4 := (allS_map b4).1
  have s5 := (allS_map b5).1
  have s6 := (allS_map b6).1
  have s7 : s.said.length ≤ 1048576 := b7
  refine calls2 Try.func23 rfl tabOk w _ rfl _ rfl _ hh ⟨rfl, rfl, trivial⟩ _ _ (by decide) ?_
  refine stop_call _ cl83 rfl rfl rfl rfl ⟨rfl, rfl⟩ (fun A w hW => heldIntS_c s.h0 (k) s.places.length w ⟨hW.get 0 rfl (.ofR (stateO_places (mkState k s))), trivial⟩ (Nat.le_trans b0 (by decide)) (by omega)) ?_
  rintro v L ⟨rfl, rfl⟩
  refine CaseB.mk (fun g => by have g' := of_decide_eq_true g; omega) (fun _ => ?_)
  refine stop_call _ cl83 rfl rfl rfl rfl ⟨rfl, rfl⟩ (fun A w hW => heldIntS_c s.h1 (atState0 k s) s.status.length w ⟨hW.get 0 rfl (.ofR (stateO_status (mkState k s))), trivial⟩ (Nat.le_trans b1 (by decide)) (by omega)) ?_
  rintro v L ⟨rfl, rfl⟩
  refine CaseB.mk (fun g => by have g' := of_decide_eq_true g; omega) (fun _ => ?_)
  refine stop_call _ cl84 rfl rfl rfl rfl ⟨rfl, rfl⟩ (fun A w hW => heldSemS_c s.h2 s.sems (atState1 k s) w ⟨hW.get 0 rfl (.R_R (stateO_sems (mkState k s))), trivial⟩ (allS_map b2).1 (allS_map b2).2 (by omega)) ?_
  rintro v L ⟨rfl, rfl⟩
  refine CaseB.mk (fun g => by have g' := of_decide_eq_true g; omega) (fun _ => ?_)
  refine stop_call _ cl85 rfl rfl rfl rfl ⟨rfl, rfl⟩ (fun A w hW => heldOnceS_c s.h3 s.onces (atState2 k s) w ⟨hW.get 0 rfl (.R_R (stateO_onces (mkState k s))), trivial⟩ (allS_map b3).1 (allS_map b3).2 (by omega)) ?_
  rintro v L ⟨rfl, rfl⟩
  refine CaseB.mk (fun g => by have g' := of_decide_eq_true g; omega) (fun _ => ?_)
  refine stop_call _ cl86 rfl rfl rfl rfl ⟨rfl, rfl⟩ (fun A w hW => heldGroupS_c s.h4 s.groups (atState3 k s) w ⟨hW.get 0 rfl (.R_R (stateO_groups (mkState k s))), trivial⟩ (allS_map b4).1 (allS_map b4).2 (by omega)) ?_
  rintro v L ⟨rfl, rfl⟩
  refine CaseB.mk (fun g => by have g' := of_decide_eq_true g; omega) (fun _ => ?_)
  refine stop_call _ cl87 rfl rfl rfl rfl ⟨rfl, rfl⟩ (fun A w hW => heldBarrierS_c s.h5 s.barriers (atState4 k s) w ⟨hW.get 0 rfl (.R_R (stateO_barriers (mkState k s))), trivial⟩ (allS_map b5).1 (allS_map b5).2 (by omega)) ?_
  rintro v L ⟨rfl, rfl⟩
  refine CaseB.mk (fun g => by have g' := of_decide_eq_true g; omega) (fun _ => ?_)
  refine stop_call _ cl88 rfl rfl rfl rfl ⟨rfl, rfl⟩ (fun A w hW => heldChanS_c s.h6 s.chans (atState5 k s) w ⟨hW.get 0 rfl (.R_R (stateO_chans (mkState k s))), trivial⟩ (allS_map b6).1 (allS_map b6).2 (by omega)) ?_
  rintro v L ⟨rfl, rfl⟩
  refine CaseB.mk (fun g => by have g' := of_decide_eq_true g; omega) (fun _ => ?_)
  refine stop_call _ cl83 rfl rfl rfl rfl ⟨rfl, rfl⟩ (fun A w hW => heldIntS_c s.h7 (atState6 k s) s.said.length w ⟨hW.get 0 rfl (.ofR (stateO_said (mkState k s))), trivial⟩ (Nat.le_trans b7 (by decide)) (by omega)) ?_
  rintro v L ⟨rfl, rfl⟩
  refine CaseB.mk (fun g => by have g' := of_decide_eq_true g; omega) (fun _ => ?_)
  exact retw [] ⟨rfl, rfl⟩ trivial rfl trivial (fun _ => rfl)

end Go.Proofs.Ytpopeaoklccgcaa

namespace Go.Proofs.Ytpopeaoklccgcaa

open Go Go.Sx Go.RowKit

def within (xs : List Int) (lo hi : Int) : Prop := xs.length ≤ 3 ∧ ∀ x ∈ xs, lo ≤ x ∧ x ≤ hi

def Prog.shared (p : Prog) (k : Int) : Int := if k = 1 then 1 else if k = 2 ∨ k = 3 then p.sems.length else if k = 4 then 3 else if k = 5 ∨ k = 6 then p.groups.length else if k = 7 then p.barriers.length else p.rooms.length

def Prog.argOk (p : Prog) (o : Op) : Prop := if o.kind = 2 ∨ o.kind = 3 then 1 ≤ o.arg ∧ o.arg ≤ p.sems.getD o.on.toNat 0 else if o.kind = 5 then -9 ≤ o.arg ∧ o.arg ≤ 9 else if o.kind = 1 ∨ o.kind = 4 ∨ o.kind = 8 then isValue o.arg = true else o.arg = 0

def OpOk (p : Prog) (o : Op) : Prop := 1 ≤ o.kind ∧ o.kind ≤ 10 ∧ 0 ≤ o.on ∧ o.on < p.shared o.kind ∧ p.argOk o

structure ProgOk (p : Prog) : Prop where
  sems : within p.sems 1 9
  groups : within p.groups 0 9
  barriers : within p.barriers 1 6
  rooms : within p.rooms 0 4
  n1 : 1 ≤ p.threads.length
  n4 : p.threads.length ≤ 4
  ops : ∀ t ∈ p.threads, t.length ≤ 8 ∧ ∀ o ∈ t, OpOk p o

theorem opOk1 {p : Prog} {o : Op} (h : o.kind = 1) : OpOk p o ↔ o.on = 0 ∧ isValue o.arg = true := by
  simp only [OpOk, Prog.shared, Prog.argOk, h]; by_cases hv : isValue o.arg = true <;> simp [hv] <;> omega

theorem opOk2 {p : Prog} {o : Op} (h : o.kind = 2 ∨ o.kind = 3) : OpOk p o ↔ (0 ≤ o.on ∧ o.on < p.sems.length) ∧ 1 ≤ o.arg ∧ o.arg ≤ p.sems.getD o.on.toNat 0 := by
  rcases h with h | h <;> simp only [OpOk, Prog.shared, Prog.argOk, h] <;> simp <;> omega

theorem opOk4 {p : Prog} {o : Op} (h : o.kind = 4) : OpOk p o ↔ 0 ≤ o.on ∧ o.on ≤ 2 ∧ isValue o.arg = true := by
  simp only [OpOk, Prog.shared, Prog.argOk, h]; by_cases hv : isValue o.arg = true <;> simp [hv] <;> omega

theorem opOk5 {p : Prog} {o : Op} (h : o.kind = 5) : OpOk p o ↔ (0 ≤ o.on ∧ o.on < p.groups.length) ∧ -9 ≤ o.arg ∧ o.arg ≤ 9 := by
  simp only [OpOk, Prog.shared, Prog.argOk, h]; simp; omega

theorem opOk6 {p : Prog} {o : Op} (h : o.kind = 6) : OpOk p o ↔ (0 ≤ o.on ∧ o.on < p.groups.length) ∧ o.arg = 0 := by
  simp only [OpOk, Prog.shared, Prog.argOk, h]; simp; omega

theorem opOk7 {p : Prog} {o : Op} (h : o.kind = 7) : OpOk p o ↔ (0 ≤ o.on ∧ o.on < p.barriers.length) ∧ o.arg = 0 := by
  simp only [OpOk, Prog.shared, Prog.argOk, h]; simp; omega

theorem opOk8 {p : Prog} {o : Op} (h : o.kind = 8) : OpOk p o ↔ (0 ≤ o.on ∧ o.on < p.rooms.length) ∧ isValue o.arg = true := by
  simp only [OpOk, Prog.shared, Prog.argOk, h]; by_cases hv : isValue o.arg = true <;> simp [hv] <;> omega

theorem opOk9 {p : Prog} {o : Op} (h : o.kind = 9 ∨ o.kind = 10) : OpOk p o ↔ (0 ≤ o.on ∧ o.on < p.rooms.length) ∧ o.arg = 0 := by
  rcases h with h | h <;> simp only [OpOk, Prog.shared, Prog.argOk, h] <;> simp <;> omega

theorem opOk0 {p : Prog} {o : Op} (h : o.kind < 1 ∨ 10 < o.kind) : ¬ OpOk p o := fun e => by
  obtain ⟨h1, h2, _⟩ := e; omega

theorem tno {P : Prop} (h : ¬ P) : false = true ↔ P := ⟨fun e => (by cases e), fun e => (h e).elim⟩

theorem tyes {P : Prop} (h : P) : true = true ↔ P := ⟨fun _ => h, fun _ => rfl⟩

/-- What a function that tells returns: a bool, true if and only if P. -/
abbrev Tells (w : World) (P : Prop) : Ending → World → Prop := Ret w fun v L => ∃ b : Bool, v = .bool b ∧ (b = true ↔ P) ∧ L = []

set_option maxRecDepth 100000 in
theorem indexFunc_c {fv : FuncId} {cap : Array Value} {G : List Fct} {q : Int → Bool} (hcl : callable Try.prog fv = true) (hc : ∀ x w, At w [fB true G] → Calls Try.prog fv ([Value.int .i64 x] ++ cap.toList).toArray w (Ret w fun v L => v = .bool (q x) ∧ L = []))
    (i : Sl) (xs : List Int) (w : World) (h : At w [slo i cInt 1 xs, fB true G]) (hb : xs.length ≤ 4294967296) :
    Calls Try.prog 148 #[i.val xs.length, .func (.func fv) #[] cap] w (Ret w fun v L => ∃ k : Int, v = .int .i64 k ∧ (0 ≤ k ↔ ∃ x ∈ xs, q x = true) ∧ L = []) := by
  refine calls2 Try.func148 rfl tabOk w _ rfl _ rfl _ h ⟨rfl, rfl, rfl, rfl, trivial⟩ _ _ (by decide) ?_
  refine LoopW.mk ⟨{ k : Nat // k ≤ xs.length ∧ ∀ x ∈ xs.take k, ¬ q x = true },
    fun p => .mk [(0, .v (i.val xs.length)), (1, .v (.func (.func fv) #[] cap)), (7, .v (.int .i64 xs.length)), (8, .v (.int .i64 p.1))] 0 0 [] [] [slo i cInt 1 xs, fB true G],
    fun p => xs.length - p.1, ⟨0, Nat.zero_le _, by simp⟩, ?_, ?_⟩
  · refine weak_mk [0, 1] ?_ ?_ ?_ ?_ ?_ rfl rfl
    · repeat (first | exact trivial | refine ⟨⟨_, rfl, (by first | exact .of rfl | exact .lit rfl | exact .of (by first | (rfl)) | exact .lit (by first | (rfl))), (by first | exact trivial | exact Nat.le_of_ble_eq_true rfl)⟩, ?_⟩)
    · repeat (first | exact trivial | refine ⟨⟨(by first | exact .head _ | exact .tail _ (.head _) | exact .tail _ (.tail _ (.head _)) | exact .tail _ (.tail _ (.tail _ (.head _))) | exact .tail _ (.tail _ (.tail _ (.tail _ (.head _)))) | exact .tail _ (.tail _ (.tail _ (.tail _ (.tail _ (.head _))))) | exact .tail _ (.tail _ (.tail _ (.tail _ (.tail _ (.tail _ (.head _)))))) | exact .tail _ (.tail _ (.tail _ (.tail _ (.tail _ (.tail _ (.tail _ (.head _))))))) | exact .tail _ (.tail _ (.tail _ (.tail _ (.tail _ (.tail _ (.tail _ (.tail _ (.head _)))))))) | exact .tail _ (.tail _ (.tail _ (.tail _ (.tail _ (.tail _ (.tail _ (.tail _ (.tail _ (.head _)))))))))), Nat.le_of_ble_eq_true rfl⟩, ?_⟩)
    · repeat (first | exact trivial | refine ⟨⟨_, rfl, (by first | exact .of rfl | exact .lit rfl | exact .of (by first | (rfl)) | exact .lit (by first | (rfl))), (by first | exact trivial | exact Nat.le_of_ble_eq_true rfl)⟩, ?_⟩)
    · repeat (first | exact trivial | refine ⟨⟨_, rfl⟩, ?_⟩)
    · repeat (first | exact trivial | refine ⟨.inl ⟨_, rfl, (by first | rfl | (rfl))⟩, ?_⟩ | refine ⟨.inr ⟨Nat.le_of_ble_eq_true rfl, rfl, rfl, rfl, rfl⟩, ?_⟩)
  · rintro ⟨k, hk, he⟩
    refine CaseB.mk (fun h => ?_) (fun h => ?_)
    · have hlt : k < xs.length := by simpa using h
      refine stop_idx encInt tabOk rfl rfl rfl rfl rfl ⟨rfl, rfl⟩ (by first | exact rdAt 0 rfl | exact rdOwnAt 0 rfl | exact rdAt 1 rfl | exact rdOwnAt 1 rfl | exact rdAt 2 rfl | exact rdOwnAt 2 rfl | exact rdAt 3 rfl | exact rdOwnAt 3 rfl | exact rdAt 4 rfl | exact rdOwnAt 4 rfl | exact rdAt 5 rfl | exact rdOwnAt 5 rfl | exact rdAt 6 rfl | exact rdOwnAt 6 rfl | exact rdAt 7 rfl | exact rdOwnAt 7 rfl | exact rdAt 8 rfl | exact rdOwnAt 8 rfl | exact rdAt 9 rfl | exact rdOwnAt 9 rfl | exact rdAt 10 rfl | exact rdOwnAt 10 rfl | exact rdAt 11 rfl | exact rdOwnAt 11 rfl | exact rdAt 12 rfl | exact rdOwnAt 12 rfl | exact rdAt 13 rfl | exact rdOwnAt 13 rfl | exact rdAt 14 rfl | exact rdOwnAt 14 rfl | exact rdAt 15 rfl | exact rdOwnAt 15 rfl | exact rdAt 16 rfl | exact rdOwnAt 16 rfl | exact rdAt 17 rfl | exact rdOwnAt 17 rfl | exact rdAt 18 rfl | exact rdOwnAt 18 rfl | exact rdAt 19 rfl | exact rdOwnAt 19 rfl | exact rdAt 20 rfl | exact rdOwnAt 20 rfl | exact rdAt 21 rfl | exact rdOwnAt 21 rfl | exact rdAt 22 rfl | exact rdOwnAt 22 rfl | exact rdAt 23 rfl | exact rdOwnAt 23 rfl) k rfl (by first | omega | (simp; done) | (simp; omega) | (unfold maxLen; omega) | (unfold maxLen; simp; done) | (unfold maxLen; simp; omega)) (fun ad => ?_)
      refine stop_callV _ hcl rfl rfl rfl rfl ⟨rfl, rfl⟩ (fun A w hW => hc _ w ⟨hW.get 1 rfl (.refl _), trivial⟩) ?_
      rintro v L ⟨rfl, rfl⟩
      refine CaseB.mk (fun h => ?_) (fun h => ?_)
      · exact retw [] ⟨(k : Int), rfl, ⟨fun _ => ⟨xs[k], List.getElem_mem hlt, h⟩, fun _ => Int.natCast_nonneg k⟩, rfl⟩ trivial rfl trivial (fun _ => rfl)
      · have hw := wrapN k _ hlt hb
        refine ⟨⟨k + 1, by omega, fun x hx => ?_⟩, ?_, by simp; omega⟩
        · rw [List.take_succ_eq_append_getElem hlt] at hx
          rcases List.mem_append.1 hx with hx | hx
          · exact he x hx
          · simp at hx; subst hx; simpa using h
        · refine weak_mk [0, 1] ?_ ?_ ?_ ?_ ?_ rfl rfl
          · repeat (first | exact trivial | refine ⟨⟨_, rfl, (by first | exact .of rfl | exact .lit rfl | exact .of (by first | ((exact congrArg (fun z => SV.v (Value.int .i64 z)) hw))) | exact .lit (by first | ((exact congrArg (fun z => SV.v (Value.int .i64 z)) hw)))), (by first | exact trivial | exact Nat.le_of_ble_eq_true rfl)⟩, ?_⟩)
          · repeat (first | exact trivial | refine ⟨⟨(by first | exact .head _ | exact .tail _ (.head _) | exact .tail _ (.tail _ (.head _)) | exact .tail _ (.tail _ (.tail _ (.head _))) | exact .tail _ (.tail _ (.tail _ (.tail _ (.head _)))) | exact .tail _ (.tail _ (.tail _ (.tail _ (.tail _ (.head _))))) | exact .tail _ (.tail _ (.tail _ (.tail _ (.tail _ (.tail _ (.head _)))))) | exact .tail _ (.tail _ (.tail _ (.tail _ (.tail _ (.tail _ (.tail _ (.head _))))))) | exact .tail _ (.tail _ (.tail _ (.tail _ (.tail _ (.tail _ (.tail _ (.tail _ (.head _)))))))) | exact .tail _ (.tail _ (.tail _ (.tail _ (.tail _ (.tail _ (.tail _ (.tail _ (.tail _ (.head _)))))))))), Nat.le_of_ble_eq_true rfl⟩, ?_⟩)
          · repeat (first | exact trivial | refine ⟨⟨_, rfl, (by first | exact .of rfl | exact .lit rfl | exact .of (by first | ((exact congrArg (fun z => SV.v (Value.int .i64 z)) hw))) | exact .lit (by first | ((exact congrArg (fun z => SV.v (Value.int .i64 z)) hw)))), (by first | exact trivial | exact Nat.le_of_ble_eq_true rfl)⟩, ?_⟩)
          · repeat (first | exact trivial | refine ⟨⟨_, rfl⟩, ?_⟩)
          · repeat (first | exact trivial | refine ⟨.inl ⟨_, rfl, (by first | rfl | ((exact congrArg (fun z => SV.v (Value.int .i64 z)) hw)))⟩, ?_⟩ | refine ⟨.inr ⟨Nat.le_of_ble_eq_true rfl, rfl, rfl, rfl, rfl⟩, ?_⟩)
    · have hge : xs.length ≤ k := by simpa using h
      rw [List.take_of_length_le hge] at he
      exact retw [] ⟨-1, rfl, ⟨fun h => by omega, fun ⟨x, hx, hq⟩ => (he x hx hq).elim⟩, rfl⟩ trivial rfl trivial (fun _ => rfl)

set_option maxRecDepth 100000 in
theorem containsFunc_c {fv : FuncId} {cap : Array Value} {G : List Fct} {q : Int → Bool} (hcl : callable Try.prog fv = true) (hc : ∀ x w, At w [fB true G] → Calls Try.prog fv ([Value.int .i64 x] ++ cap.toList).toArray w (Ret w fun v L => v = .bool (q x) ∧ L = []))
    (i : Sl) (xs : List Int) (w : World) (h : At w [slo i cInt 1 xs, fB true G]) (hb : xs.length ≤ 4294967296) :
    Calls Try.prog 115 #[i.val xs.length, .func (.func fv) #[] cap] w (Tells w (∃ x ∈ xs, q x = true)) := by
  refine calls2 Try.func115 rfl tabOk w _ rfl _ rfl _ h ⟨rfl, rfl, rfl, rfl, trivial⟩ _ _ (by decide) ?_
  refine stop_call _ cl148 rfl rfl rfl rfl ⟨rfl, rfl⟩ (fun A w hW => indexFunc_c hcl hc i xs w ⟨hW.get 0 rfl (.refl _), hW.get 1 rfl (.refl _), trivial⟩ hb) ?_
  rintro v L ⟨k, rfl, hk, rfl⟩
  exact retw [] ⟨_, rfl, by simpa using hk, rfl⟩ trivial rfl trivial (fun _ => rfl)

abbrev varI2 (g : Nat) (t : Int) : Fct := fVar g 3 [.int .i64 t]

set_option maxRecDepth 100000 in
theorem within1_c (x lo hi : Int) (g1 g2 : Nat) (w : World) (h : At w [fB true [varI2 g1 lo, varI2 g2 hi]]) :
    Calls Try.prog 116 #[.int .i64 x, .pointer (some ⟨g1, 0, none⟩), .pointer (some ⟨g2, 0, none⟩)] w (Ret w fun v L => v = .bool (decide (x < lo) || decide (hi < x)) ∧ L = []) := by
  have h' : At w [varI2 g1 lo, varI2 g2 hi] := ⟨fB_mem h.1 (by simp), fB_mem h.1 (by simp), trivial⟩
  refine calls3 Try.func116 rfl tabOk w _ rfl _ rfl _ h' ⟨rfl, rfl, rfl, rfl, trivial⟩ _ _ _ (by decide) ?_
  refine stop_loadV 0 tabOk rfl rfl rfl rfl rfl ⟨rfl, rfl⟩ ?_
  refine CaseB.mk (fun g => ?_) (fun g => ?_)
  · refine retw [] ⟨?_, rfl⟩ trivial rfl trivial (fun _ => rfl)
    have : x < lo := by simpa using g
    simp [this]
  · refine stop_loadV 1 tabOk rfl rfl rfl rfl rfl ⟨rfl, rfl⟩ ?_
    refine retw [] ⟨?_, rfl⟩ trivial rfl trivial (fun _ => rfl)
    have : ¬ x < lo := by simpa using g
    simp [this]

set_option maxRecDepth 100000 in
theorem within_c (i : Sl) (xs : List Int) (lo hi : Int) (w : World) (h : At w [slo i cInt 1 xs]) (hb : xs.length ≤ 4294967296) :
    Calls Try.prog 62 #[i.val xs.length, .int .i64 lo, .int .i64 hi] w (Tells w (within xs lo hi)) := by
  refine calls3 Try.func62 rfl tabOk w _ rfl _ rfl _ h ⟨rfl, rfl, trivial⟩ _ _ _ (by decide) ?_
  refine CaseB.mk (fun g => ?_) (fun g => ?_)
  · have hl : xs.length ≤ 3 := by simp at g; omega
    refine stop_call _ cl115 rfl rfl rfl rfl ⟨rfl, rfl⟩ (fun A w hW => containsFunc_c (fv := 116) (q := fun x => decide (x < lo) || decide (hi < x)) (G := [varI2 (A 0) lo, varI2 (A 1) hi]) cl116 (fun x w h => within1_c x lo hi _ _ w h) i xs w ⟨hW.get 0 rfl (.refl _), fB_two (hW.var rfl rfl) (hW.var rfl rfl), trivial⟩ hb) ?_
    rintro v L ⟨b, rfl, hbb, rfl⟩
    refine retw [] ⟨_, rfl, ?_, rfl⟩ trivial rfl trivial (fun _ => rfl)
    simp only [Bool.not_eq_true', ← Bool.not_eq_true, hbb, within]
    constructor
    · intro hn
      refine ⟨hl, fun x hx => ?_⟩
      rcases Int.lt_or_le x lo with h1 | h1
      · exact (hn ⟨x, hx, by simp [h1]⟩).elim
      · rcases Int.lt_or_le hi x with h2 | h2
        · exact (hn ⟨x, hx, by simp [h2]⟩).elim
        · exact ⟨h1, h2⟩
    · rintro ⟨_, hx⟩ ⟨x, hx', hq⟩
      have := hx x hx'
      simp at hq
      omega
  · have hl : ¬ xs.length ≤ 3 := by simp at g; omega
    exact retw [] ⟨_, rfl, tno fun h => hl h.1, rfl⟩ trivial rfl trivial (fun _ => rfl)

set_option maxRecDepth 100000 in
theorem opOn_c (i : Sl) (n : Nat) (o : Op) (g : Nat) (w : World) (h : At w [fVar g 111 (cOp o)]) :
    Calls Try.prog 117 #[i.val n, .pointer (some ⟨g, 0, none⟩)] w (Tells w (0 ≤ o.on ∧ o.on < n)) := by
  refine calls2 Try.func117 rfl tabOk w _ rfl _ rfl _ h ⟨rfl, rfl, trivial⟩ _ _ (by decide) ?_
  refine stop_fldW tabOk rfl rfl rfl rfl ⟨rfl, rfl⟩ ?_
  refine stop_loadF 0 tabOk rfl rfl rfl rfl rfl ⟨rfl, rfl⟩ ?_
  refine CaseB.mk (fun g1 => ?_) (fun g1 => ?_)
  · refine stop_fldW tabOk rfl rfl rfl rfl ⟨rfl, rfl⟩ ?_
    refine stop_loadF 0 tabOk rfl rfl rfl rfl rfl ⟨rfl, rfl⟩ ?_
    refine retw [] ⟨_, rfl, ?_, rfl⟩ trivial rfl trivial (fun _ => rfl)
    have : 0 ≤ o.on := by simpa using g1
    simp [this]
  · have : ¬ 0 ≤ o.on := by simpa using g1
    exact retw [] ⟨_, rfl, tno fun h => this h.1, rfl⟩ trivial rfl trivial (fun _ => rfl)

end Go.Proofs.Ytpopeaoklccgcaa

namespace Go.Proofs.Ytpopeaoklccgcaa

open Go Go.Sx Go.RowKit

set_option maxHeartbeats 16000000 in
set_option maxRecDepth 100000 in
theorem opValid_c (p : ProgH) (o : Op) (w : World) (h : At w [fR (progO p)]) :
    Calls Try.prog 63 #[progV p, .agg (cOp o).toArray] w (Tells w (OpOk p.pure o)) := by
  refine calls2 Try.func63 rfl tabOk w _ rfl _ rfl _ h ⟨rfl, rfl, trivial⟩ _ _ (by decide) ?_
  refine CaseB.mk (fun k1 => ?_) (fun k1 => ?_)
  · have hx := opOk1 (p := p.pure) (o := o) (by simpa using k1)
    refine CaseB.mk (fun g => ?_) (fun g => ?_)
    · have g' : o.on = 0 := by simpa using g
      refine stop_call _ cl69 rfl rfl rfl rfl ⟨rfl, rfl⟩ (fun A w hW => isValue_c _ w) ?_
      rintro v L ⟨rfl, rfl⟩
      exact retw [] ⟨_, rfl, by rw [hx]; simp [g'], rfl⟩ trivial rfl trivial (fun _ => rfl)
    · have g' : ¬ o.on = 0 := by simpa using g
      exact retw [] ⟨_, rfl, tno fun e => g' (hx.1 e).1, rfl⟩ trivial rfl trivial (fun _ => rfl)
  refine CaseB.mk (fun k2 => ?_) (fun k2 => ?_)
  · refine CaseB.mk (fun _ => ?_) (fun g => by rw [k2] at g; cases g)
    have hx := opOk2 (p := p.pure) (o := o) (.inl (by simpa using k2))
    refine draw_start tabOk (by kernel_rfl) (by kernel_rfl) (by kernel_rfl) 200 [((0, 0), .v (p.h0.val p.sems.length)), ((1, 0), .v (.int .i64 o.kind)), ((1, 1), .v (.int .i64 o.on)), ((1, 2), .v (.int .i64 o.arg))] [0] [_] ⟨⟨_, rfl, rfl, (by first | exact trivial | exact Nat.le_of_ble_eq_true rfl)⟩, ⟨_, rfl, rfl, (by first | exact trivial | exact Nat.le_of_ble_eq_true rfl)⟩, ⟨_, rfl, rfl, (by first | exact trivial | exact Nat.le_of_ble_eq_true rfl)⟩, ⟨_, rfl, rfl, (by first | exact trivial | exact Nat.le_of_ble_eq_true rfl)⟩, trivial⟩ ⟨⟨_, rfl⟩, ⟨_, rfl⟩, ⟨_, rfl⟩, ⟨_, rfl⟩, trivial⟩ ⟨rfl, trivial⟩ rfl ?_
    refine d_call _ cl117 rfl rfl rfl rfl ⟨rfl, rfl⟩ (fun A w hW => opOn_c p.h0 p.sems.length o (A 1) w ⟨hW.var rfl rfl, trivial⟩) ?_
    rintro v L ⟨b, rfl, hb, rfl⟩
    refine CaseB.mk (fun g1 => ?_) (fun g1 => ?_)
    · obtain ⟨c1, c2⟩ := hb.1 g1
      have hlt : o.on.toNat < p.sems.length := by omega
      have e : p.pure.sems.getD o.on.toNat 0 = p.sems[o.on.toNat] := by simp [ProgH.pure, List.getD, hlt]
      refine CaseB.mk (fun g2 => ?_) (fun g2 => ?_)
      · have c3 : 1 ≤ o.arg := by simp at g2; omega
        refine d_idx (ti := tiOf tab) encInt tabOk rfl rfl rfl rfl rfl ⟨rfl, rfl⟩ (rdVia 0 rfl (.ofR (progO_sems p))) o.on.toNat (by omega) (by first | omega | (simp; done) | (simp; omega) | (unfold maxLen; omega) | (unfold maxLen; simp; done) | (unfold maxLen; simp; omega)) (fun ad => ?_)
        refine retw [] ⟨_, rfl, ?_, rfl⟩ trivial rfl trivial (fun _ => rfl)
        rw [hx, e]
        show _ ↔ (0 ≤ o.on ∧ o.on < (p.sems.length : Int)) ∧ _
        simp [c1, c2, c3]
      · have c3 : ¬ 1 ≤ o.arg := by simp at g2; omega
        exact retw [] ⟨_, rfl, tno fun e => c3 (hx.1 e).2.1, rfl⟩ trivial rfl trivial (fun _ => rfl)
    · exact retw [] ⟨_, rfl, tno fun e => (by rw [hb.2 (hx.1 e).1] at g1; cases g1), rfl⟩ trivial rfl trivial (fun _ => rfl)
  refine CaseB.mk (fun k3 => ?_) (fun k3 => ?_)
  · skip
    have hx := opOk2 (p := p.pure) (o := o) (.inr (by simpa using k3))
    refine draw_start tabOk (by kernel_rfl) (by kernel_rfl) (by kernel_rfl) 200 [((0, 0), .v (p.h0.val p.sems.length)), ((1, 0), .v (.int .i64 o.kind)), ((1, 1), .v (.int .i64 o.on)), ((1, 2), .v (.int .i64 o.arg))] [0] [_] ⟨⟨_, rfl, rfl, (by first | exact trivial | exact Nat.le_of_ble_eq_true rfl)⟩, ⟨_, rfl, rfl, (by first | exact trivial | exact Nat.le_of_ble_eq_true rfl)⟩, ⟨_, rfl, rfl, (by first | exact trivial | exact Nat.le_of_ble_eq_true rfl)⟩, ⟨_, rfl, rfl, (by first | exact trivial | exact Nat.le_of_ble_eq_true rfl)⟩, trivial⟩ ⟨⟨_, rfl⟩, ⟨_, rfl⟩, ⟨_, rfl⟩, ⟨_, rfl⟩, trivial⟩ ⟨rfl, trivial⟩ rfl ?_
    refine d_call _ cl117 rfl rfl rfl rfl ⟨rfl, rfl⟩ (fun A w hW => opOn_c p.h0 p.sems.length o (A 1) w ⟨hW.var rfl rfl, trivial⟩) ?_
    rintro v L ⟨b, rfl, hb, rfl⟩
    refine CaseB.mk (fun g1 => ?_) (fun g1 => ?_)
    · obtain ⟨c1, c2⟩ := hb.1 g1
      have hlt : o.on.toNat < p.sems.length := by omega
      have e : p.pure.sems.getD o.on.toNat 0 = p.sems[o.on.toNat] := by simp [ProgH.pure, List.getD, hlt]
      refine CaseB.mk (fun g2 => ?_) (fun g2 => ?_)
      · have c3 : 1 ≤ o.arg := by simp at g2; omega
        refine d_idx (ti := tiOf tab) encInt tabOk rfl rfl rfl rfl rfl ⟨rfl, rfl⟩ (rdVia 0 rfl (.ofR (progO_sems p))) o.on.toNat (by omega) (by first | omega | (simp; done) | (simp; omega) | (unfold maxLen; omega) | (unfold maxLen; simp; done) | (unfold maxLen; simp; omega)) (fun ad => ?_)
        refine retw [] ⟨_, rfl, ?_, rfl⟩ trivial rfl trivial (fun _ => rfl)
        rw [hx, e]
        show _ ↔ (0 ≤ o.on ∧ o.on < (p.sems.length : Int)) ∧ _
        simp [c1, c2, c3]
      · have c3 : ¬ 1 ≤ o.arg := by simp at g2; omega
        exact retw [] ⟨_, rfl, tno fun e => c3 (hx.1 e).2.1, rfl⟩ trivial rfl trivial (fun _ => rfl)
    · exact retw [] ⟨_, rfl, tno fun e => (by rw [hb.2 (hx.1 e).1] at g1; cases g1), rfl⟩ trivial rfl trivial (fun _ => rfl)
  refine CaseB.mk (fun k4 => ?_) (fun k4 => ?_)
  · have hx := opOk4 (p := p.pure) (o := o) (by simpa using k4)
    refine CaseB.mk (fun g => ?_) (fun g => ?_)
    · have g1 : 0 ≤ o.on := by simp at g; omega
      refine CaseB.mk (fun g => ?_) (fun g => ?_)
      · have g2 : o.on ≤ 2 := by simp at g; omega
        refine stop_call _ cl69 rfl rfl rfl rfl ⟨rfl, rfl⟩ (fun A w hW => isValue_c _ w) ?_
        rintro v L ⟨rfl, rfl⟩
        exact retw [] ⟨_, rfl, by rw [hx]; simp [g1, g2], rfl⟩ trivial rfl trivial (fun _ => rfl)
      · have g2 : ¬ o.on ≤ 2 := by simp at g; omega
        exact retw [] ⟨_, rfl, tno fun e => g2 (hx.1 e).2.1, rfl⟩ trivial rfl trivial (fun _ => rfl)
    · have g1 : ¬ 0 ≤ o.on := by simp at g; omega
      exact retw [] ⟨_, rfl, tno fun e => g1 (hx.1 e).1, rfl⟩ trivial rfl trivial (fun _ => rfl)
  refine CaseB.mk (fun k5 => ?_) (fun k5 => ?_)
  · skip
    have hx := opOk5 (p := p.pure) (o := o) (by simpa using k5)
    refine stop_call _ cl117 rfl rfl rfl rfl ⟨rfl, rfl⟩ (fun A w hW => opOn_c p.h1 p.groups.length o (A 1) w ⟨hW.var rfl rfl, trivial⟩) ?_
    rintro v L ⟨b, rfl, hb, rfl⟩
    refine CaseB.mk (fun g1 => ?_) (fun g1 => ?_)
    rotate_left
    · exact retw [] ⟨_, rfl, tno fun e => (by rw [hb.2 (hx.1 e).1] at g1; cases g1), rfl⟩ trivial rfl trivial (fun _ => rfl)
    have c := hb.1 g1
    have c' : 0 ≤ o.on ∧ o.on < (p.pure.groups.length : Int) := c
    refine CaseB.mk (fun g2 => ?_) (fun g2 => ?_)
    · have c3 : -9 ≤ o.arg := by simp at g2; omega
      exact retw [] ⟨_, rfl, by rw [hx]; simp only [c', c3, true_and, and_self]; simp, rfl⟩ trivial rfl trivial (fun _ => rfl)
    · have c3 : ¬ -9 ≤ o.arg := by simp at g2; omega
      exact retw [] ⟨_, rfl, tno fun e => c3 (hx.1 e).2.1, rfl⟩ trivial rfl trivial (fun _ => rfl)
  refine CaseB.mk (fun k6 => ?_) (fun k6 => ?_)
  · skip
    have hx := opOk6 (p := p.pure) (o := o) (by simpa using k6)
    refine stop_call _ cl117 rfl rfl rfl rfl ⟨rfl, rfl⟩ (fun A w hW => opOn_c p.h1 p.groups.length o (A 1) w ⟨hW.var rfl rfl, trivial⟩) ?_
    rintro v L ⟨b, rfl, hb, rfl⟩
    refine CaseB.mk (fun g1 => ?_) (fun g1 => ?_)
    rotate_left
    · exact retw [] ⟨_, rfl, tno fun e => (by rw [hb.2 (hx.1 e).1] at g1; cases g1), rfl⟩ trivial rfl trivial (fun _ => rfl)
    have c := hb.1 g1
    have c' : 0 ≤ o.on ∧ o.on < (p.pure.groups.length : Int) := c
    exact retw [] ⟨_, rfl, by rw [hx]; simp only [c', true_and, and_self]; simp, rfl⟩ trivial rfl trivial (fun _ => rfl)
  refine CaseB.mk (fun k7 => ?_) (fun k7 => ?_)
  · skip
    have hx := opOk7 (p := p.pure) (o := o) (by simpa using k7)
    refine stop_call _ cl117 rfl rfl rfl rfl ⟨rfl, rfl⟩ (fun A w hW => opOn_c p.h2 p.barriers.length o (A 1) w ⟨hW.var rfl rfl, trivial⟩) ?_
    rintro v L ⟨b, rfl, hb, rfl⟩
    refine CaseB.mk (fun g1 => ?_) (fun g1 => ?_)
    rotate_left
    · exact retw [] ⟨_, rfl, tno fun e => (by rw [hb.2 (hx.1 e).1] at g1; cases g1), rfl⟩ trivial rfl trivial (fun _ => rfl)
    have c := hb.1 g1
    have c' : 0 ≤ o.on ∧ o.on < (p.pure.barriers.length : Int) := c
    exact retw [] ⟨_, rfl, by rw [hx]; simp only [c', true_and, and_self]; simp, rfl⟩ trivial rfl trivial (fun _ => rfl)
  refine CaseB.mk (fun k8 => ?_) (fun k8 => ?_)
  · skip
    have hx := opOk8 (p := p.pure) (o := o) (by simpa using k8)
    refine stop_call _ cl117 rfl rfl rfl rfl ⟨rfl, rfl⟩ (fun A w hW => opOn_c p.h3 p.rooms.length o (A 1) w ⟨hW.var rfl rfl, trivial⟩) ?_
    rintro v L ⟨b, rfl, hb, rfl⟩
    refine CaseB.mk (fun g1 => ?_) (fun g1 => ?_)
    rotate_left
    · exact retw [] ⟨_, rfl, tno fun e => (by rw [hb.2 (hx.1 e).1] at g1; cases g1), rfl⟩ trivial rfl trivial (fun _ => rfl)
    have c := hb.1 g1
    have c' : 0 ≤ o.on ∧ o.on < (p.pure.rooms.length : Int) := c
    refine stop_call _ cl69 rfl rfl rfl rfl ⟨rfl, rfl⟩ (fun A w hW => isValue_c _ w) ?_
    rintro v L ⟨rfl, rfl⟩
    exact retw [] ⟨_, rfl, by rw [hx]; simp only [c', true_and, and_self], rfl⟩ trivial rfl trivial (fun _ => rfl)
  refine CaseB.mk (fun k9 => ?_) (fun k9 => ?_)
  · refine CaseB.mk (fun _ => ?_) (fun g => by rw [k9] at g; cases g)
    have hx := opOk9 (p := p.pure) (o := o) (.inl (by simpa using k9))
    refine stop_call _ cl117 rfl rfl rfl rfl ⟨rfl, rfl⟩ (fun A w hW => opOn_c p.h3 p.rooms.length o (A 1) w ⟨hW.var rfl rfl, trivial⟩) ?_
    rintro v L ⟨b, rfl, hb, rfl⟩
    refine CaseB.mk (fun g1 => ?_) (fun g1 => ?_)
    rotate_left
    · exact retw [] ⟨_, rfl, tno fun e => (by rw [hb.2 (hx.1 e).1] at g1; cases g1), rfl⟩ trivial rfl trivial (fun _ => rfl)
    have c := hb.1 g1
    have c' : 0 ≤ o.on ∧ o.on < (p.pure.rooms.length : Int) := c
    exact retw [] ⟨_, rfl, by rw [hx]; simp only [c', true_and, and_self]; simp, rfl⟩ trivial rfl trivial (fun _ => rfl)
  refine CaseB.mk (fun k10 => ?_) (fun k10 => ?_)
  · skip
    have hx := opOk9 (p := p.pure) (o := o) (.inr (by simpa using k10))
    refine stop_call _ cl117 rfl rfl rfl rfl ⟨rfl, rfl⟩ (fun A w hW => opOn_c p.h3 p.rooms.length o (A 1) w ⟨hW.var rfl rfl, trivial⟩) ?_
    rintro v L ⟨b, rfl, hb, rfl⟩
    refine CaseB.mk (fun g1 => ?_) (fun g1 => ?_)
    rotate_left
    · exact retw [] ⟨_, rfl, tno fun e => (by rw [hb.2 (hx.1 e).1] at g1; cases g1), rfl⟩ trivial rfl trivial (fun _ => rfl)
    have c := hb.1 g1
    have c' : 0 ≤ o.on ∧ o.on < (p.pure.rooms.length : Int) := c
    exact retw [] ⟨_, rfl, by rw [hx]; simp only [c', true_and, and_self]; simp, rfl⟩ trivial rfl trivial (fun _ => rfl)
  have hno : ¬ OpOk p.pure o := opOk0 (by simp at k1 k2 k3 k4 k5 k6 k7 k8 k9 k10; omega)
  exact retw [] ⟨_, rfl, tno hno, rfl⟩ trivial rfl trivial (fun _ => rfl)

end Go.Proofs.Ytpopeaoklccgcaa

namespace Go.Proofs.Ytpopeaoklccgcaa

open Go Go.Sx Go.RowKit

def l6Words : List ByteArray := [⟨#[]⟩, ⟨#[115, 97, 121]⟩, ⟨#[97, 99, 113, 117, 105, 114, 101]⟩, ⟨#[114, 101, 108, 101, 97, 115, 101]⟩, ⟨#[111, 110, 99, 101]⟩, ⟨#[97, 100, 100]⟩, ⟨#[119, 97, 105, 116]⟩, ⟨#[97, 114, 114, 105, 118, 101]⟩, ⟨#[115, 101, 110, 100]⟩, ⟨#[103, 101, 116]⟩, ⟨#[99, 108, 111, 115, 101]⟩]

def cStr (b : ByteArray) : List Value := [.string b]

theorem encStr : Enc cStr 1 := ⟨fun _ => rfl, fun _ u hu => by simp [cStr] at hu; subst hu; rfl⟩

def wordOf (k : Int) : ByteArray := if 1 ≤ k ∧ k ≤ 10 then l6Words.getD k.toNat ⟨#[]⟩ else ⟨#[]⟩

theorem wordOf_empty (k : Int) : ((wordOf k).toList == (⟨#[]⟩ : ByteArray).toList) = true ↔ ¬ (1 ≤ k ∧ k ≤ 10) := by
  unfold wordOf
  by_cases h : 1 ≤ k ∧ k ≤ 10
  · rw [if_pos h]
    have : k = 1 ∨ k = 2 ∨ k = 3 ∨ k = 4 ∨ k = 5 ∨ k = 6 ∨ k = 7 ∨ k = 8 ∨ k = 9 ∨ k = 10 := by omega
    simp only [h, and_self, not_true_eq_false, iff_false]
    rw [← beq_toListBytes]
    rcases this with rfl | rfl | rfl | rfl | rfl | rfl | rfl | rfl | rfl | rfl <;> decide
  · rw [if_neg h]
    simp [h]

set_option maxHeartbeats 4000000 in
set_option maxRecDepth 100000 in
theorem l6Word_c (k : Int) (w : World) : Calls Try.prog 145 #[.int .i64 k] w (Ret w fun v L => v = .string (wordOf k) ∧ L = []) := by
  refine calls1 Try.func145 rfl tabOk w _ rfl _ rfl [] trivial trivial _ (by decide) ?_
  refine AllSl.mk fun y => ?_
  refine CaseB.mk (fun g => ?_) (fun g => ?_)
  · have q : ¬ (1 ≤ k ∧ k ≤ 10) := by simp at g; omega
    exact retw [] ⟨by rw [wordOf, if_neg q], rfl⟩ trivial rfl trivial (fun _ => rfl)
  refine CaseB.mk (fun g2 => ?_) (fun g2 => ?_)
  · have q : ¬ (1 ≤ k ∧ k ≤ 10) := by simp at g2; omega
    exact retw [] ⟨by rw [wordOf, if_neg q], rfl⟩ trivial rfl trivial (fun _ => rfl)
  have q : 1 ≤ k ∧ k ≤ 10 := by simp at g g2; omega
  have hlt : k.toNat < l6Words.length := by show k.toNat < 11; omega
  refine stop_idx encStr (xs := l6Words) tabOk rfl rfl rfl rfl rfl ⟨rfl, rfl⟩ (rdOwnAt 0 rfl) k.toNat (by omega) hlt (fun ad => ?_)
  exact retw [] ⟨by rw [wordOf, if_pos q]; simp [List.getD, hlt], rfl⟩ trivial rfl trivial (fun _ => rfl)

set_option maxRecDepth 100000 in
theorem l6Numbers_c (i : Sl) (xs : List Int) (lo hi : Int) (w : World) (h : At w [slo i cInt 1 xs]) (hb : xs.length ≤ 4294967296) :
    Calls Try.prog 113 #[i.val xs.length, .int .i64 lo, .int .i64 hi] w (Tells w (within xs lo hi)) := by
  refine calls3 Try.func113 rfl tabOk w _ rfl _ rfl _ h ⟨rfl, rfl, trivial⟩ _ _ _ (by decide) ?_
  refine LoopW.mk ⟨{ k : Nat // k ≤ xs.length ∧ k ≤ 4 ∧ ∀ x ∈ xs.take k, lo ≤ x ∧ x ≤ hi },
    fun k => .mk [(0, .v (i.val xs.length)), (1, .v (.int .i64 lo)), (2, .v (.int .i64 hi)), (7, .v (.int .i64 (k.1 : Int)))] 0 0 [] [] [slo i cInt 1 xs],
    fun k => xs.length - k.1, ⟨0, Nat.zero_le _, by omega, by simp⟩, ?_, ?_⟩
  · refine weak_mk [0] ?_ ?_ ?_ ?_ ?_ rfl rfl
    · repeat (first | exact trivial | refine ⟨⟨_, rfl, (by first | exact .of rfl | exact .lit rfl | exact .of (by first | (rfl)) | exact .lit (by first | (rfl))), (by first | exact trivial | exact Nat.le_of_ble_eq_true rfl)⟩, ?_⟩)
    · repeat (first | exact trivial | refine ⟨⟨(by first | exact .head _ | exact .tail _ (.head _) | exact .tail _ (.tail _ (.head _)) | exact .tail _ (.tail _ (.tail _ (.head _))) | exact .tail _ (.tail _ (.tail _ (.tail _ (.head _)))) | exact .tail _ (.tail _ (.tail _ (.tail _ (.tail _ (.head _))))) | exact .tail _ (.tail _ (.tail _ (.tail _ (.tail _ (.tail _ (.head _)))))) | exact .tail _ (.tail _ (.tail _ (.tail _ (.tail _ (.tail _ (.tail _ (.head _))))))) | exact .tail _ (.tail _ (.tail _ (.tail _ (.tail _ (.tail _ (.tail _ (.tail _ (.head _)))))))) | exact .tail _ (.tail _ (.tail _ (.tail _ (.tail _ (.tail _ (.tail _ (.tail _ (.tail _ (.head _)))))))))), Nat.le_of_ble_eq_true rfl⟩, ?_⟩)
    · repeat (first | exact trivial | refine ⟨⟨_, rfl, (by first | exact .of rfl | exact .lit rfl | exact .of (by first | (rfl)) | exact .lit (by first | (rfl))), (by first | exact trivial | exact Nat.le_of_ble_eq_true rfl)⟩, ?_⟩)
    · repeat (first | exact trivial | refine ⟨⟨_, rfl⟩, ?_⟩)
    · repeat (first | exact trivial | refine ⟨.inl ⟨_, rfl, (by first | rfl | (rfl))⟩, ?_⟩ | refine ⟨.inr ⟨Nat.le_of_ble_eq_true rfl, rfl, rfl, rfl, rfl⟩, ?_⟩)
  rintro ⟨k, hk, h4, hinv⟩
  refine CaseB.mk (fun g => ?_) (fun g => ?_)
  · have hlt : k < xs.length := by simpa using g
    refine CaseB.mk (fun g => ?_) (fun g => ?_)
    · have h3 : k ≤ 3 := by simp at g; omega
      refine stop_idx encInt tabOk rfl rfl rfl rfl rfl ⟨rfl, rfl⟩ (by first | exact rdAt 0 rfl | exact rdOwnAt 0 rfl | exact rdAt 1 rfl | exact rdOwnAt 1 rfl | exact rdAt 2 rfl | exact rdOwnAt 2 rfl | exact rdAt 3 rfl | exact rdOwnAt 3 rfl | exact rdAt 4 rfl | exact rdOwnAt 4 rfl | exact rdAt 5 rfl | exact rdOwnAt 5 rfl | exact rdAt 6 rfl | exact rdOwnAt 6 rfl | exact rdAt 7 rfl | exact rdOwnAt 7 rfl | exact rdAt 8 rfl | exact rdOwnAt 8 rfl | exact rdAt 9 rfl | exact rdOwnAt 9 rfl | exact rdAt 10 rfl | exact rdOwnAt 10 rfl | exact rdAt 11 rfl | exact rdOwnAt 11 rfl | exact rdAt 12 rfl | exact rdOwnAt 12 rfl | exact rdAt 13 rfl | exact rdOwnAt 13 rfl | exact rdAt 14 rfl | exact rdOwnAt 14 rfl | exact rdAt 15 rfl | exact rdOwnAt 15 rfl | exact rdAt 16 rfl | exact rdOwnAt 16 rfl | exact rdAt 17 rfl | exact rdOwnAt 17 rfl | exact rdAt 18 rfl | exact rdOwnAt 18 rfl | exact rdAt 19 rfl | exact rdOwnAt 19 rfl | exact rdAt 20 rfl | exact rdOwnAt 20 rfl | exact rdAt 21 rfl | exact rdOwnAt 21 rfl | exact rdAt 22 rfl | exact rdOwnAt 22 rfl | exact rdAt 23 rfl | exact rdOwnAt 23 rfl) k rfl (by first | omega | (simp; done) | (simp; omega) | (unfold maxLen; omega) | (unfold maxLen; simp; done) | (unfold maxLen; simp; omega)) (fun ad => ?_)
      refine CaseB.mk (fun g => ?_) (fun g => ?_)
      · have q : xs[k] < lo := by simpa using g
        exact retw [] ⟨_, rfl, tno fun e => by have := (e.2 _ (List.getElem_mem hlt)).1; omega, rfl⟩ trivial rfl trivial (fun _ => rfl)
      have q1 : ¬ xs[k] < lo := by simpa using g
      refine stop_idx encInt tabOk rfl rfl rfl rfl rfl ⟨rfl, rfl⟩ (by first | exact rdAt 0 rfl | exact rdOwnAt 0 rfl | exact rdAt 1 rfl | exact rdOwnAt 1 rfl | exact rdAt 2 rfl | exact rdOwnAt 2 rfl | exact rdAt 3 rfl | exact rdOwnAt 3 rfl | exact rdAt 4 rfl | exact rdOwnAt 4 rfl | exact rdAt 5 rfl | exact rdOwnAt 5 rfl | exact rdAt 6 rfl | exact rdOwnAt 6 rfl | exact rdAt 7 rfl | exact rdOwnAt 7 rfl | exact rdAt 8 rfl | exact rdOwnAt 8 rfl | exact rdAt 9 rfl | exact rdOwnAt 9 rfl | exact rdAt 10 rfl | exact rdOwnAt 10 rfl | exact rdAt 11 rfl | exact rdOwnAt 11 rfl | exact rdAt 12 rfl | exact rdOwnAt 12 rfl | exact rdAt 13 rfl | exact rdOwnAt 13 rfl | exact rdAt 14 rfl | exact rdOwnAt 14 rfl | exact rdAt 15 rfl | exact rdOwnAt 15 rfl | exact rdAt 16 rfl | exact rdOwnAt 16 rfl | exact rdAt 17 rfl | exact rdOwnAt 17 rfl | exact rdAt 18 rfl | exact rdOwnAt 18 rfl | exact rdAt 19 rfl | exact rdOwnAt 19 rfl | exact rdAt 20 rfl | exact rdOwnAt 20 rfl | exact rdAt 21 rfl | exact rdOwnAt 21 rfl | exact rdAt 22 rfl | exact rdOwnAt 22 rfl | exact rdAt 23 rfl | exact rdOwnAt 23 rfl) k rfl (by first | omega | (simp; done) | (simp; omega) | (unfold maxLen; omega) | (unfold maxLen; simp; done) | (unfold maxLen; simp; omega)) (fun ad2 => ?_)
      refine CaseB.mk (fun g => ?_) (fun g => ?_)
      · have q : hi < xs[k] := by simpa using g
        exact retw [] ⟨_, rfl, tno fun e => by have := (e.2 _ (List.getElem_mem hlt)).2; omega, rfl⟩ trivial rfl trivial (fun _ => rfl)
      have q2 : ¬ hi < xs[k] := by simpa using g
      have hw := e_succ k _ hlt (by omega)
      refine ⟨⟨k + 1, by omega, by omega, fun x hx => ?_⟩, ?_, by simp; omega⟩
      · rw [List.take_succ_eq_append_getElem hlt] at hx
        rcases List.mem_append.1 hx with hx | hx
        · exact hinv x hx
        · simp at hx; subst hx; omega
      · refine weak_mk [0] ?_ ?_ ?_ ?_ ?_ rfl rfl
        · repeat (first | exact trivial | refine ⟨⟨_, rfl, (by first | exact .of rfl | exact .lit rfl | exact .of (by first | ((exact congrArg (fun z => SV.v (Value.int .i64 z)) hw))) | exact .lit (by first | ((exact congrArg (fun z => SV.v (Value.int .i64 z)) hw)))), (by first | exact trivial | exact Nat.le_of_ble_eq_true rfl)⟩, ?_⟩)
        · repeat (first | exact trivial | refine ⟨⟨(by first | exact .head _ | exact .tail _ (.head _) | exact .tail _ (.tail _ (.head _)) | exact .tail _ (.tail _ (.tail _ (.head _))) | exact .tail _ (.tail _ (.tail _ (.tail _ (.head _)))) | exact .tail _ (.tail _ (.tail _ (.tail _ (.tail _ (.head _))))) | exact .tail _ (.tail _ (.tail _ (.tail _ (.tail _ (.tail _ (.head _)))))) | exact .tail _ (.tail _ (.tail _ (.tail _ (.tail _ (.tail _ (.tail _ (.head _))))))) | exact .tail _ (.tail _ (.tail _ (.tail _ (.tail _ (.tail _ (.tail _ (.tail _ (.head _)))))))) | exact .tail _ (.tail _ (.tail _ (.tail _ (.tail _ (.tail _ (.tail _ (.tail _ (.tail _ (.head _)))))))))), Nat.le_of_ble_eq_true rfl⟩, ?_⟩)
        · repeat (first | exact trivial | refine ⟨⟨_, rfl, (by first | exact .of rfl | exact .lit rfl | exact .of (by first | ((exact congrArg (fun z => SV.v (Value.int .i64 z)) hw))) | exact .lit (by first | ((exact congrArg (fun z => SV.v (Value.int .i64 z)) hw)))), (by first | exact trivial | exact Nat.le_of_ble_eq_true rfl)⟩, ?_⟩)
        · repeat (first | exact trivial | refine ⟨⟨_, rfl⟩, ?_⟩)
        · repeat (first | exact trivial | refine ⟨.inl ⟨_, rfl, (by first | rfl | ((exact congrArg (fun z => SV.v (Value.int .i64 z)) hw)))⟩, ?_⟩ | refine ⟨.inr ⟨Nat.le_of_ble_eq_true rfl, rfl, rfl, rfl, rfl⟩, ?_⟩)
    · have h3 : ¬ k ≤ 3 := by simp at g; omega
      have : ¬ xs.length ≤ 3 := by omega
      exact retw [] ⟨_, rfl, by simp [within]; omega, rfl⟩ trivial rfl trivial (fun _ => rfl)
  · have hge : xs.length ≤ k := by simpa using g
    rw [List.take_of_length_le hge] at hinv
    refine retw [] ⟨_, rfl, ?_, rfl⟩ trivial rfl trivial (fun _ => rfl)
    simp only [within, decide_eq_true_eq]
    exact ⟨fun e => ⟨by omega, hinv⟩, fun e => by have := e.1; omega⟩

set_option maxRecDepth 100000 in
theorem l6Shared_c (p : ProgH) (k : Int) (w : World) : Calls Try.prog 146 #[progV p, .int .i64 k] w (Ret w fun v L => v = .int .i64 (p.pure.shared k) ∧ L = []) := by
  have t : p.pure.sems = p.sems ∧ p.pure.groups = p.groups ∧ p.pure.barriers = p.barriers ∧ p.pure.rooms = p.rooms := ⟨rfl, rfl, rfl, rfl⟩
  refine calls2 Try.func146 rfl tabOk w _ rfl _ rfl [] trivial trivial _ _ (by decide) ?_
  refine CaseB.mk (fun k1 => ?_) (fun k1 => ?_)
  · have q1 : k = 1 := by simpa using k1
    exact retw [] ⟨by simp [Prog.shared, q1], rfl⟩ trivial rfl trivial (fun _ => rfl)
  have q1 : ¬ k = 1 := by simpa using k1
  refine CaseB.mk (fun k2 => ?_) (fun k2 => ?_)
  · have q2 : k = 2 := by simpa using k2
    refine CaseB.mk (fun _ => ?_) (fun g => by rw [k2] at g; cases g)
    exact retw [] ⟨by simp [Prog.shared, t, q2], rfl⟩ trivial rfl trivial (fun _ => rfl)
  have q2 : ¬ k = 2 := by simpa using k2
  refine CaseB.mk (fun k3 => ?_) (fun k3 => ?_)
  · have q3 : k = 3 := by simpa using k3
    exact retw [] ⟨by simp [Prog.shared, t, q3], rfl⟩ trivial rfl trivial (fun _ => rfl)
  have q3 : ¬ k = 3 := by simpa using k3
  refine CaseB.mk (fun k4 => ?_) (fun k4 => ?_)
  · have q4 : k = 4 := by simpa using k4
    exact retw [] ⟨by simp [Prog.shared, q4], rfl⟩ trivial rfl trivial (fun _ => rfl)
  have q4 : ¬ k = 4 := by simpa using k4
  refine CaseB.mk (fun k5 => ?_) (fun k5 => ?_)
  · have q5 : k = 5 := by simpa using k5
    refine CaseB.mk (fun _ => ?_) (fun g => by rw [k5] at g; cases g)
    exact retw [] ⟨by simp [Prog.shared, t, q5], rfl⟩ trivial rfl trivial (fun _ => rfl)
  have q5 : ¬ k = 5 := by simpa using k5
  refine CaseB.mk (fun k6 => ?_) (fun k6 => ?_)
  · have q6 : k = 6 := by simpa using k6
    exact retw [] ⟨by simp [Prog.shared, t, q6], rfl⟩ trivial rfl trivial (fun _ => rfl)
  have q6 : ¬ k = 6 := by simpa using k6
  refine CaseB.mk (fun k7 => ?_) (fun k7 => ?_)
  · have q7 : k = 7 := by simpa using k7
    exact retw [] ⟨by simp [Prog.shared, t, q7], rfl⟩ trivial rfl trivial (fun _ => rfl)
  have q7 : ¬ k = 7 := by simpa using k7
  exact retw [] ⟨by simp [Prog.shared, t, q1, q2, q3, q4, q5, q6, q7], rfl⟩ trivial rfl trivial (fun _ => rfl)

set_option maxRecDepth 100000 in
theorem l6Arg_c (p : ProgH) (o : Op) (w : World) (h : At w [fR (progO p)]) (h0 : 0 ≤ o.on) (h1 : o.on < p.pure.shared o.kind) :
    Calls Try.prog 147 #[progV p, .agg (cOp o).toArray] w (Tells w (p.pure.argOk o)) := by
  refine calls2 Try.func147 rfl tabOk w _ rfl _ rfl _ h ⟨rfl, rfl, trivial⟩ _ _ (by decide) ?_
  refine CaseB.mk (fun k2 => ?_) (fun k2 => ?_)
  · refine CaseB.mk (fun _ => ?_) (fun g => by rw [k2] at g; cases g)
    have q : o.kind = 2 := by simpa using k2
    have hs : o.on < (p.sems.length : Int) := by simpa [Prog.shared, q, ProgH.pure] using h1
    have hlt : o.on.toNat < p.sems.length := by omega
    have e : p.pure.sems.getD o.on.toNat 0 = p.sems[o.on.toNat] := by simp [ProgH.pure, List.getD, hlt]
    have hx : p.pure.argOk o ↔ 1 ≤ o.arg ∧ o.arg ≤ p.sems[o.on.toNat] := by rw [← e]; simp [Prog.argOk, q]
    refine draw_start tabOk (by kernel_rfl) (by kernel_rfl) (by kernel_rfl) 200 [((0, 0), .v (p.h0.val p.sems.length)), ((1, 0), .v (.int .i64 o.kind)), ((1, 1), .v (.int .i64 o.on)), ((1, 2), .v (.int .i64 o.arg))] [0] [_] ⟨⟨_, rfl, rfl, (by first | exact trivial | exact Nat.le_of_ble_eq_true rfl)⟩, ⟨_, rfl, rfl, (by first | exact trivial | exact Nat.le_of_ble_eq_true rfl)⟩, ⟨_, rfl, rfl, (by first | exact trivial | exact Nat.le_of_ble_eq_true rfl)⟩, ⟨_, rfl, rfl, (by first | exact trivial | exact Nat.le_of_ble_eq_true rfl)⟩, trivial⟩ ⟨⟨_, rfl⟩, ⟨_, rfl⟩, ⟨_, rfl⟩, ⟨_, rfl⟩, trivial⟩ ⟨rfl, trivial⟩ rfl ?_
    refine CaseB.mk (fun g => ?_) (fun g => ?_)
    · have c : 1 ≤ o.arg := by simp at g; omega
      refine d_idx (ti := tiOf tab) encInt tabOk rfl rfl rfl rfl rfl ⟨rfl, rfl⟩ (rdVia 0 rfl (.ofR (progO_sems p))) o.on.toNat (by omega) (by first | omega | (simp; done) | (simp; omega) | (unfold maxLen; omega) | (unfold maxLen; simp; done) | (unfold maxLen; simp; omega)) (fun ad => ?_)
      exact retw [] ⟨_, rfl, by rw [hx]; simp [c], rfl⟩ trivial rfl trivial (fun _ => rfl)
    · have c : ¬ 1 ≤ o.arg := by simp at g; omega
      exact retw [] ⟨_, rfl, tno fun e => c (hx.1 e).1, rfl⟩ trivial rfl trivial (fun _ => rfl)
  refine CaseB.mk (fun k3 => ?_) (fun k3 => ?_)
  · skip
    have q : o.kind = 3 := by simpa using k3
    have hs : o.on < (p.sems.length : Int) := by simpa [Prog.shared, q, ProgH.pure] using h1
    have hlt : o.on.toNat < p.sems.length := by omega
    have e : p.pure.sems.getD o.on.toNat 0 = p.sems[o.on.toNat] := by simp [ProgH.pure, List.getD, hlt]
    have hx : p.pure.argOk o ↔ 1 ≤ o.arg ∧ o.arg ≤ p.sems[o.on.toNat] := by rw [← e]; simp [Prog.argOk, q]
    refine draw_start tabOk (by kernel_rfl) (by kernel_rfl) (by kernel_rfl) 200 [((0, 0), .v (p.h0.val p.sems.length)), ((1, 0), .v (.int .i64 o.kind)), ((1, 1), .v (.int .i64 o.on)), ((1, 2), .v (.int .i64 o.arg))] [0] [_] ⟨⟨_, rfl, rfl, (by first | exact trivial | exact Nat.le_of_ble_eq_true rfl)⟩, ⟨_, rfl, rfl, (by first | exact trivial | exact Nat.le_of_ble_eq_true rfl)⟩, ⟨_, rfl, rfl, (by first | exact trivial | exact Nat.le_of_ble_eq_true rfl)⟩, ⟨_, rfl, rfl, (by first | exact trivial | exact Nat.le_of_ble_eq_true rfl)⟩, trivial⟩ ⟨⟨_, rfl⟩, ⟨_, rfl⟩, ⟨_, rfl⟩, ⟨_, rfl⟩, trivial⟩ ⟨rfl, trivial⟩ rfl ?_
    refine CaseB.mk (fun g => ?_) (fun g => ?_)
    · have c : 1 ≤ o.arg := by simp at g; omega
      refine d_idx (ti := tiOf tab) encInt tabOk rfl rfl rfl rfl rfl ⟨rfl, rfl⟩ (rdVia 0 rfl (.ofR (progO_sems p))) o.on.toNat (by omega) (by first | omega | (simp; done) | (simp; omega) | (unfold maxLen; omega) | (unfold maxLen; simp; done) | (unfold maxLen; simp; omega)) (fun ad => ?_)
      exact retw [] ⟨_, rfl, by rw [hx]; simp [c], rfl⟩ trivial rfl trivial (fun _ => rfl)
    · have c : ¬ 1 ≤ o.arg := by simp at g; omega
      exact retw [] ⟨_, rfl, tno fun e => c (hx.1 e).1, rfl⟩ trivial rfl trivial (fun _ => rfl)
  have n2 : ¬ o.kind = 2 := by simpa using k2
  have n3 : ¬ o.kind = 3 := by simpa using k3
  refine CaseB.mk (fun k5 => ?_) (fun k5 => ?_)
  · have q : o.kind = 5 := by simpa using k5
    have hx : p.pure.argOk o ↔ -9 ≤ o.arg ∧ o.arg ≤ 9 := by simp [Prog.argOk, q]
    refine CaseB.mk (fun g => ?_) (fun g => ?_)
    · have c : -9 ≤ o.arg := by simp at g; omega
      exact retw [] ⟨_, rfl, by rw [hx]; simp [c], rfl⟩ trivial rfl trivial (fun _ => rfl)
    · have c : ¬ -9 ≤ o.arg := by simp at g; omega
      exact retw [] ⟨_, rfl, tno fun e => c (hx.1 e).1, rfl⟩ trivial rfl trivial (fun _ => rfl)
  have n5 : ¬ o.kind = 5 := by simpa using k5
  refine CaseB.mk (fun k1 => ?_) (fun k1 => ?_)
  · have q : o.kind = 1 := by simpa using k1
    have hx : p.pure.argOk o ↔ isValue o.arg = true := by simp [Prog.argOk, q]
    refine CaseB.mk (fun _ => ?_) (fun g => by rw [k1] at g; cases g)
    refine stop_call _ cl160 rfl rfl rfl rfl ⟨rfl, rfl⟩ (fun A w hW => l2Value_c _ w) ?_
    rintro v L ⟨rfl, rfl⟩
    exact retw [] ⟨_, rfl, by rw [hx], rfl⟩ trivial rfl trivial (fun _ => rfl)
  have n1 : ¬ o.kind = 1 := by simpa using k1
  refine CaseB.mk (fun k4 => ?_) (fun k4 => ?_)
  · have q : o.kind = 4 := by simpa using k4
    have hx : p.pure.argOk o ↔ isValue o.arg = true := by simp [Prog.argOk, q]
    refine CaseB.mk (fun _ => ?_) (fun g => by rw [k4] at g; cases g)
    refine stop_call _ cl160 rfl rfl rfl rfl ⟨rfl, rfl⟩ (fun A w hW => l2Value_c _ w) ?_
    rintro v L ⟨rfl, rfl⟩
    exact retw [] ⟨_, rfl, by rw [hx], rfl⟩ trivial rfl trivial (fun _ => rfl)
  have n4 : ¬ o.kind = 4 := by simpa using k4
  refine CaseB.mk (fun k8 => ?_) (fun k8 => ?_)
  · have q : o.kind = 8 := by simpa using k8
    have hx : p.pure.argOk o ↔ isValue o.arg = true := by simp [Prog.argOk, q]
    refine stop_call _ cl160 rfl rfl rfl rfl ⟨rfl, rfl⟩ (fun A w hW => l2Value_c _ w) ?_
    rintro v L ⟨rfl, rfl⟩
    exact retw [] ⟨_, rfl, by rw [hx], rfl⟩ trivial rfl trivial (fun _ => rfl)
  have n8 : ¬ o.kind = 8 := by simpa using k8
  have hx : p.pure.argOk o ↔ o.arg = 0 := by simp [Prog.argOk, n1, n2, n3, n4, n5, n8]
  exact retw [] ⟨_, rfl, by rw [hx]; simp, rfl⟩ trivial rfl trivial (fun _ => rfl)

set_option maxHeartbeats 4000000 in
set_option maxRecDepth 100000 in
theorem opValidS_c (p : ProgH) (o : Op) (w : World) (h : At w [fR (progO p)]) :
    Calls Try.prog 114 #[progV p, .agg (cOp o).toArray] w (Tells w (OpOk p.pure o)) := by
  refine calls2 Try.func114 rfl tabOk w _ rfl _ rfl _ h ⟨rfl, rfl, trivial⟩ _ _ (by decide) ?_
  refine draw_start tabOk (by kernel_rfl) (by kernel_rfl) (by kernel_rfl) 200 [((0, 0), .v (p.h0.val p.sems.length)), ((0, 1), .v (p.h1.val p.groups.length)), ((0, 2), .v (p.h2.val p.barriers.length)), ((0, 3), .v (p.h3.val p.rooms.length)), ((0, 4), .v (p.h4.val p.threads.length)), ((1, 0), .v (.int .i64 o.kind)), ((1, 1), .v (.int .i64 o.on)), ((1, 2), .v (.int .i64 o.arg))] [0] [_] ⟨⟨_, rfl, rfl, (by first | exact trivial | exact Nat.le_of_ble_eq_true rfl)⟩, ⟨_, rfl, rfl, (by first | exact trivial | exact Nat.le_of_ble_eq_true rfl)⟩, ⟨_, rfl, rfl, (by first | exact trivial | exact Nat.le_of_ble_eq_true rfl)⟩, ⟨_, rfl, rfl, (by first | exact trivial | exact Nat.le_of_ble_eq_true rfl)⟩, ⟨_, rfl, rfl, (by first | exact trivial | exact Nat.le_of_ble_eq_true rfl)⟩, ⟨_, rfl, rfl, (by first | exact trivial | exact Nat.le_of_ble_eq_true rfl)⟩, ⟨_, rfl, rfl, (by first | exact trivial | exact Nat.le_of_ble_eq_true rfl)⟩, ⟨_, rfl, rfl, (by first | exact trivial | exact Nat.le_of_ble_eq_true rfl)⟩, trivial⟩ ⟨⟨_, rfl⟩, ⟨_, rfl⟩, ⟨_, rfl⟩, ⟨_, rfl⟩, ⟨_, rfl⟩, ⟨_, rfl⟩, ⟨_, rfl⟩, ⟨_, rfl⟩, trivial⟩ ⟨rfl, trivial⟩ rfl ?_
  refine d_call _ cl145 rfl rfl rfl rfl ⟨rfl, rfl⟩ (fun A w hW => l6Word_c _ w) ?_
  rintro v L ⟨rfl, rfl⟩
  refine d_bin rfl rfl rfl ⟨rfl, rfl⟩ (.bool ((wordOf o.kind).toList == (⟨#[]⟩ : ByteArray).toList)) (fun w => (eqGuard_str w)) (fun w => (eql_str w)) ?_
  refine CaseB.mk (fun g => ?_) (fun g => ?_)
  · have q := (wordOf_empty o.kind).1 g
    exact retw [] ⟨_, rfl, tno fun e => q ⟨e.1, e.2.1⟩, rfl⟩ trivial rfl trivial (fun _ => rfl)
  have q : 1 ≤ o.kind ∧ o.kind ≤ 10 := by
    refine Classical.byContradiction fun n => ?_
    rw [(wordOf_empty o.kind).2 n] at g
    cases g
  refine CaseB.mk (fun g => ?_) (fun g => ?_)
  · have c : ¬ 0 ≤ o.on := by simp at g; omega
    exact retw [] ⟨_, rfl, tno fun e => c e.2.2.1, rfl⟩ trivial rfl trivial (fun _ => rfl)
  have c0 : 0 ≤ o.on := by simp at g; omega
  refine d_call _ cl146 rfl rfl rfl rfl ⟨rfl, rfl⟩ (fun A w hW => l6Shared_c p _ w) ?_
  rintro v L ⟨rfl, rfl⟩
  refine CaseB.mk (fun g => ?_) (fun g => ?_)
  · have c : ¬ o.on < p.pure.shared o.kind := by simp at g; omega
    exact retw [] ⟨_, rfl, tno fun e => c e.2.2.2.1, rfl⟩ trivial rfl trivial (fun _ => rfl)
  have c1 : o.on < p.pure.shared o.kind := by simp at g; omega
  refine stop_call _ cl147 rfl rfl rfl rfl ⟨rfl, rfl⟩ (fun A w hW => l6Arg_c p o w ⟨hW.get 0 rfl (.refl _), trivial⟩ c0 c1) ?_
  rintro v L ⟨b, rfl, hb, rfl⟩
  exact retw [] ⟨_, rfl, by rw [hb]; simp [OpOk, q, c0, c1], rfl⟩ trivial rfl trivial (fun _ => rfl)

set_option maxHeartbeats 16000000 in
set_option maxRecDepth 100000 in
theorem progValidS_c (p : ProgH) (w : World) (h : At w [fR (progO p)]) (hs : p.sems.length ≤ 1048576 ∧ p.groups.length ≤ 1048576 ∧ p.barriers.length ≤ 1048576 ∧ p.rooms.length ≤ 1048576) :
    Calls Try.prog 57 #[progV p] w (Tells w (ProgOk p.pure)) := by
  refine calls1 Try.func57 rfl tabOk w _ rfl _ rfl _ h ⟨rfl, rfl, trivial⟩ _ (by decide) ?_
  refine stop_call _ cl113 rfl rfl rfl rfl ⟨rfl, rfl⟩ (fun A w hW => l6Numbers_c p.h0 p.sems 1 9 w ⟨hW.get 0 rfl (.ofR (progO_sems p)), trivial⟩ (by omega)) ?_
  rintro v L ⟨b0, rfl, hb0, rfl⟩
  refine CaseB.mk (fun g => ?_) (fun g => ?_)
  · exact retw [] ⟨_, rfl, tno fun e => (by have := hb0.2 e.sems; rw [this] at g; cases g), rfl⟩ trivial rfl trivial (fun _ => rfl)
  have w0 := hb0.1 (by simpa using g)
  refine stop_call _ cl113 rfl rfl rfl rfl ⟨rfl, rfl⟩ (fun A w hW => l6Numbers_c p.h1 p.groups 0 9 w ⟨hW.get 0 rfl (.ofR (progO_groups p)), trivial⟩ (by omega)) ?_
  rintro v L ⟨b1, rfl, hb1, rfl⟩
  refine CaseB.mk (fun g => ?_) (fun g => ?_)
  · exact retw [] ⟨_, rfl, tno fun e => (by have := hb1.2 e.groups; rw [this] at g; cases g), rfl⟩ trivial rfl trivial (fun _ => rfl)
  have w1 := hb1.1 (by simpa using g)
  refine stop_call _ cl113 rfl rfl rfl rfl ⟨rfl, rfl⟩ (fun A w hW => l6Numbers_c p.h2 p.barriers 1 6 w ⟨hW.get 0 rfl (.ofR (progO_barriers p)), trivial⟩ (by omega)) ?_
  rintro v L ⟨b2, rfl, hb2, rfl⟩
  refine CaseB.mk (fun g => ?_) (fun g => ?_)
  · exact retw [] ⟨_, rfl, tno fun e => (by have := hb2.2 e.barriers; rw [this] at g; cases g), rfl⟩ trivial rfl trivial (fun _ => rfl)
  have w2 := hb2.1 (by simpa using g)
  refine stop_call _ cl113 rfl rfl rfl rfl ⟨rfl, rfl⟩ (fun A w hW => l6Numbers_c p.h3 p.rooms 0 4 w ⟨hW.get 0 rfl (.ofR (progO_rooms p)), trivial⟩ (by omega)) ?_
  rintro v L ⟨b3, rfl, hb3, rfl⟩
  refine CaseB.mk (fun g => ?_) (fun g => ?_)
  · exact retw [] ⟨_, rfl, tno fun e => (by have := hb3.2 e.rooms; rw [this] at g; cases g), rfl⟩ trivial rfl trivial (fun _ => rfl)
  have w3 := hb3.1 (by simpa using g)
  have hlen : p.pure.threads.length = p.threads.length := by simp [ProgH.pure]
  refine CaseB.mk (fun g => ?_) (fun g => ?_)
  · have q : ¬ 1 ≤ p.threads.length := by have g' := of_decide_eq_true g; omega
    exact retw [] ⟨_, rfl, tno fun e => q (hlen ▸ e.n1), rfl⟩ trivial rfl trivial (fun _ => rfl)
  have n1 : 1 ≤ p.threads.length := by have g' := of_decide_eq_false g; omega
  refine CaseB.mk (fun g => ?_) (fun g => ?_)
  · have q : ¬ p.threads.length ≤ 4 := by simp at g; omega
    exact retw [] ⟨_, rfl, tno fun e => q (hlen ▸ e.n4), rfl⟩ trivial rfl trivial (fun _ => rfl)
  have n4 : p.threads.length ≤ 4 := by simp at g; omega
  have hmem : ∀ (k : Nat) (hk : k < p.threads.length), (p.threads[k]).m ∈ p.pure.threads := fun k hk => List.mem_map_of_mem (List.getElem_mem hk)
  refine LoopW.mk ⟨{ k : Nat // k ≤ p.threads.length ∧ ∀ t ∈ p.pure.threads.take k, t.length ≤ 8 ∧ ∀ o ∈ t, OpOk p.pure o },
    fun k => .mk [(1, .p 0 0), (3, .v (.int .i64 (k.1 : Int)))] 1 0 [(0, 44, 5)] [((0, 0), .v (p.h0.val p.sems.length)), ((0, 1), .v (p.h1.val p.groups.length)), ((0, 2), .v (p.h2.val p.barriers.length)), ((0, 3), .v (p.h3.val p.rooms.length)), ((0, 4), .v (p.h4.val p.threads.length))] [fR (progO p)],
    fun k => p.threads.length - k.1, ⟨0, Nat.zero_le _, by simp⟩, ?_, ?_⟩
  · refine weak_mk [0] ?_ ?_ ?_ ?_ ?_ rfl rfl
    · repeat (first | exact trivial | refine ⟨⟨_, rfl, (by first | exact .of rfl | exact .lit rfl | exact .of (by first | (rfl)) | exact .lit (by first | (rfl))), (by first | exact trivial | exact Nat.le_of_ble_eq_true rfl)⟩, ?_⟩)
    · repeat (first | exact trivial | refine ⟨⟨(by first | exact .head _ | exact .tail _ (.head _) | exact .tail _ (.tail _ (.head _)) | exact .tail _ (.tail _ (.tail _ (.head _))) | exact .tail _ (.tail _ (.tail _ (.tail _ (.head _)))) | exact .tail _ (.tail _ (.tail _ (.tail _ (.tail _ (.head _))))) | exact .tail _ (.tail _ (.tail _ (.tail _ (.tail _ (.tail _ (.head _)))))) | exact .tail _ (.tail _ (.tail _ (.tail _ (.tail _ (.tail _ (.tail _ (.head _))))))) | exact .tail _ (.tail _ (.tail _ (.tail _ (.tail _ (.tail _ (.tail _ (.tail _ (.head _)))))))) | exact .tail _ (.tail _ (.tail _ (.tail _ (.tail _ (.tail _ (.tail _ (.tail _ (.tail _ (.head _)))))))))), Nat.le_of_ble_eq_true rfl⟩, ?_⟩)
    · repeat (first | exact trivial | refine ⟨⟨_, rfl, (by first | exact .of rfl | exact .lit rfl | exact .of (by first | (rfl)) | exact .lit (by first | (rfl))), (by first | exact trivial | exact Nat.le_of_ble_eq_true rfl)⟩, ?_⟩)
    · repeat (first | exact trivial | refine ⟨⟨_, rfl⟩, ?_⟩)
    · repeat (first | exact trivial | refine ⟨.inl ⟨_, rfl, (by first | rfl | (rfl))⟩, ?_⟩ | refine ⟨.inr ⟨Nat.le_of_ble_eq_true rfl, rfl, rfl, rfl, rfl⟩, ?_⟩)
  rintro ⟨k, hk, hinv⟩
  refine CaseB.mk (fun g => ?_) (fun g => ?_)
  · have hlt : k < p.threads.length := by simpa using g
    have hget : p.pure.threads[k]'(by rw [hlen]; exact hlt) = (p.threads[k]).m := by simp [ProgH.pure]
    refine LoopW.mk ⟨{ j : Nat // j ≤ (p.threads[k]).m.length ∧ j ≤ 9 ∧ ∀ o ∈ (p.threads[k]).m.take j, OpOk p.pure o },
      fun j => .mk [(1, .p 0 0), (3, .v (.int .i64 (k : Int))), (4, .v (.int .i64 (j.1 : Int)))] 1 0 [(0, 44, 5)] [((0, 0), .v (p.h0.val p.sems.length)), ((0, 1), .v (p.h1.val p.groups.length)), ((0, 2), .v (p.h2.val p.barriers.length)), ((0, 3), .v (p.h3.val p.rooms.length)), ((0, 4), .v (p.h4.val p.threads.length))] [fR (progO p)],
      fun j => (p.threads[k]).m.length - j.1, ⟨0, Nat.zero_le _, by omega, by simp⟩, ?_, ?_⟩
    · refine weak_mk [0] ?_ ?_ ?_ ?_ ?_ rfl rfl
      · repeat (first | exact trivial | refine ⟨⟨_, rfl, (by first | exact .of rfl | exact .lit rfl | exact .of (by first | (rfl)) | exact .lit (by first | (rfl))), (by first | exact trivial | exact Nat.le_of_ble_eq_true rfl)⟩, ?_⟩)
      · repeat (first | exact trivial | refine ⟨⟨(by first | exact .head _ | exact .tail _ (.head _) | exact .tail _ (.tail _ (.head _)) | exact .tail _ (.tail _ (.tail _ (.head _))) | exact .tail _ (.tail _ (.tail _ (.tail _ (.head _)))) | exact .tail _ (.tail _ (.tail _ (.tail _ (.tail _ (.head _))))) | exact .tail _ (.tail _ (.tail _ (.tail _ (.tail _ (.tail _ (.head _)))))) | exact .tail _ (.tail _ (.tail _ (.tail _ (.tail _ (.tail _ (.tail _ (.head _))))))) | exact .tail _ (.tail _ (.tail _ (.tail _ (.tail _ (.tail _ (.tail _ (.tail _ (.head _)))))))) | exact .tail _ (.tail _ (.tail _ (.tail _ (.tail _ (.tail _ (.tail _ (.tail _ (.tail _ (.head _)))))))))), Nat.le_of_ble_eq_true rfl⟩, ?_⟩)
      · repeat (first | exact trivial | refine ⟨⟨_, rfl, (by first | exact .of rfl | exact .lit rfl | exact .of (by first | (rfl)) | exact .lit (by first | (rfl))), (by first | exact trivial | exact Nat.le_of_ble_eq_true rfl)⟩, ?_⟩)
      · repeat (first | exact trivial | refine ⟨⟨_, rfl⟩, ?_⟩)
      · repeat (first | exact trivial | refine ⟨.inl ⟨_, rfl, (by first | rfl | (rfl))⟩, ?_⟩ | refine ⟨.inr ⟨Nat.le_of_ble_eq_true rfl, rfl, rfl, rfl, rfl⟩, ?_⟩)
    rintro ⟨j, hj, h9, hinv2⟩
    refine stop_idx encOpSH tabOk rfl rfl rfl rfl rfl ⟨rfl, rfl⟩ (rdVia 0 rfl (.trans (.R_R (progO_threads p)) (.ofR nest_h))) k rfl (by first | omega | (simp; done) | (simp; omega) | (unfold maxLen; omega) | (unfold maxLen; simp; done) | (unfold maxLen; simp; omega)) (fun ad => ?_)
    have hend : ((p.threads[k]).m.length ≤ 8 → (p.threads[k]).m.length ≤ j) → (p.threads[k]).m.length ≤ 8 → ∀ t ∈ p.pure.threads.take (k + 1), t.length ≤ 8 ∧ ∀ o ∈ t, OpOk p.pure o := fun hge2 n8 t ht => by
      rw [List.take_succ_eq_append_getElem (by rw [hlen]; exact hlt)] at ht
      rcases List.mem_append.1 ht with ht | ht
      · exact hinv t ht
      · simp only [List.mem_singleton] at ht
        rw [hget] at ht
        subst ht
        exact ⟨n8, by rw [List.take_of_length_le (hge2 n8)] at hinv2; exact hinv2⟩
    have hw := e_succ k _ hlt (by omega)
    refine CaseB.mk (fun g => ?_) (fun g => ?_)
    · have hlj : j < (p.threads[k]).m.length := by simpa using g
      refine CaseB.mk (fun g => ?_) (fun g => ?_)
      · have h8 : j ≤ 8 := by simp at g; omega
        refine draw_start tabOk (by kernel_rfl) (by kernel_rfl) (by kernel_rfl) 200 [((0, 0), .v (p.h0.val p.sems.length)), ((0, 1), .v (p.h1.val p.groups.length)), ((0, 2), .v (p.h2.val p.barriers.length)), ((0, 3), .v (p.h3.val p.rooms.length)), ((0, 4), .v (p.h4.val p.threads.length))] [0] [_] ⟨⟨_, rfl, rfl, (by first | exact trivial | exact Nat.le_of_ble_eq_true rfl)⟩, ⟨_, rfl, rfl, (by first | exact trivial | exact Nat.le_of_ble_eq_true rfl)⟩, ⟨_, rfl, rfl, (by first | exact trivial | exact Nat.le_of_ble_eq_true rfl)⟩, ⟨_, rfl, rfl, (by first | exact trivial | exact Nat.le_of_ble_eq_true rfl)⟩, ⟨_, rfl, rfl, (by first | exact trivial | exact Nat.le_of_ble_eq_true rfl)⟩, trivial⟩ ⟨⟨_, rfl⟩, ⟨_, rfl⟩, ⟨_, rfl⟩, ⟨_, rfl⟩, ⟨_, rfl⟩, trivial⟩ ⟨rfl, trivial⟩ rfl ?_
        refine d_idx (ti := tiOf tab) encOpSH tabOk rfl rfl rfl rfl rfl ⟨rfl, rfl⟩ (rdVia 0 rfl (.trans (.R_R (progO_threads p)) (.ofR nest_h))) k rfl (by first | omega | (simp; done) | (simp; omega) | (unfold maxLen; omega) | (unfold maxLen; simp; done) | (unfold maxLen; simp; omega)) (fun ad3 => ?_)
        refine d_idx (ti := tiOf tab) encOp tabOk rfl rfl rfl rfl rfl ⟨rfl, rfl⟩ (rdVia 0 rfl (.trans (.R_R (progO_threads p)) (.ofR (threadsO_0 _ _ k hlt)))) j rfl (by first | omega | (simp; done) | (simp; omega) | (unfold maxLen; omega) | (unfold maxLen; simp; done) | (unfold maxLen; simp; omega)) (fun ad2 => ?_)
        refine d_call _ cl114 rfl rfl rfl rfl ⟨rfl, rfl⟩ (fun A w hW => opValidS_c p _ w ⟨hW.get 0 rfl (.refl _), trivial⟩) ?_
        rintro v L ⟨b, rfl, hb, rfl⟩
        refine CaseB.mk (fun g => ?_) (fun g => ?_)
        · exact retw [] ⟨_, rfl, tno fun e => (by have := hb.2 ((e.ops _ (hmem k hlt)).2 _ (List.getElem_mem hlj)); rw [this] at g; cases g), rfl⟩ trivial rfl trivial (fun _ => rfl)
        have hw := e_succ j 9 (by omega) (by omega)
        refine ⟨⟨j + 1, by omega, by omega, fun o ho => ?_⟩, ?_, by simp; omega⟩
        · rw [List.take_succ_eq_append_getElem hlj] at ho
          rcases List.mem_append.1 ho with ho | ho
          · exact hinv2 o ho
          · simp at ho; subst ho; exact hb.1 (by simpa using g)
        · refine weak_mk [0] ?_ ?_ ?_ ?_ ?_ rfl rfl
          · repeat (first | exact trivial | refine ⟨⟨_, rfl, (by first | exact .of rfl | exact .lit rfl | exact .of (by first | ((exact congrArg (fun z => SV.v (Value.int .i64 z)) hw))) | exact .lit (by first | ((exact congrArg (fun z => SV.v (Value.int .i64 z)) hw)))), (by first | exact trivial | exact Nat.le_of_ble_eq_true rfl)⟩, ?_⟩)
          · repeat (first | exact trivial | refine ⟨⟨(by first | exact .head _ | exact .tail _ (.head _) | exact .tail _ (.tail _ (.head _)) | exact .tail _ (.tail _ (.tail _ (.head _))) | exact .tail _ (.tail _ (.tail _ (.tail _ (.head _)))) | exact .tail _ (.tail _ (.tail _ (.tail _ (.tail _ (.head _))))) | exact .tail _ (.tail _ (.tail _ (.tail _ (.tail _ (.tail _ (.head _)))))) | exact .tail _ (.tail _ (.tail _ (.tail _ (.tail _ (.tail _ (.tail _ (.head _))))))) | exact .tail _ (.tail _ (.tail _ (.tail _ (.tail _ (.tail _ (.tail _ (.tail _ (.head _)))))))) | exact .tail _ (.tail _ (.tail _ (.tail _ (.tail _ (.tail _ (.tail _ (.tail _ (.tail _ (.head _)))))))))), Nat.le_of_ble_eq_true rfl⟩, ?_⟩)
          · repeat (first | exact trivial | refine ⟨⟨_, rfl, (by first | exact .of rfl | exact .lit rfl | exact .of (by first | ((exact congrArg (fun z => SV.v (Value.int .i64 z)) hw))) | exact .lit (by first | ((exact congrArg (fun z => SV.v (Value.int .i64 z)) hw)))), (by first | exact trivial | exact Nat.le_of_ble_eq_true rfl)⟩, ?_⟩)
          · repeat (first | exact trivial | refine ⟨⟨_, rfl⟩, ?_⟩)
          · repeat (first | exact trivial | refine ⟨.inl ⟨_, rfl, (by first | rfl | ((exact congrArg (fun z => SV.v (Value.int .i64 z)) hw)))⟩, ?_⟩ | refine ⟨.inr ⟨Nat.le_of_ble_eq_true rfl, rfl, rfl, rfl, rfl⟩, ?_⟩)
      · have h8 : ¬ j ≤ 8 := by simp at g; omega
        refine stop_idx encOpSH tabOk rfl rfl rfl rfl rfl ⟨rfl, rfl⟩ (rdVia 0 rfl (.trans (.R_R (progO_threads p)) (.ofR nest_h))) k rfl (by first | omega | (simp; done) | (simp; omega) | (unfold maxLen; omega) | (unfold maxLen; simp; done) | (unfold maxLen; simp; omega)) (fun ad4 => ?_)
        refine CaseB.mk (fun g => ?_) (fun g => by simp at g; omega)
        have q : ¬ (p.threads[k]).m.length ≤ 8 := by omega
        exact retw [] ⟨_, rfl, tno fun e => q (e.ops _ (hmem k hlt)).1, rfl⟩ trivial rfl trivial (fun _ => rfl)
    have hge2 : (p.threads[k]).m.length ≤ j := by simpa using g
    refine stop_idx encOpSH tabOk rfl rfl rfl rfl rfl ⟨rfl, rfl⟩ (rdVia 0 rfl (.trans (.R_R (progO_threads p)) (.ofR nest_h))) k rfl (by first | omega | (simp; done) | (simp; omega) | (unfold maxLen; omega) | (unfold maxLen; simp; done) | (unfold maxLen; simp; omega)) (fun ad4 => ?_)
    refine CaseB.mk (fun g => ?_) (fun g => ?_)
    · have q : ¬ (p.threads[k]).m.length ≤ 8 := by simp at g; omega
      exact retw [] ⟨_, rfl, tno fun e => q (e.ops _ (hmem k hlt)).1, rfl⟩ trivial rfl trivial (fun _ => rfl)
    have n8 : (p.threads[k]).m.length ≤ 8 := by simp at g; omega
    refine ⟨⟨k + 1, by omega, hend (fun _ => hge2) n8⟩, ?_, by simp; omega⟩
    refine weak_mk [0] ?_ ?_ ?_ ?_ ?_ rfl rfl
    · repeat (first | exact trivial | refine ⟨⟨_, rfl, (by first | exact .of rfl | exact .lit rfl | exact .of (by first | ((exact congrArg (fun z => SV.v (Value.int .i64 z)) hw))) | exact .lit (by first | ((exact congrArg (fun z => SV.v (Value.int .i64 z)) hw)))), (by first | exact trivial | exact Nat.le_of_ble_eq_true rfl)⟩, ?_⟩)
    · repeat (first | exact trivial | refine ⟨⟨(by first | exact .head _ | exact .tail _ (.head _) | exact .tail _ (.tail _ (.head _)) | exact .tail _ (.tail _ (.tail _ (.head _))) | exact .tail _ (.tail _ (.tail _ (.tail _ (.head _)))) | exact .tail _ (.tail _ (.tail _ (.tail _ (.tail _ (.head _))))) | exact .tail _ (.tail _ (.tail _ (.tail _ (.tail _ (.tail _ (.head _)))))) | exact .tail _ (.tail _ (.tail _ (.tail _ (.tail _ (.tail _ (.tail _ (.head _))))))) | exact .tail _ (.tail _ (.tail _ (.tail _ (.tail _ (.tail _ (.tail _ (.tail _ (.head _)))))))) | exact .tail _ (.tail _ (.tail _ (.tail _ (.tail _ (.tail _ (.tail _ (.tail _ (.tail _ (.head _)))))))))), Nat.le_of_ble_eq_true rfl⟩, ?_⟩)
    · repeat (first | exact trivial | refine ⟨⟨_, rfl, (by first | exact .of rfl | exact .lit rfl | exact .of (by first | ((exact congrArg (fun z => SV.v (Value.int .i64 z)) hw))) | exact .lit (by first | ((exact congrArg (fun z => SV.v (Value.int .i64 z)) hw)))), (by first | exact trivial | exact Nat.le_of_ble_eq_true rfl)⟩, ?_⟩)
    · repeat (first | exact trivial | refine ⟨⟨_, rfl⟩, ?_⟩)
    · repeat (first | exact trivial | refine ⟨.inl ⟨_, rfl, (by first | rfl | ((exact congrArg (fun z => SV.v (Value.int .i64 z)) hw)))⟩, ?_⟩ | refine ⟨.inr ⟨Nat.le_of_ble_eq_true rfl, rfl, rfl, rfl, rfl⟩, ?_⟩)
  have hge : p.threads.length ≤ k := by simpa using g
  refine retw [] ⟨_, rfl, tyes ⟨w0, w1, w2, w3, by rw [hlen]; exact n1, by rw [hlen]; exact n4, fun t ht => ?_⟩, rfl⟩ trivial rfl trivial (fun _ => rfl)
  rw [List.take_of_length_le (by rw [hlen]; exact hge)] at hinv
  exact hinv t ht

end Go.Proofs.Ytpopeaoklccgcaa
