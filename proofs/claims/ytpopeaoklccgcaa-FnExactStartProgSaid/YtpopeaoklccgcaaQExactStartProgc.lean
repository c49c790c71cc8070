/- FnExactStartProg: texts that its proof stands on, part 3. -/
import Derived.Laws.StructEq
import Derived.Laws.Strings
import Derived.Test.YtpopeaoklccgcaaQExactStartProgb
namespace Go.Proofs.Ytpopeaoklccgcaa

open Go Go.Sx Go.RowKit

theorem e_wrap {x : Int} (h0 : -9223372036854775808 ≤ x) (h : x < 9223372036854775808) : IntKind.i64.wrap x = x := by
  rw [IntKind.wrap_i64]; omega

theorem e_succ (k n : Nat) (h : k < n) (hn : n ≤ 4611686018427387904) : IntKind.i64.wrap ((k : Int) + 1) = ((k + 1 : Nat) : Int) := by
  rw [IntKind.wrap_i64]; omega

theorem e_take {α : Type} {xs ys : List α} {k : Nat} (h : xs.take k = ys.take k) (hx : k < xs.length) (hy : k < ys.length) : (xs[k] = ys[k] → xs.take (k + 1) = ys.take (k + 1)) ∧ (xs[k] ≠ ys[k] → xs ≠ ys) := by
  refine ⟨fun e => by rw [List.take_succ_eq_append_getElem hx, List.take_succ_eq_append_getElem hy, h, e], fun e he => ?_⟩
  subst he
  exact e rfl

/-- What is left when k more are counted; -1 if nothing. -/
def szN (k : Nat) (left : Int) : Int := if left - k < 0 then -1 else left - k

set_option maxRecDepth 100000 in
theorem szIntS_c (i : Sl) (xs : List Int) (left : Int) (w : World) (h : At w [slo i cInt 1 xs]) (h0 : -1 ≤ left) (h1 : left ≤ 1048576) :
    Calls Try.prog 24 #[i.val xs.length, .int .i64 left] w (Ret w fun v L => v = .int .i64 (szN xs.length left) ∧ L = []) := by
  obtain ⟨⟨⟨_, b1, b2, _⟩, _⟩, _⟩ := h
  unfold maxLen at b2
  have e : IntKind.i64.wrap (left - (xs.length : Int)) = left - xs.length := e_wrap (by omega) (by omega)
  refine calls2 Try.func24 rfl tabOk w _ rfl _ rfl [] trivial trivial _ _ (by decide) ?_
  refine CaseB.mk (fun h => ?_) (fun h => ?_)
  · rw [e] at h
    have h2 : left - (xs.length : Int) < 0 := by simpa using h
    exact retw [] ⟨by rw [szN, if_pos h2], rfl⟩ trivial rfl trivial (fun _ => rfl)
  · rw [e] at h
    have h2 : ¬ left - (xs.length : Int) < 0 := by simpa using h
    refine retw [] ⟨by rw [szN, if_neg h2], rfl⟩ trivial rfl trivial (fun _ => ?_)
    simp only [resV, SV.den, e]

set_option maxRecDepth 100000 in
theorem toIntS_c (i : Sl) (xs : List Int) (w : World) (h : At w [slo i cInt 1 xs]) (hb : xs.length ≤ 1048576) :
    Calls Try.prog 33 #[i.val xs.length] w (Ret w fun v L => ∃ y : Sl, v = y.val xs.length ∧ L = [own y 3 cInt 1 xs]) := by
  refine calls1 Try.func33 rfl tabOk w _ rfl _ rfl _ h ⟨rfl, rfl, trivial⟩ _ (by decide) ?_
  refine stop_make encInt 0 tabOk rfl rfl rfl rfl rfl (by decide) ⟨rfl, rfl⟩ xs.length rfl (by first | omega | (simp; done) | (simp; omega) | (unfold maxLen; omega) | (unfold maxLen; simp; done) | (unfold maxLen; simp; omega)) (by first | omega | (simp; done) | (simp; omega) | (unfold maxLen; omega) | (unfold maxLen; simp; done) | (unfold maxLen; simp; omega)) (fun y => ?_)
  refine LoopW.mk ⟨{ k : Nat // k ≤ xs.length },
    fun k => .mk [(0, .v (i.val xs.length)), (3, .v (y.val (xs.take k.1 ++ List.replicate (xs.length - k.1) 0).length)), (4, .v (.int .i64 (k.1 : Int)))] 0 0 [] [] [own y 3 cInt 1 (xs.take k.1 ++ List.replicate (xs.length - k.1) 0), slo i cInt 1 xs],
    fun k => xs.length - k.1, ⟨0, Nat.zero_le _⟩, ?_, ?_⟩
  · refine weak_mk [0, 1] ?_ ?_ ?_ ?_ ?_ rfl rfl
    · repeat (first | exact trivial | refine ⟨⟨_, rfl, (by first | exact .of rfl | exact .lit rfl | exact .of (by first | ((simp))) | exact .lit (by first | ((simp)))), (by first | exact trivial | exact Nat.le_of_ble_eq_true rfl)⟩, ?_⟩)
    · repeat (first | exact trivial | refine ⟨⟨(by first | exact .head _ | exact .tail _ (.head _) | exact .tail _ (.tail _ (.head _)) | exact .tail _ (.tail _ (.tail _ (.head _))) | exact .tail _ (.tail _ (.tail _ (.tail _ (.head _)))) | exact .tail _ (.tail _ (.tail _ (.tail _ (.tail _ (.head _))))) | exact .tail _ (.tail _ (.tail _ (.tail _ (.tail _ (.tail _ (.head _)))))) | exact .tail _ (.tail _ (.tail _ (.tail _ (.tail _ (.tail _ (.tail _ (.head _))))))) | exact .tail _ (.tail _ (.tail _ (.tail _ (.tail _ (.tail _ (.tail _ (.tail _ (.head _)))))))) | exact .tail _ (.tail _ (.tail _ (.tail _ (.tail _ (.tail _ (.tail _ (.tail _ (.tail _ (.head _)))))))))), Nat.le_of_ble_eq_true rfl⟩, ?_⟩)
    · repeat (first | exact trivial | refine ⟨⟨_, rfl, (by first | exact .of rfl | exact .lit rfl | exact .of (by first | ((simp))) | exact .lit (by first | ((simp)))), (by first | exact trivial | exact Nat.le_of_ble_eq_true rfl)⟩, ?_⟩)
    · repeat (first | exact trivial | refine ⟨⟨_, rfl⟩, ?_⟩)
    · repeat (first | exact trivial | refine ⟨.inl ⟨_, rfl, (by first | rfl | ((simp)))⟩, ?_⟩ | refine ⟨.inr ⟨Nat.le_of_ble_eq_true rfl, rfl, rfl, rfl, rfl⟩, ?_⟩)
  · rintro ⟨k, hk⟩
    refine CaseB.mk (fun h => ?_) (fun h => ?_)
    · have hlt : k < xs.length := by simpa using h
      have hT : (xs.take k ++ List.replicate (xs.length - k) 0).set k xs[k] = xs.take (k + 1) ++ List.replicate (xs.length - (k + 1)) 0 := by
        rw [List.set_append_right _ _ (by simp; omega), List.take_succ_eq_append_getElem hlt, show k - (List.take k xs).length = 0 by simp; omega, show xs.length - k = (xs.length - (k + 1)) + 1 by omega, List.replicate_succ, List.append_assoc]
        rfl
      refine stop_idx encInt tabOk rfl rfl rfl rfl rfl ⟨rfl, rfl⟩ (by first | exact rdAt 0 rfl | exact rdOwnAt 0 rfl | exact rdAt 1 rfl | exact rdOwnAt 1 rfl | exact rdAt 2 rfl | exact rdOwnAt 2 rfl | exact rdAt 3 rfl | exact rdOwnAt 3 rfl | exact rdAt 4 rfl | exact rdOwnAt 4 rfl | exact rdAt 5 rfl | exact rdOwnAt 5 rfl | exact rdAt 6 rfl | exact rdOwnAt 6 rfl | exact rdAt 7 rfl | exact rdOwnAt 7 rfl | exact rdAt 8 rfl | exact rdOwnAt 8 rfl | exact rdAt 9 rfl | exact rdOwnAt 9 rfl | exact rdAt 10 rfl | exact rdOwnAt 10 rfl | exact rdAt 11 rfl | exact rdOwnAt 11 rfl | exact rdAt 12 rfl | exact rdOwnAt 12 rfl | exact rdAt 13 rfl | exact rdOwnAt 13 rfl | exact rdAt 14 rfl | exact rdOwnAt 14 rfl | exact rdAt 15 rfl | exact rdOwnAt 15 rfl | exact rdAt 16 rfl | exact rdOwnAt 16 rfl | exact rdAt 17 rfl | exact rdOwnAt 17 rfl | exact rdAt 18 rfl | exact rdOwnAt 18 rfl | exact rdAt 19 rfl | exact rdOwnAt 19 rfl | exact rdAt 20 rfl | exact rdOwnAt 20 rfl | exact rdAt 21 rfl | exact rdOwnAt 21 rfl | exact rdAt 22 rfl | exact rdOwnAt 22 rfl | exact rdAt 23 rfl | exact rdOwnAt 23 rfl) k rfl (by first | omega | (simp; done) | (simp; omega) | (unfold maxLen; omega) | (unfold maxLen; simp; done) | (unfold maxLen; simp; omega)) (fun ad => ?_)
      refine stop_idxW encInt 0 tabOk rfl rfl rfl rfl rfl ⟨rfl, rfl⟩ rfl (by first | rfl | (simp; done)) k rfl (by first | omega | (simp; done) | (simp; omega) | (unfold maxLen; omega) | (unfold maxLen; simp; done) | (unfold maxLen; simp; omega)) (fun g hg => ?_)
      refine stop_storeW encInt 0 tabOk rfl rfl rfl rfl rfl rfl rfl rfl hg k 0 (xs[k]) rfl (by first | omega | (simp; done) | (simp; omega) | (unfold maxLen; omega) | (unfold maxLen; simp; done) | (unfold maxLen; simp; omega)) rfl [.int .i64 (xs[k])] (fun _ => rfl) rfl ?_
      have hw := e_succ k _ hlt (by omega)
      refine ⟨⟨k + 1, by omega⟩, ?_, by simp; omega⟩
      refine weak_mk [0, 1] ?_ ?_ ?_ ?_ ?_ rfl rfl
      · repeat (first | exact trivial | refine ⟨⟨_, rfl, (by first | exact .of rfl | exact .lit rfl | exact .of (by first | ((first | (rw [hT]; done) | (simp only; done) | exact congrArg (fun z => SV.v (Value.int .i64 z)) hw | (rw [← hT]; simp)))) | exact .lit (by first | ((first | (rw [hT]; done) | (simp only [hT]; done) | exact congrArg (fun z => SV.v (Value.int .i64 z)) hw | (rw [← hT]; simp))))), (by first | exact trivial | exact Nat.le_of_ble_eq_true rfl)⟩, ?_⟩)
      · repeat (first | exact trivial | refine ⟨⟨(by first | exact .head _ | exact .tail _ (.head _) | exact .tail _ (.tail _ (.head _)) | exact .tail _ (.tail _ (.tail _ (.head _))) | exact .tail _ (.tail _ (.tail _ (.tail _ (.head _)))) | exact .tail _ (.tail _ (.tail _ (.tail _ (.tail _ (.head _))))) | exact .tail _ (.tail _ (.tail _ (.tail _ (.tail _ (.tail _ (.head _)))))) | exact .tail _ (.tail _ (.tail _ (.tail _ (.tail _ (.tail _ (.tail _ (.head _))))))) | exact .tail _ (.tail _ (.tail _ (.tail _ (.tail _ (.tail _ (.tail _ (.tail _ (.head _)))))))) | exact .tail _ (.tail _ (.tail _ (.tail _ (.tail _ (.tail _ (.tail _ (.tail _ (.tail _ (.head _)))))))))), Nat.le_of_ble_eq_true rfl⟩, ?_⟩)
      · repeat (first | exact trivial | refine ⟨⟨_, rfl, (by first | exact .of rfl | exact .lit rfl | exact .of (by first | ((first | (rw [hT]; done) | (simp only [hT]; done) | exact congrArg (fun z => SV.v (Value.int .i64 z)) hw | (rw [← hT]; simp)))) | exact .lit (by first | ((first | (rw [hT]; done) | (simp only [hT]; done) | exact congrArg (fun z => SV.v (Value.int .i64 z)) hw | (rw [← hT]; simp))))), (by first | exact trivial | exact Nat.le_of_ble_eq_true rfl)⟩, ?_⟩)
      · repeat (first | exact trivial | refine ⟨⟨_, rfl⟩, ?_⟩)
      · repeat (first | exact trivial | refine ⟨.inl ⟨_, rfl, (by first | rfl | ((first | (rw [hT]; done) | (simp only [hT]; done) | exact congrArg (fun z => SV.v (Value.int .i64 z)) hw | (rw [← hT]; simp))))⟩, ?_⟩ | refine ⟨.inr ⟨Nat.le_of_ble_eq_true rfl, rfl, rfl, rfl, rfl⟩, ?_⟩)
    · have hge : xs.length ≤ k := by simpa using h
      have hT : xs.take k ++ List.replicate (xs.length - k) 0 = xs := by rw [List.take_of_length_le hge, show xs.length - k = 0 by omega]; simp
      exact retw [0] ⟨y, rfl, rfl⟩ ⟨.inl ⟨_, rfl, (by first | rfl | ((simp only [hT])))⟩, trivial⟩ rfl ⟨rfl, trivial⟩ (fun _ => (by first | rfl | ((simp only [hT, resV, SV.den]))))

set_option maxRecDepth 100000 in
theorem eqIntS_c (i j : Sl) (xs ys : List Int) (w : World) (h : At w [slo i cInt 1 xs, slo j cInt 1 ys]) (hb : xs.length ≤ 4294967296) (hb2 : ys.length ≤ 4294967296) :
    Calls Try.prog 50 #[i.val xs.length, j.val ys.length] w (Ret w fun v L => v = .bool (decide (xs = ys)) ∧ L = []) := by
  refine calls2 Try.func50 rfl tabOk w _ rfl _ rfl _ h ⟨rfl, rfl, rfl, rfl, trivial⟩ _ _ (by decide) ?_
  refine CaseB.mk (fun h => ?_) (fun h => ?_)
  · have hne : xs ≠ ys := by rintro rfl; simp at h
    refine retw [] ⟨?_, rfl⟩ trivial rfl trivial (fun _ => rfl)
    simp [hne]
  · have hl : xs.length = ys.length := by simp at h; omega
    refine LoopW.mk ⟨{ k : Nat // k ≤ xs.length ∧ xs.take k = ys.take k },
      fun p => .mk [(0, .v (i.val xs.length)), (1, .v (j.val ys.length)), (5, .v (.int .i64 p.1))] 0 0 [] [] [slo i cInt 1 xs, slo j cInt 1 ys],
      fun p => xs.length - p.1, ⟨0, Nat.zero_le _, rfl⟩, ?_, ?_⟩
    · refine weak_mk [0, 1] ?_ ?_ ?_ ?_ ?_ rfl rfl
      · repeat (first | exact trivial | refine ⟨⟨_, rfl, (by first | exact .of rfl | exact .lit rfl | exact .of (by first | (rfl)) | exact .lit (by first | (rfl))), (by first | exact trivial | exact Nat.le_of_ble_eq_true rfl)⟩, ?_⟩)
      · repeat (first | exact trivial | refine ⟨⟨(by first | exact .head _ | exact .tail _ (.head _) | exact .tail _ (.tail _ (.head _)) | exact .tail _ (.tail _ (.tail _ (.head _))) | exact .tail _ (.tail _ (.tail _ (.tail _ (.head _)))) | exact .tail _ (.tail _ (.tail _ (.tail _ (.tail _ (.head _))))) | exact .tail _ (.tail _ (.tail _ (.tail _ (.tail _ (.tail _ (.head _)))))) | exact .tail _ (.tail _ (.tail _ (.tail _ (.tail _ (.tail _ (.tail _ (.head _))))))) | exact .tail _ (.tail _ (.tail _ (.tail _ (.tail _ (.tail _ (.tail _ (.tail _ (.head _)))))))) | exact .tail _ (.tail _ (.tail _ (.tail _ (.tail _ (.tail _ (.tail _ (.tail _ (.tail _ (.head _)))))))))), Nat.le_of_ble_eq_true rfl⟩, ?_⟩)
      · repeat (first | exact trivial | refine ⟨⟨_, rfl, (by first | exact .of rfl | exact .lit rfl | exact .of (by first | (rfl)) | exact .lit (by first | (rfl))), (by first | exact trivial | exact Nat.le_of_ble_eq_true rfl)⟩, ?_⟩)
      · repeat (first | exact trivial | refine ⟨⟨_, rfl⟩, ?_⟩)
      · repeat (first | exact trivial | refine ⟨.inl ⟨_, rfl, (by first | rfl | (rfl))⟩, ?_⟩ | refine ⟨.inr ⟨Nat.le_of_ble_eq_true rfl, rfl, rfl, rfl, rfl⟩, ?_⟩)
    · rintro ⟨k, hk, he⟩
      refine CaseB.mk (fun h => ?_) (fun h => ?_)
      · have hlt : k < xs.length := by simpa using h
        have hlt2 : k < ys.length := by omega
        obtain ⟨q1, q2⟩ := e_take he hlt hlt2
        refine draw_start tabOk (by kernel_rfl) (by kernel_rfl) (by kernel_rfl) 200 [] [0, 1] [_, _] trivial trivial ⟨rfl, rfl, trivial⟩ rfl ?_
        refine d_idx (ti := tiOf tab) encInt tabOk rfl rfl rfl rfl rfl ⟨rfl, rfl⟩ (by first | exact rdAt 0 rfl | exact rdOwnAt 0 rfl | exact rdAt 1 rfl | exact rdOwnAt 1 rfl | exact rdAt 2 rfl | exact rdOwnAt 2 rfl | exact rdAt 3 rfl | exact rdOwnAt 3 rfl | exact rdAt 4 rfl | exact rdOwnAt 4 rfl | exact rdAt 5 rfl | exact rdOwnAt 5 rfl | exact rdAt 6 rfl | exact rdOwnAt 6 rfl | exact rdAt 7 rfl | exact rdOwnAt 7 rfl | exact rdAt 8 rfl | exact rdOwnAt 8 rfl | exact rdAt 9 rfl | exact rdOwnAt 9 rfl | exact rdAt 10 rfl | exact rdOwnAt 10 rfl | exact rdAt 11 rfl | exact rdOwnAt 11 rfl | exact rdAt 12 rfl | exact rdOwnAt 12 rfl | exact rdAt 13 rfl | exact rdOwnAt 13 rfl | exact rdAt 14 rfl | exact rdOwnAt 14 rfl | exact rdAt 15 rfl | exact rdOwnAt 15 rfl | exact rdAt 16 rfl | exact rdOwnAt 16 rfl | exact rdAt 17 rfl | exact rdOwnAt 17 rfl | exact rdAt 18 rfl | exact rdOwnAt 18 rfl | exact rdAt 19 rfl | exact rdOwnAt 19 rfl | exact rdAt 20 rfl | exact rdOwnAt 20 rfl | exact rdAt 21 rfl | exact rdOwnAt 21 rfl | exact rdAt 22 rfl | exact rdOwnAt 22 rfl | exact rdAt 23 rfl | exact rdOwnAt 23 rfl) k rfl (by first | omega | (simp; done) | (simp; omega) | (unfold maxLen; omega) | (unfold maxLen; simp; done) | (unfold maxLen; simp; omega)) (fun ad => ?_)
        refine d_idx (ti := tiOf tab) encInt tabOk rfl rfl rfl rfl rfl ⟨rfl, rfl⟩ (by first | exact rdAt 0 rfl | exact rdOwnAt 0 rfl | exact rdAt 1 rfl | exact rdOwnAt 1 rfl | exact rdAt 2 rfl | exact rdOwnAt 2 rfl | exact rdAt 3 rfl | exact rdOwnAt 3 rfl | exact rdAt 4 rfl | exact rdOwnAt 4 rfl | exact rdAt 5 rfl | exact rdOwnAt 5 rfl | exact rdAt 6 rfl | exact rdOwnAt 6 rfl | exact rdAt 7 rfl | exact rdOwnAt 7 rfl | exact rdAt 8 rfl | exact rdOwnAt 8 rfl | exact rdAt 9 rfl | exact rdOwnAt 9 rfl | exact rdAt 10 rfl | exact rdOwnAt 10 rfl | exact rdAt 11 rfl | exact rdOwnAt 11 rfl | exact rdAt 12 rfl | exact rdOwnAt 12 rfl | exact rdAt 13 rfl | exact rdOwnAt 13 rfl | exact rdAt 14 rfl | exact rdOwnAt 14 rfl | exact rdAt 15 rfl | exact rdOwnAt 15 rfl | exact rdAt 16 rfl | exact rdOwnAt 16 rfl | exact rdAt 17 rfl | exact rdOwnAt 17 rfl | exact rdAt 18 rfl | exact rdOwnAt 18 rfl | exact rdAt 19 rfl | exact rdOwnAt 19 rfl | exact rdAt 20 rfl | exact rdOwnAt 20 rfl | exact rdAt 21 rfl | exact rdOwnAt 21 rfl | exact rdAt 22 rfl | exact rdOwnAt 22 rfl | exact rdAt 23 rfl | exact rdOwnAt 23 rfl) k rfl (by first | omega | (simp; done) | (simp; omega) | (unfold maxLen; omega) | (unfold maxLen; simp; done) | (unfold maxLen; simp; omega)) (fun ad2 => ?_)
        refine CaseB.mk (fun h => ?_) (fun h => ?_)
        · have hne := q2 (by simpa using h)
          refine retw [] ⟨?_, rfl⟩ trivial rfl trivial (fun _ => rfl)
          simp [hne]
        · have heq := q1 (by simpa using h)
          have hw := e_succ k _ hlt (by omega)
          refine ⟨⟨k + 1, by omega, heq⟩, ?_, by simp; omega⟩
          refine weak_mk [0, 1] ?_ ?_ ?_ ?_ ?_ rfl rfl
          · repeat (first | exact trivial | refine ⟨⟨_, rfl, (by first | exact .of rfl | exact .lit rfl | exact .of (by first | ((exact congrArg (fun z => SV.v (Value.int .i64 z)) hw))) | exact .lit (by first | ((exact congrArg (fun z => SV.v (Value.int .i64 z)) hw)))), (by first | exact trivial | exact Nat.le_of_ble_eq_true rfl)⟩, ?_⟩)
          · repeat (first | exact trivial | refine ⟨⟨(by first | exact .head _ | exact .tail _ (.head _) | exact .tail _ (.tail _ (.head _)) | exact .tail _ (.tail _ (.tail _ (.head _))) | exact .tail _ (.tail _ (.tail _ (.tail _ (.head _)))) | exact .tail _ (.tail _ (.tail _ (.tail _ (.tail _ (.head _))))) | exact .tail _ (.tail _ (.tail _ (.tail _ (.tail _ (.tail _ (.head _)))))) | exact .tail _ (.tail _ (.tail _ (.tail _ (.tail _ (.tail _ (.tail _ (.head _))))))) | exact .tail _ (.tail _ (.tail _ (.tail _ (.tail _ (.tail _ (.tail _ (.tail _ (.head _)))))))) | exact .tail _ (.tail _ (.tail _ (.tail _ (.tail _ (.tail _ (.tail _ (.tail _ (.tail _ (.head _)))))))))), Nat.le_of_ble_eq_true rfl⟩, ?_⟩)
          · repeat (first | exact trivial | refine ⟨⟨_, rfl, (by first | exact .of rfl | exact .lit rfl | exact .of (by first | ((exact congrArg (fun z => SV.v (Value.int .i64 z)) hw))) | exact .lit (by first | ((exact congrArg (fun z => SV.v (Value.int .i64 z)) hw)))), (by first | exact trivial | exact Nat.le_of_ble_eq_true rfl)⟩, ?_⟩)
          · repeat (first | exact trivial | refine ⟨⟨_, rfl⟩, ?_⟩)
          · repeat (first | exact trivial | refine ⟨.inl ⟨_, rfl, (by first | rfl | ((exact congrArg (fun z => SV.v (Value.int .i64 z)) hw)))⟩, ?_⟩ | refine ⟨.inr ⟨Nat.le_of_ble_eq_true rfl, rfl, rfl, rfl, rfl⟩, ?_⟩)
      · have hge : xs.length ≤ k := by simpa using h
        have heq : xs = ys := by rw [List.take_of_length_le hge, List.take_of_length_le (by omega)] at he; exact he
        refine retw [] ⟨?_, rfl⟩ trivial rfl trivial (fun _ => rfl)
        simp [heq]

/-- n marks, from k on. -/
def marks (k : Nat) : Nat → List Int
  | 0 => []
  | n + 1 => (k : Int) :: marks (k + 1) n

theorem marks_len (k n : Nat) : (marks k n).length = n := by
  induction n generalizing k with
  | zero => rfl
  | succ n ih => simp [marks, ih]

theorem marks_get (k n j : Nat) (hj : j < n) : (marks k n)[j]? = some ((k + j : Nat) : Int) := by
  induction n generalizing k j with
  | zero => omega
  | succ n ih =>
    cases j with
    | zero => simp [marks]
    | succ j => simp only [marks, List.getElem?_cons_succ]; rw [ih (k + 1) j (by omega)]; congr 2; omega

theorem marks_set (xs : List Int) (k j : Nat) (hj : j < xs.length) : (marks k j ++ xs.drop j).set j ((k + j : Nat) : Int) = marks k (j + 1) ++ xs.drop (j + 1) := by
  have h1 : marks k (j + 1) = marks k j ++ [((k + j : Nat) : Int)] := by
    apply List.ext_getElem?
    intro q
    rcases Nat.lt_or_ge q j with hq | hq
    · rw [List.getElem?_append_left (by rw [marks_len]; exact hq), marks_get _ _ _ hq, marks_get _ _ _ (by omega)]
    · rcases Nat.eq_or_lt_of_le hq with rfl | hq
      · rw [marks_get _ _ _ (by omega), List.getElem?_append_right (by rw [marks_len]; exact Nat.le_refl _), marks_len]; simp
      · rw [List.getElem?_eq_none (by rw [marks_len]; omega), List.getElem?_eq_none (by simp [marks_len]; omega)]
  rw [List.set_append_right _ _ (by rw [marks_len]; exact Nat.le_refl _), marks_len, Nat.sub_self, List.drop_eq_getElem_cons hj, h1, List.append_assoc]
  rfl

set_option maxRecDepth 100000 in
theorem markIntS_c (i : Sl) (xs : List Int) (k : Nat) (w : World) (h : AtG w [own i 3 cInt 1 xs] []) (hb : xs.length ≤ 4294967296) (hk : k ≤ 1152921504606846976) :
    Calls Try.prog 76 #[i.val xs.length, .int .i64 (k : Int)] w (RetG w [own i 3 cInt 1 xs] fun v L => v = .int .i64 ((k + xs.length : Nat) : Int) ∧ L = [own i 3 cInt 1 (marks k xs.length)]) := by
  refine callsG_fn Try.func76 rfl tabOk w _ rfl _ rfl _ _ h trivial _ _ rfl rfl ?_
  refine LoopW.mk ⟨{ j : Nat // j ≤ xs.length },
    fun j => .mk [(0, .v (i.val (marks k j.1 ++ xs.drop j.1).length)), (1, .v (.int .i64 ((k + j.1 : Nat) : Int))), (5, .v (.int .i64 (j.1 : Int)))] 0 0 [] [] [own i 3 cInt 1 (marks k j.1 ++ xs.drop j.1)],
    fun j => xs.length - j.1, ⟨0, Nat.zero_le _⟩, ?_, ?_⟩
  · refine weak_mk [0] ?_ ?_ ?_ ?_ ?_ rfl rfl
    · repeat (first | exact trivial | refine ⟨⟨_, rfl, (by first | exact .of rfl | exact .lit rfl | exact .of (by first | ((simp [marks]))) | exact .lit (by first | ((simp [marks])))), (by first | exact trivial | exact Nat.le_of_ble_eq_true rfl)⟩, ?_⟩)
    · repeat (first | exact trivial | refine ⟨⟨(by first | exact .head _ | exact .tail _ (.head _) | exact .tail _ (.tail _ (.head _)) | exact .tail _ (.tail _ (.tail _ (.head _))) | exact .tail _ (.tail _ (.tail _ (.tail _ (.head _)))) | exact .tail _ (.tail _ (.tail _ (.tail _ (.tail _ (.head _))))) | exact .tail _ (.tail _ (.tail _ (.tail _ (.tail _ (.tail _ (.head _)))))) | exact .tail _ (.tail _ (.tail _ (.tail _ (.tail _ (.tail _ (.tail _ (.head _))))))) | exact .tail _ (.tail _ (.tail _ (.tail _ (.tail _ (.tail _ (.tail _ (.tail _ (.head _)))))))) | exact .tail _ (.tail _ (.tail _ (.tail _ (.tail _ (.tail _ (.tail _ (.tail _ (.tail _ (.head _)))))))))), Nat.le_of_ble_eq_true rfl⟩, ?_⟩)
    · repeat (first | exact trivial | refine ⟨⟨_, rfl, (by first | exact .of rfl | exact .lit rfl | exact .of (by first | ((simp [marks]))) | exact .lit (by first | ((simp [marks])))), (by first | exact trivial | exact Nat.le_of_ble_eq_true rfl)⟩, ?_⟩)
    · repeat (first | exact trivial | refine ⟨⟨_, rfl⟩, ?_⟩)
    · repeat (first | exact trivial | refine ⟨.inl ⟨_, rfl, (by first | rfl | ((simp [marks])))⟩, ?_⟩ | refine ⟨.inr ⟨Nat.le_of_ble_eq_true rfl, rfl, rfl, rfl, rfl⟩, ?_⟩)
  · rintro ⟨j, hj⟩
    have hl : (marks k j ++ xs.drop j).length = xs.length := by rw [List.length_append, marks_len, List.length_drop]; omega
    refine CaseB.mk (fun h => ?_) (fun h => ?_)
    · have hlt : j < xs.length := by simp only [hl] at h; simpa using h
      have hT := marks_set xs k j hlt
      refine stop_idxW encInt 0 tabOk rfl rfl rfl rfl rfl ⟨rfl, rfl⟩ rfl (by first | rfl | (simp; done)) j rfl (Nat.lt_of_lt_of_eq hlt hl.symm) (fun g hg => ?_)
      refine stop_storeW encInt 0 tabOk rfl rfl rfl rfl rfl rfl rfl rfl hg j 0 ((k + j : Nat) : Int) rfl (Nat.lt_of_lt_of_eq hlt hl.symm) rfl [.int .i64 ((k + j : Nat) : Int)] (fun _ => rfl) rfl ?_
      have hw := e_succ j _ hlt (by omega)
      have hw2 := e_succ (k + j) (k + xs.length) (by omega) (by omega)
      refine ⟨⟨j + 1, by omega⟩, ?_, by simp; omega⟩
      refine weak_mk [0] ?_ ?_ ?_ ?_ ?_ rfl rfl
      · repeat (first | exact trivial | refine ⟨⟨_, rfl, (by first | exact .of rfl | exact .lit rfl | exact .of (by first | ((first | (rw [hT]; done) | (simp only; done) | exact congrArg (fun z => SV.v (Value.int .i64 z)) hw | exact congrArg (fun z => SV.v (Value.int .i64 z)) hw2 | (rw [← hT]; simp)))) | exact .lit (by first | ((first | (rw [hT]; done) | (simp only [hT]; done) | exact congrArg (fun z => SV.v (Value.int .i64 z)) hw | exact congrArg (fun z => SV.v (Value.int .i64 z)) hw2 | (rw [← hT]; simp))))), (by first | exact trivial | exact Nat.le_of_ble_eq_true rfl)⟩, ?_⟩)
      · repeat (first | exact trivial | refine ⟨⟨(by first | exact .head _ | exact .tail _ (.head _) | exact .tail _ (.tail _ (.head _)) | exact .tail _ (.tail _ (.tail _ (.head _))) | exact .tail _ (.tail _ (.tail _ (.tail _ (.head _)))) | exact .tail _ (.tail _ (.tail _ (.tail _ (.tail _ (.head _))))) | exact .tail _ (.tail _ (.tail _ (.tail _ (.tail _ (.tail _ (.head _)))))) | exact .tail _ (.tail _ (.tail _ (.tail _ (.tail _ (.tail _ (.tail _ (.head _))))))) | exact .tail _ (.tail _ (.tail _ (.tail _ (.tail _ (.tail _ (.tail _ (.tail _ (.head _)))))))) | exact .tail _ (.tail _ (.tail _ (.tail _ (.tail _ (.tail _ (.tail _ (.tail _ (.tail _ (.head _)))))))))), Nat.le_of_ble_eq_true rfl⟩, ?_⟩)
      · repeat (first | exact trivial | refine ⟨⟨_, rfl, (by first | exact .of rfl | exact .lit rfl | exact .of (by first | ((first | (rw [hT]; done) | (simp only [hT]; done) | exact congrArg (fun z => SV.v (Value.int .i64 z)) hw | exact congrArg (fun z => SV.v (Value.int .i64 z)) hw2 | (rw [← hT]; simp)))) | exact .lit (by first | ((first | (rw [hT]; done) | (simp only [hT]; done) | exact congrArg (fun z => SV.v (Value.int .i64 z)) hw | exact congrArg (fun z => SV.v (Value.int .i64 z)) hw2 | (rw [← hT]; simp))))), (by first | exact trivial | exact Nat.le_of_ble_eq_true rfl)⟩, ?_⟩)
      · repeat (first | exact trivial | refine ⟨⟨_, rfl⟩, ?_⟩)
      · repeat (first | exact trivial | refine ⟨.inl ⟨_, rfl, (by first | rfl | ((first | (rw [hT]; done) | (simp only [hT]; done) | exact congrArg (fun z => SV.v (Value.int .i64 z)) hw | exact congrArg (fun z => SV.v (Value.int .i64 z)) hw2 | (rw [← hT]; simp))))⟩, ?_⟩ | refine ⟨.inr ⟨Nat.le_of_ble_eq_true rfl, rfl, rfl, rfl, rfl⟩, ?_⟩)
    · have hge : xs.length ≤ j := by simp only [hl] at h; simpa using h
      have hje : j = xs.length := by omega
      have hT : marks k j ++ xs.drop j = marks k xs.length := by rw [hje]; simp
      exact retG [0] ⟨rfl, rfl⟩ ⟨.inl ⟨_, rfl, (by first | rfl | ((first | (simp only [hT]; done) | simp only [resV, SV.den, hje])))⟩, trivial⟩ rfl ⟨rfl, trivial⟩ (fun _ => (by first | rfl | ((first | (simp only; done) | simp only [resV, SV.den, hje]))))

set_option maxRecDepth 100000 in
theorem heldIntS_c (i : Sl) (k n : Nat) (w : World) (h : At w [slo i cInt 1 (marks k n)]) (hb : n ≤ 4294967296) (hk : k ≤ 1152921504606846976) :
    Calls Try.prog 83 #[i.val (marks k n).length, .int .i64 (k : Int)] w (Ret w fun v L => v = .int .i64 ((k + n : Nat) : Int) ∧ L = []) := by
  refine calls2 Try.func83 rfl tabOk w _ rfl _ rfl _ h ⟨rfl, rfl, trivial⟩ _ _ (by decide) ?_
  refine LoopW.mk ⟨{ j : Nat // j ≤ n },
    fun j => .mk [(0, .v (i.val (marks k n).length)), (1, .v (.int .i64 ((k + j.1 : Nat) : Int))), (5, .v (.int .i64 (j.1 : Int)))] 0 0 [] [] [slo i cInt 1 (marks k n)],
    fun j => n - j.1, ⟨0, Nat.zero_le _⟩, ?_, ?_⟩
  · refine weak_mk [0] ?_ ?_ ?_ ?_ ?_ rfl rfl
    · repeat (first | exact trivial | refine ⟨⟨_, rfl, (by first | exact .of rfl | exact .lit rfl | exact .of (by first | (rfl)) | exact .lit (by first | (rfl))), (by first | exact trivial | exact Nat.le_of_ble_eq_true rfl)⟩, ?_⟩)
    · repeat (first | exact trivial | refine ⟨⟨(by first | exact .head _ | exact .tail _ (.head _) | exact .tail _ (.tail _ (.head _)) | exact .tail _ (.tail _ (.tail _ (.head _))) | exact .tail _ (.tail _ (.tail _ (.tail _ (.head _)))) | exact .tail _ (.tail _ (.tail _ (.tail _ (.tail _ (.head _))))) | exact .tail _ (.tail _ (.tail _ (.tail _ (.tail _ (.tail _ (.head _)))))) | exact .tail _ (.tail _ (.tail _ (.tail _ (.tail _ (.tail _ (.tail _ (.head _))))))) | exact .tail _ (.tail _ (.tail _ (.tail _ (.tail _ (.tail _ (.tail _ (.tail _ (.head _)))))))) | exact .tail _ (.tail _ (.tail _ (.tail _ (.tail _ (.tail _ (.tail _ (.tail _ (.tail _ (.head _)))))))))), Nat.le_of_ble_eq_true rfl⟩, ?_⟩)
    · repeat (first | exact trivial | refine ⟨⟨_, rfl, (by first | exact .of rfl | exact .lit rfl | exact .of (by first | (rfl)) | exact .lit (by first | (rfl))), (by first | exact trivial | exact Nat.le_of_ble_eq_true rfl)⟩, ?_⟩)
    · repeat (first | exact trivial | refine ⟨⟨_, rfl⟩, ?_⟩)
    · repeat (first | exact trivial | refine ⟨.inl ⟨_, rfl, (by first | rfl | (rfl))⟩, ?_⟩ | refine ⟨.inr ⟨Nat.le_of_ble_eq_true rfl, rfl, rfl, rfl, rfl⟩, ?_⟩)
  · rintro ⟨j, hj⟩
    refine CaseB.mk (fun h => ?_) (fun h => ?_)
    · have hlt : j < n := by rw [marks_len] at h; simpa using h
      have hlt2 : j < (marks k n).length := by rw [marks_len]; exact hlt
      have hv : (marks k n)[j] = ((k + j : Nat) : Int) := by
        have := marks_get k n j hlt
        rw [List.getElem?_eq_getElem hlt2] at this
        injection this
      refine stop_idx encInt tabOk rfl rfl rfl rfl rfl ⟨rfl, rfl⟩ (by first | exact rdAt 0 rfl | exact rdOwnAt 0 rfl | exact rdAt 1 rfl | exact rdOwnAt 1 rfl | exact rdAt 2 rfl | exact rdOwnAt 2 rfl | exact rdAt 3 rfl | exact rdOwnAt 3 rfl | exact rdAt 4 rfl | exact rdOwnAt 4 rfl | exact rdAt 5 rfl | exact rdOwnAt 5 rfl | exact rdAt 6 rfl | exact rdOwnAt 6 rfl | exact rdAt 7 rfl | exact rdOwnAt 7 rfl | exact rdAt 8 rfl | exact rdOwnAt 8 rfl | exact rdAt 9 rfl | exact rdOwnAt 9 rfl | exact rdAt 10 rfl | exact rdOwnAt 10 rfl | exact rdAt 11 rfl | exact rdOwnAt 11 rfl | exact rdAt 12 rfl | exact rdOwnAt 12 rfl | exact rdAt 13 rfl | exact rdOwnAt 13 rfl | exact rdAt 14 rfl | exact rdOwnAt 14 rfl | exact rdAt 15 rfl | exact rdOwnAt 15 rfl | exact rdAt 16 rfl | exact rdOwnAt 16 rfl | exact rdAt 17 rfl | exact rdOwnAt 17 rfl | exact rdAt 18 rfl | exact rdOwnAt 18 rfl | exact rdAt 19 rfl | exact rdOwnAt 19 rfl | exact rdAt 20 rfl | exact rdOwnAt 20 rfl | exact rdAt 21 rfl | exact rdOwnAt 21 rfl | exact rdAt 22 rfl | exact rdOwnAt 22 rfl | exact rdAt 23 rfl | exact rdOwnAt 23 rfl) j rfl (by first | omega | (simp; done) | (simp; omega) | (unfold maxLen; omega) | (unfold maxLen; simp; done) | (unfold maxLen; simp; omega)) (fun ad => ?_)
      refine CaseB.mk (fun h => by rw [hv] at h; simp at h) (fun h => ?_)
      have hw := e_succ j _ hlt (by omega)
      have hw2 := e_succ (k + j) (k + n) (by omega) (by omega)
      refine ⟨⟨j + 1, by omega⟩, ?_, by simp; omega⟩
      refine weak_mk [0] ?_ ?_ ?_ ?_ ?_ rfl rfl
      · repeat (first | exact trivial | refine ⟨⟨_, rfl, (by first | exact .of rfl | exact .lit rfl | exact .of (by first | ((first | exact congrArg (fun z => SV.v (Value.int .i64 z)) hw | exact congrArg (fun z => SV.v (Value.int .i64 z)) hw2))) | exact .lit (by first | ((first | exact congrArg (fun z => SV.v (Value.int .i64 z)) hw | exact congrArg (fun z => SV.v (Value.int .i64 z)) hw2)))), (by first | exact trivial | exact Nat.le_of_ble_eq_true rfl)⟩, ?_⟩)
      · repeat (first | exact trivial | refine ⟨⟨(by first | exact .head _ | exact .tail _ (.head _) | exact .tail _ (.tail _ (.head _)) | exact .tail _ (.tail _ (.tail _ (.head _))) | exact .tail _ (.tail _ (.tail _ (.tail _ (.head _)))) | exact .tail _ (.tail _ (.tail _ (.tail _ (.tail _ (.head _))))) | exact .tail _ (.tail _ (.tail _ (.tail _ (.tail _ (.tail _ (.head _)))))) | exact .tail _ (.tail _ (.tail _ (.tail _ (.tail _ (.tail _ (.tail _ (.head _))))))) | exact .tail _ (.tail _ (.tail _ (.tail _ (.tail _ (.tail _ (.tail _ (.tail _ (.head _)))))))) | exact .tail _ (.tail _ (.tail _ (.tail _ (.tail _ (.tail _ (.tail _ (.tail _ (.tail _ (.head _)))))))))), Nat.le_of_ble_eq_true rfl⟩, ?_⟩)
      · repeat (first | exact trivial | refine ⟨⟨_, rfl, (by first | exact .of rfl | exact .lit rfl | exact .of (by first | ((first | exact congrArg (fun z => SV.v (Value.int .i64 z)) hw | exact congrArg (fun z => SV.v (Value.int .i64 z)) hw2))) | exact .lit (by first | ((first | exact congrArg (fun z => SV.v (Value.int .i64 z)) hw | exact congrArg (fun z => SV.v (Value.int .i64 z)) hw2)))), (by first | exact trivial | exact Nat.le_of_ble_eq_true rfl)⟩, ?_⟩)
      · repeat (first | exact trivial | refine ⟨⟨_, rfl⟩, ?_⟩)
      · repeat (first | exact trivial | refine ⟨.inl ⟨_, rfl, (by first | rfl | ((first | exact congrArg (fun z => SV.v (Value.int .i64 z)) hw | exact congrArg (fun z => SV.v (Value.int .i64 z)) hw2)))⟩, ?_⟩ | refine ⟨.inr ⟨Nat.le_of_ble_eq_true rfl, rfl, rfl, rfl, rfl⟩, ?_⟩)
    · have hge : n ≤ j := by rw [marks_len] at h; simpa using h
      have hje : j = n := by omega
      subst hje
      exact retw [] ⟨rfl, rfl⟩ trivial rfl trivial (fun _ => rfl)

end Go.Proofs.Ytpopeaoklccgcaa

namespace Go.Proofs.Ytpopeaoklccgcaa

open Go Go.Sx Go.RowKit

def isValue (t : Int) : Bool := decide (0 ≤ t) && decide (t ≤ 99)

structure Letter where
  t : Int
  v : Int
  deriving DecidableEq

def cLet (l : Letter) : List Value := [.int .i64 l.t, .int .i64 l.v]

theorem encLet : Enc cLet 2 := ⟨fun _ => rfl, fun _ u hu => by simp [cLet] at hu; rcases hu with rfl | rfl <;> rfl⟩

structure Chan where
  room : Int
  items : List Int
  senders : List Letter
  getters : List Int
  closed : Bool
  deriving DecidableEq

def chanV (m : Chan) (i s g : Sl) : Value := .agg #[.int .i64 m.room, i.val m.items.length, s.val m.senders.length, g.val m.getters.length, .bool m.closed]

def Chan.small (m : Chan) : Prop := m.items.length ≤ 4294967296 ∧ m.senders.length ≤ 4294967296 ∧ m.getters.length ≤ 4294967296

def Chan.threads (m : Chan) : List Int := m.senders.map (·.t) ++ m.getters

set_option maxRecDepth 100000 in
theorem isValue_c (t : Int) (w : World) : Calls Try.prog 69 #[.int .i64 t] w (Ret w fun v L => v = .bool (isValue t) ∧ L = []) := by
  refine calls1 Try.func69 rfl tabOk w _ rfl _ rfl [] trivial trivial _ (by decide) ?_
  refine CaseB.mk (fun h => ?_) (fun h => ?_)
  all_goals
    refine retw [] ⟨?_, rfl⟩ trivial rfl trivial (fun _ => rfl)
    simp [isValue] at h ⊢
    omega

theorem wrapN (k n : Nat) (h : k < n) (hn : n ≤ 4294967296) : IntKind.i64.wrap ((k : Int) + 1) = ((k + 1 : Nat) : Int) := by
  rw [IntKind.wrap_i64]; omega

end Go.Proofs.Ytpopeaoklccgcaa

namespace Go.Proofs.Ytpopeaoklccgcaa

open Go Go.Sx Go.RowKit

/-- Lists equal up to place k. -/
theorem take_eq_succ {α : Type} {xs ys : List α} {k : Nat} (h : xs.take k = ys.take k) (hx : k < xs.length) (hy : k < ys.length) : (xs[k] = ys[k] → xs.take (k + 1) = ys.take (k + 1)) ∧ (xs[k] ≠ ys[k] → xs ≠ ys) := by
  refine ⟨fun e => by rw [List.take_succ_eq_append_getElem hx, List.take_succ_eq_append_getElem hy, h, e], fun e he => ?_⟩
  subst he
  exact e rfl

end Go.Proofs.Ytpopeaoklccgcaa

namespace Go.Proofs.Ytpopeaoklccgcaa

open Go Go.Sx Go.RowKit

set_option maxRecDepth 100000 in
theorem l2Value_c (t : Int) (w : World) : Calls Try.prog 160 #[.int .i64 t] w (Ret w fun v L => v = .bool (isValue t) ∧ L = []) := by
  refine calls1 Try.func160 rfl tabOk w _ rfl _ rfl [] trivial trivial _ (by decide) ?_
  refine CaseB.mk (fun h => ?_) (fun h => ?_)
  all_goals
    refine retw [] ⟨?_, rfl⟩ trivial rfl trivial (fun _ => rfl)
    simp [isValue] at h ⊢
    omega

end Go.Proofs.Ytpopeaoklccgcaa

namespace Go.Sx

open Go Go.RowKit

theorem blk_st (g : Nat) (ty : TypeId) (cs : List Value) (w w' : World) (hb : ∀ b, b = g → w'.heap[b]? = w.heap[b]?) : Blk w g ty cs → Blk w' g ty cs := fun h => by
  unfold Blk at *
  rw [hb g rfl]; exact h

/-- Block g is the variable of type ty with these cells: nobody writes it meanwhile. -/
abbrev fVar (g : Nat) (ty : TypeId) (cs : List Value) : Fct := .other true false (fun b => b = g) (fun w => Blk w g ty cs) (blk_st g ty cs)

section

variable {E : Env} {ti : Nat → TI} {A : Nat → Nat} {T : List (Nat × SV)} {n c : Nat} {B : List (Nat × TypeId × Nat)} {M Ms : List ((Nat × Nat) × SV)} {F Fs : List Fct} {o : Oper} {next : St → Prop} {a : Act} {w w' : World}

theorem WD.var (h : WD E A n B M F w) {k ty sz : Nat} {cs : List Value} (hB : lookBT B k = some (ty, sz)) (hM : loadN M k 0 sz = some cs) : (fVar (A k) ty cs).P w ∧ ∀ b, (fVar (A k) ty cs).foot b → b < w.heap.size :=
  ⟨(h.blk (lookBT_mem hB) hM).1, fun b hb => by
    obtain rfl : b = A k := hb
    exact (h.key k ty sz (lookBT_mem hB)).2.1⟩

/-- A call of a function value that came in. -/
theorem stop_callV (R : Value → List Fct → Prop) {k : Call} {fo : Operand} {g : FuncId} {cap : Array Value} {l : List SV} {d : Nat} (hc : callable E.P g = true)
    (hop : o.op = .call k) (hk : k.callee = .value fo) (hf : evalO T fo = some (.v (.func (.func g) #[] cap))) (ha : evalOs T k.args.toList = some l) (hd : Dst E o d)
    (hcall : ∀ A w, WD E A n B M F w → Calls E.P g ((l.map (SV.den A)) ++ cap.toList).toArray w (Ret w R))
    (hnext : ∀ v L, R v L → next (.mk ((d, .v v) :: T) n (c + 1) B M (L ++ F))) :
    OpW (opStop E o next T n c B M F) := by
  refine ⟨fun A a w hW hT => ?_⟩
  have hargs : (k.args.map a.eval).toList = l.map (SV.den A) := by rw [Array.toList_map]; exact evalOs_sound hT ha
  have hfv := (evalO_sound hT hf).1
  have hr : (execOp a.eval o).run E.P w = .ok (.enter g ((l.map (SV.den A)) ++ cap.toList).toArray) w := by
    have hcat : (k.args.map a.eval) ++ cap = ((l.map (SV.den A)) ++ cap.toList).toArray := by
      apply Array.ext'; rw [Array.toList_append, hargs]
    simp only [execOp, hop, resolve, hk, Sem.run_bind, hfv, SV.den, Deferred.ofValue, Sem.run_pure, Result.andThen_ok, Array.empty_append, invoke, hcat, run_callFunc hc]
  unfold Oper.wp
  rw [hr, Oper.upon_enter]
  refine (hcall A w hW).mono ?_
  rintro e w' ⟨v, L, rfl, he, hL, hR⟩
  refine ⟨_, ⟨_, hW.learn he hL, ?_⟩, hnext v L hR⟩
  rw [hd.1]
  exact (hT.step w').put (v := .v v) hd.lt trivial

/-- A load of a variable that a fact knows. -/
theorem stop_loadV (k1 : Nat) {t ty : TypeId} {x : Operand} {g d : Nat} {cs : List Value} {v : Value} {size : Nat} {zero : List Value} {fs : List (Nat × Nat × Bool)} {el : Option TypeId} {ik : Option IntKind} {kk bytes : Nat}
    (hti : ∀ t, TIok E.P t (ti t)) (hop : o.op = .load t x) (hx : evalO T x = some (.v (.pointer (some ⟨g, 0, none⟩)))) (ht : ti t = .mk false size zero fs el ik kk bytes) (hF : F[k1]? = some (fVar g ty cs)) (hv : cs[0]? = some v) (hd : Dst E o d)
    (hnext : next (.mk ((d, .v v) :: T) n c B M F)) : OpW (opStop E o next T n c B M F) := by
  refine ⟨fun A a w hW hT => ?_⟩
  have htt := hti t
  rw [ht] at htt
  obtain ⟨ii, dd, z, e1, e2, e3, e4, e5, e6, e7, e8, e9, e10, e11⟩ := tiSum_parts htt
  have hx' : a.eval x = .pointer (some ⟨g, 0, none⟩) := (evalO_sound hT hx).1
  have hb : Blk w g ty cs := (hW.nth k1 hF).1
  have hc : w.cell? ⟨g, 0, none⟩ = some v := by
    rw [cell_of_row _ _ _ _ _ _ hb]
    show cs.toArray[0]? = some v
    simpa using hv
  have hr : (execOp a.eval o).run E.P w = .ok (.value v) w := by
    simp [execOp, hop, hx', Instr.loadAt, Instr.sureAddr, run_loadVar_one (w := w) e2 e3 _ _ hc]
  refine upon_of_value hr ?_
  rw [hd.1]
  exact ⟨_, ⟨_, hW, hT.put (v := .v v) hd.lt trivial⟩, hnext⟩

end

end Go.Sx

namespace Go.Sx

open Go Go.RowKit

theorem bundle_st (G : List Fct) (w w' : World) (hb : ∀ b, (∃ f ∈ G, f.foot b) → w'.heap[b]? = w.heap[b]?) (h : ∀ f ∈ G, f.P w) : ∀ f ∈ G, f.P w' :=
  fun f hf => f.st w w' (fun b hfb => hb b ⟨f, hf, hfb⟩) (h f hf)

/-- All of G hold; nobody writes what they read. -/
abbrev fB (old : Bool) (G : List Fct) : Fct := .other old false (fun b => ∃ f ∈ G, f.foot b) (fun w => ∀ f ∈ G, f.P w) (bundle_st G)

section

variable {E : Env} {A : Nat → Nat} {T : List (Nat × SV)} {n c : Nat} {B : List (Nat × TypeId × Nat)} {M Ms : List ((Nat × Nat) × SV)} {F Fs : List Fct} {o : Oper} {next : St → Prop} {w : World}

/-- What goes into a bundle: a fresh row's reading, a fresh reading, a fresh bundle. -/
inductive DerB : Fct → List Fct → Prop
  | own {i : Sl} {e sz n : Nat} {cs : List Value} : DerB (fOwn false i e sz cs n) [fSl false i sz cs n]
  | sl {i : Sl} {sz n : Nat} {cs : List Value} : DerB (fSl false i sz cs n) [fSl false i sz cs n]
  | b {G : List Fct} : DerB (fB false G) G

theorem DerB.out {f : Fct} {G : List Fct} (h : DerB f G) : f.old = false ∧ (∀ w, f.P w → ∀ g ∈ G, g.P w) ∧ ∀ g ∈ G, ∀ b, g.foot b → f.foot b := by
  cases h with
  | own => exact ⟨rfl, fun w h g hg => by obtain rfl := List.mem_singleton.1 hg; exact own_rd h, fun g hg b hb => by obtain rfl := List.mem_singleton.1 hg; exact hb.2⟩
  | sl => exact ⟨rfl, fun w h g hg => by obtain rfl := List.mem_singleton.1 hg; exact h, fun g hg b hb => by obtain rfl := List.mem_singleton.1 hg; exact hb⟩
  | b => exact ⟨rfl, fun w h g hg => h g hg, fun g hg b hb => ⟨g, hg, hb⟩⟩

/-- A reading as a callee takes it. -/
def Fct.aged : Fct → Fct
  | .sl _ i sz cs n => .sl true i sz cs n
  | .own _ i _ sz cs n => .sl true i sz cs n
  | .other _ _ foot P st => .other true false foot P st

theorem Fct.aged_out : ∀ (f : Fct), (∀ w, f.P w → f.aged.P w) ∧ ∀ b, f.aged.foot b → f.foot b
  | .sl .. => ⟨fun _ h => h, fun _ h => h⟩
  | .own .. => ⟨fun _ h => own_rd h, fun _ h => h.2⟩
  | .other .. => ⟨fun _ h => h, fun _ h => h⟩

end

end Go.Sx

namespace Go.Sx

open Go Go.RowKit

/-- Who knows f may read g. -/
structure Rd (f g : Fct) : Prop where
  p : ∀ w, f.P w → g.P w
  foot : ∀ b, g.foot b → f.foot b

theorem Rd.refl (f : Fct) : Rd f f := ⟨fun _ h => h, fun _ h => h⟩

theorem Rd.trans {f g e : Fct} (h : Rd f g) (k : Rd g e) : Rd f e := ⟨fun w x => k.p w (h.p w x), fun b x => h.foot b (k.foot b x)⟩

theorem Rd.aged (f : Fct) : Rd f f.aged := ⟨f.aged_out.1, f.aged_out.2⟩

theorem Rd.sl {o o' : Bool} {i : Sl} {sz n : Nat} {cs : List Value} : Rd (fSl o i sz cs n) (fSl o' i sz cs n) := ⟨fun _ h => h, fun _ h => h⟩

theorem Rd.own {o o' : Bool} {i : Sl} {e sz n : Nat} {cs : List Value} : Rd (fOwn o i e sz cs n) (fSl o' i sz cs n) := ⟨fun _ h => own_rd h, fun _ h => h.2⟩

theorem ob_st (G : List Fct) (w w' : World) (hb : ∀ b, (∃ f ∈ G, f.foot b) → w'.heap[b]? = w.heap[b]?) (h : (∀ f ∈ G, f.P w ∧ f.isOwn = true ∧ f.old = false) ∧ G.Pairwise Dj) : (∀ f ∈ G, f.P w' ∧ f.isOwn = true ∧ f.old = false) ∧ G.Pairwise Dj :=
  ⟨fun f hf => ⟨f.st w w' (fun b hfb => hb b ⟨f, hf, hfb⟩) (h.1 f hf).1, (h.1 f hf).2⟩, h.2⟩

/-- Rows of the call's own, all of G, no two of which meet. -/
abbrev fO (G : List Fct) : Fct := .other false true (fun b => ∃ f ∈ G, f.foot b) (fun w => (∀ f ∈ G, f.P w ∧ f.isOwn = true ∧ f.old = false) ∧ G.Pairwise Dj) (ob_st G)

/-- The readings of rows, as a callee takes them. -/
abbrev fR (G : List Fct) : Fct := fB true (G.map Fct.aged)

/-- A reading of one of these. -/
def RdIn (G : List Fct) (g : Fct) : Prop := ∃ f ∈ G, Rd f.aged g

theorem RdIn.own {G : List Fct} {o o' : Bool} {i : Sl} {e sz n : Nat} {cs : List Value} (h : fOwn o i e sz cs n ∈ G) : RdIn G (fSl o' i sz cs n) := ⟨_, h, Rd.sl⟩

theorem Rd.ofR {G : List Fct} {g : Fct} (h : RdIn G g) : Rd (fR G) g := by
  obtain ⟨f, hf, h⟩ := h
  exact ⟨fun w hw => h.p w (hw _ (List.mem_map_of_mem hf)), fun b hb => ⟨_, List.mem_map_of_mem hf, h.foot b hb⟩⟩

theorem Rd.O_R {G G' : List Fct} (h : ∀ g ∈ G', g ∈ G) : Rd (fO G) (fR G') := by
  refine ⟨fun w hw g hg => ?_, ?_⟩
  · obtain ⟨f, hf, rfl⟩ := List.mem_map.1 hg
    exact f.aged_out.1 w (hw.1 f (h f hf)).1
  · rintro b ⟨g, hg, hb⟩
    obtain ⟨f, hf, rfl⟩ := List.mem_map.1 hg
    exact ⟨f, h f hf, f.aged_out.2 b hb⟩

theorem Rd.R_R {G G' : List Fct} (h : ∀ g ∈ G', g ∈ G) : Rd (fR G) (fR G') := by
  refine ⟨fun w hw g hg => ?_, ?_⟩
  · obtain ⟨f, hf, rfl⟩ := List.mem_map.1 hg
    exact hw _ (List.mem_map_of_mem (h f hf))
  · rintro b ⟨g, hg, hb⟩
    obtain ⟨f, hf, rfl⟩ := List.mem_map.1 hg
    exact ⟨_, List.mem_map_of_mem (h f hf), hb⟩

/-- Wherever F stands, F' stands. -/
def Shift (F F' : List Fct) : Prop := ∀ (E : Env) (A : Nat → Nat) (n : Nat) (B : List (Nat × TypeId × Nat)) (M : List ((Nat × Nat) × SV)) (w : World), WD E A n B M F w → WD E A n B M F' w

theorem Shift.trans {F F' F'' : List Fct} (h : Shift F F') (k : Shift F' F'') : Shift F F'' := fun E A n B M w x => k E A n B M w (h E A n B M w x)

/-- What goes into a bundle of own rows. -/
inductive DerO : Fct → List Fct → Prop
  | own {i : Sl} {e sz n : Nat} {cs : List Value} : DerO (fOwn false i e sz cs n) [fOwn false i e sz cs n]
  | o {G : List Fct} : DerO (fO G) G

theorem DerO.out {f : Fct} {G : List Fct} (h : DerO f G) : (∀ w, f.P w → (∀ g ∈ G, g.P w ∧ g.isOwn = true ∧ g.old = false) ∧ G.Pairwise Dj) ∧ (∀ g ∈ G, ∀ b, g.foot b → f.foot b) ∧ f.isOwn = true ∧ f.old = false := by
  cases h with
  | own => exact ⟨fun w h => ⟨fun g hg => by obtain rfl := List.mem_singleton.1 hg; exact ⟨h, rfl, rfl⟩, List.pairwise_singleton _ _⟩, fun g hg b hb => by obtain rfl := List.mem_singleton.1 hg; exact hb, rfl, rfl⟩
  | o => exact ⟨fun w h => h, fun g hg b hb => ⟨g, hg, hb⟩, rfl, rfl⟩

/-- Each by its number; a number too great by far stands for rows that are nil. -/
def FJ (F : List Fct) : List Nat → List (List Fct) → Prop
  | [], [] => True
  | j :: jx, G :: r => ((∃ f, F[j]? = some f ∧ DerO f G) ∨ (F.length ≤ j ∧ ∀ g ∈ G, nilFact g)) ∧ FJ F jx r
  | _, _ => False

theorem nil_foot {g : Fct} (h : nilFact g) : ∀ b, ¬ g.foot b := by
  cases g with
  | own old i e sz cs n => obtain ⟨_, rfl, _⟩ := h; rintro b ⟨ad, h, _⟩; cases h
  | _ => exact h.elim

theorem nil_own {g : Fct} (h : nilFact g) : g.isOwn = true := by
  cases g with
  | own => rfl
  | _ => exact h.elim

theorem nil_pairwise {G : List Fct} (h : ∀ g ∈ G, nilFact g) : G.Pairwise Dj := by
  rw [List.pairwise_iff_getElem]
  intro i j hi hj _ _ b hb
  exact (nil_foot (h _ (List.getElem_mem hi)) b hb).elim

theorem FJ_len {F : List Fct} : ∀ {ix : List Nat} {Gs : List (List Fct)}, FJ F ix Gs → ix.length = Gs.length
  | [], [], _ => rfl
  | [], _ :: _, h => h.elim
  | _ :: _, [], h => h.elim
  | _ :: _, _ :: _, h => by simp [FJ_len h.2]

theorem FJ_get {F : List Fct} : ∀ {ix : List Nat} {Gs : List (List Fct)}, FJ F ix Gs → ∀ (p j : Nat) (G : List Fct), ix[p]? = some j → Gs[p]? = some G → (∃ f, F[j]? = some f ∧ DerO f G) ∨ ∀ g ∈ G, nilFact g
  | [], _, _, p, j, G, h, _ => by simp at h
  | _ :: _, [], h, _, _, _, _, _ => h.elim
  | i :: ix, G :: r, h, p, j, G', h1, h2 => by
    cases p with
    | zero =>
      simp at h1 h2
      subst h1; subst h2
      exact h.1.imp id (·.2)
    | succ p => exact FJ_get h.2 p j G' (by simpa using h1) (by simpa using h2)

section

variable {E : Env} {A : Nat → Nat} {T : List (Nat × SV)} {n c : Nat} {B : List (Nat × TypeId × Nat)} {M Ms : List ((Nat × Nat) × SV)} {F F' Fs : List Fct} {o : Oper} {next : St → Prop} {w : World}

theorem Shift.splitO (k : Nat) {L G G' : List Fct} (hk : F[k]? = some (fO G)) (hp : G.Perm (L ++ G')) : Shift F (L ++ fO G' :: F.eraseIdx k) := by
  intro E A n B M w h
  obtain ⟨⟨h1, hpw⟩, h2, h3⟩ := h.fct _ (List.mem_of_getElem? hk)
  have hsub := h.sub (eraseIdx_sub F k)
  have hdj := pairwise_nth_erase h.dj hk
  have hpw' := (hp.pairwise_iff (fun h => Dj.symm h)).1 hpw
  rw [List.pairwise_append] at hpw'
  obtain ⟨q1, q2, q3⟩ := hpw'
  have hL : ∀ f ∈ L, f ∈ G := fun f hf => hp.mem_iff.2 (List.mem_append_left _ hf)
  have hG' : ∀ f ∈ G', f ∈ G := fun f hf => hp.mem_iff.2 (List.mem_append_right _ hf)
  refine ⟨h.key, h.inj, h.mem, h.a0, h.n0, h.ext, fun f hf => ?_, ?_⟩
  · rcases List.mem_append.1 hf with hf | hf
    · exact ⟨(h1 f (hL f hf)).1, fun b hb => h2 b ⟨f, hL f hf, hb⟩, fun _ b hb => h3 rfl b ⟨f, hL f hf, hb⟩⟩
    · rcases List.mem_cons.1 hf with rfl | hf
      · refine ⟨⟨fun g hg => h1 g (hG' g hg), q2⟩, ?_, ?_⟩
        · rintro b ⟨g, hg, hb⟩; exact h2 b ⟨g, hG' g hg, hb⟩
        · rintro _ b ⟨g, hg, hb⟩; exact h3 rfl b ⟨g, hG' g hg, hb⟩
      · exact hsub.fct f hf
  · rw [List.pairwise_append]
    refine ⟨q1, ?_, fun f hf g hg ho b hb hb' => ?_⟩
    · rw [List.pairwise_cons]
      refine ⟨fun f hf ho b hb hb' => ?_, hsub.dj⟩
      obtain ⟨g, hg, hgb⟩ := hb
      exact hdj f hf (.inl rfl) b ⟨g, hG' g hg, hgb⟩ hb'
    · rcases List.mem_cons.1 hg with rfl | hg
      · obtain ⟨g, hg, hgb⟩ := hb'
        exact q3 f hf g hg (.inl (h1 f (hL f hf)).2.1) b hb hgb
      · exact hdj g hg (.inl rfl) b ⟨f, hL f hf, hb⟩ hb'

theorem Shift.joinO (ix : List Nat) {Gs : List (List Fct)} (hG : FJ F ix Gs) (hix : nodupB ix = true) {G : List Fct} (hp : Gs.flatten.Perm G) : Shift F (fO G :: dropAt ix 0 F) := by
  intro E A n B M w h
  have hsub := h.sub (dropAt_sub ix F 0)
  have hnd := nodupB_ok hix
  have hlen := FJ_len hG
  have hmem : ∀ g ∈ Gs.flatten, g.isOwn = true ∧ g.old = false ∧ ((∃ i ∈ ix, ∃ f, F[i]? = some f ∧ f.isOwn = true ∧ f.old = false ∧ g.P w ∧ ∀ b, g.foot b → f.foot b) ∨ nilFact g) := by
    intro g hg
    obtain ⟨G0, h0, hg0⟩ := List.mem_flatten.1 hg
    obtain ⟨p, hpp⟩ := List.getElem?_of_mem h0
    have hplt : p < ix.length := by rw [hlen]; exact (List.getElem?_eq_some_iff.1 hpp).1
    rcases FJ_get hG p ix[p] G0 (List.getElem?_eq_getElem hplt) hpp with ⟨f, hf, hd⟩ | hn
    · obtain ⟨d1, d2, d3, d4⟩ := hd.out
      have hfw := (h.nth _ hf).1
      exact ⟨((d1 w hfw).1 g hg0).2.1, ((d1 w hfw).1 g hg0).2.2, .inl ⟨_, List.getElem_mem hplt, f, hf, d3, d4, ((d1 w hfw).1 g hg0).1, d2 g hg0⟩⟩
    · exact ⟨nil_own (hn g hg0), (nilFact_ok (hn g hg0) w).2.2, .inr (hn g hg0)⟩
  have hpw : Gs.flatten.Pairwise Dj := by
    rw [List.pairwise_flatten]
    refine ⟨fun l hl => ?_, ?_⟩
    · obtain ⟨p, hpp⟩ := List.getElem?_of_mem hl
      have hplt : p < ix.length := by rw [hlen]; exact (List.getElem?_eq_some_iff.1 hpp).1
      rcases FJ_get hG p ix[p] l (List.getElem?_eq_getElem hplt) hpp with ⟨f, hf, hd⟩ | hn
      · exact (hd.out.1 w (h.nth _ hf).1).2
      · exact nil_pairwise hn
    · rw [List.pairwise_iff_getElem]
      intro p q hp' hq' hpq x hx y hy _ b hb hb'
      have hpi : p < ix.length := by rw [hlen]; exact hp'
      have hqi : q < ix.length := by rw [hlen]; exact hq'
      rcases FJ_get hG p ix[p] _ (List.getElem?_eq_getElem hpi) (List.getElem?_eq_getElem hp') with ⟨f, hf, hd⟩ | hn
      · rcases FJ_get hG q ix[q] _ (List.getElem?_eq_getElem hqi) (List.getElem?_eq_getElem hq') with ⟨f', hf', hd'⟩ | hn
        · have hne : ix[p] ≠ ix[q] := List.pairwise_iff_getElem.1 hnd p q hpi hqi hpq
          exact pairwise_pick h.dj hne hf hf' (.inl hd.out.2.2.1) b (hd.out.2.1 x hx b hb) (hd'.out.2.1 y hy b hb')
        · exact nil_foot (hn y hy) b hb'
      · exact nil_foot (hn x hx) b hb
  have hm' : ∀ g ∈ G, g ∈ Gs.flatten := fun g hg => hp.mem_iff.2 hg
  refine ⟨hsub.key, hsub.inj, hsub.mem, hsub.a0, hsub.n0, hsub.ext, fun f hf => ?_, ?_⟩
  · rcases List.mem_cons.1 hf with rfl | hf
    · refine ⟨⟨fun g hg => ?_, (hp.pairwise_iff (fun h => Dj.symm h)).1 hpw⟩, ?_, ?_⟩
      · obtain ⟨m1, m2, m3⟩ := hmem g (hm' g hg)
        refine ⟨?_, m1, m2⟩
        rcases m3 with ⟨i, _, f, _, _, _, hgP, _⟩ | hn
        · exact hgP
        · exact (nilFact_ok hn w).1
      · rintro b ⟨g, hg, hb⟩
        rcases (hmem g (hm' g hg)).2.2 with ⟨i, _, f, hf, _, _, _, hfoot⟩ | hn
        · exact (h.fct _ (List.mem_of_getElem? hf)).2.1 b (hfoot b hb)
        · exact (nil_foot hn b hb).elim
      · rintro _ b ⟨g, hg, hb⟩
        rcases (hmem g (hm' g hg)).2.2 with ⟨i, _, f, hf, _, hold, _, hfoot⟩ | hn
        · exact (h.fct _ (List.mem_of_getElem? hf)).2.2 hold b (hfoot b hb)
        · exact (nil_foot hn b hb).elim
    · exact hsub.fct f hf
  · rw [List.pairwise_cons]
    refine ⟨fun r hr ho b hb hb' => ?_, hsub.dj⟩
    obtain ⟨g, hg, hgb⟩ := hb
    rcases (hmem g (hm' g hg)).2.2 with ⟨i, hi, f, hf, hown, _, _, hfoot⟩ | hn
    · obtain ⟨j, hj1, hj2⟩ := dropAt_at ix F 0 r hr
      rw [Nat.zero_add] at hj2
      exact pairwise_pick h.dj (fun e => hj2 (by rw [← e]; exact hi)) hf hj1 (.inl hown) b (hfoot b hgb) hb'
    · exact nil_foot hn b hgb

/-- Facts are dropped. -/
theorem Shift.pick (ix : List Nat) (hF : FW F ix F') (hix : nodupB ix = true) : Shift F F' := fun _ _ _ _ _ _ h => h.pick ix hF hix

theorem stop_shift (h : Shift F F') (k : OpW (opStop E o next T n c B M F')) : OpW (opStop E o next T n c B M F) := ⟨fun A a w hW hT => k.out A a w (h E A n B M w hW) hT⟩

theorem weak_shift {s : St} (h : Shift F F') (k : Weak E (.mk T n c B M F') s) : Weak E (.mk T n c B M F) s := fun a w ⟨A, hW, hT⟩ => k a w ⟨A, h E A n B M w hW, hT⟩

theorem ret_shift {X : (Nat → Nat) → World → Prop} (h : Shift F F') (k : RetW (∀ A w, WD E A n B M F' w → X A w)) : RetW (∀ A w, WD E A n B M F w → X A w) := ⟨fun A w hW => k.out A w (h E A n B M w hW)⟩

/-- A fact for a call, read out of fact k. -/
theorem WD.get (h : WD E A n B M F w) (k : Nat) {f g : Fct} (hk : F[k]? = some f) (r : Rd f g) : g.P w ∧ ∀ b, g.foot b → b < w.heap.size :=
  ⟨r.p w (h.nth k hk).1, fun b hb => (h.nth k hk).2 b (r.foot b hb)⟩

theorem rdVia {F : List Fct} (k : Nat) {f : Fct} (hk : F[k]? = some f) {o : Bool} {i : Sl} {sz m : Nat} {cs : List Value} (r : Rd f (fSl o i sz cs m)) : ∀ w, (∀ f ∈ F, f.P w) → RdS w i sz cs m :=
  fun w h => r.p w (h f (List.mem_of_getElem? hk))

end

end Go.Sx

namespace Go.Proofs.Ytpopeaoklccgcaa

open Go Go.Sx Go.RowKit

structure Waiter where
  t : Int
  n : Int
  deriving DecidableEq

def cWaiter (l : Waiter) : List Value := [.int .i64 l.t, .int .i64 l.n]

theorem encWaiter : Enc cWaiter 2 := ⟨fun _ => rfl, fun _ u hu => by simp [cWaiter] at hu; rcases hu with rfl | rfl <;> rfl⟩

structure Sem where
  free : Int
  limit : Int
  queue : List Waiter
  deriving DecidableEq

structure Once where
  state : Int
  owner : Int
  value : Int
  waits : List Int
  deriving DecidableEq

structure Group where
  count : Int
  waits : List Int
  deriving DecidableEq

structure Barrier where
  parties : Int
  round : Int
  waits : List Int
  deriving DecidableEq

def semV (m : Sem) (q : Sl) : Value := .agg #[.int .i64 m.free, .int .i64 m.limit, q.val m.queue.length]

def onceV (m : Once) (q : Sl) : Value := .agg #[.int .i64 m.state, .int .i64 m.owner, .int .i64 m.value, q.val m.waits.length]

def groupV (m : Group) (q : Sl) : Value := .agg #[.int .i64 m.count, q.val m.waits.length]

def barrierV (m : Barrier) (q : Sl) : Value := .agg #[.int .i64 m.parties, .int .i64 m.round, q.val m.waits.length]

/-- A row and the rows of its elements. -/
def nestO {α : Type} (h : Sl) (ty : TypeId) (enc : α → List Value) (sz : Nat) (inner : α → List Fct) (xs : List α) : List Fct := own h ty enc sz xs :: xs.flatMap inner

theorem nest_in {α : Type} {h : Sl} {ty : TypeId} {enc : α → List Value} {sz : Nat} {inner : α → List Fct} {xs : List α} {j : Nat} (hj : j < xs.length) {f : Fct} (hf : f ∈ inner xs[j]) : f ∈ nestO h ty enc sz inner xs :=
  List.mem_cons_of_mem _ (List.mem_flatMap.2 ⟨_, List.getElem_mem hj, hf⟩)

theorem nest_h {α : Type} {h : Sl} {ty : TypeId} {enc : α → List Value} {sz : Nat} {inner : α → List Fct} {xs : List α} : RdIn (nestO h ty enc sz inner xs) (slo h enc sz xs) := RdIn.own (List.mem_cons_self ..)

structure SemH where
  m : Sem
  q : Sl

structure OnceH where
  m : Once
  q : Sl

structure GroupH where
  m : Group
  q : Sl

structure BarrierH where
  m : Barrier
  q : Sl

structure ChanH where
  m : Chan
  q0 : Sl
  q1 : Sl
  q2 : Sl

def cSemH (x : SemH) : List Value := [.int .i64 x.m.free, .int .i64 x.m.limit, x.q.val x.m.queue.length]

def cOnceH (x : OnceH) : List Value := [.int .i64 x.m.state, .int .i64 x.m.owner, .int .i64 x.m.value, x.q.val x.m.waits.length]

def cGroupH (x : GroupH) : List Value := [.int .i64 x.m.count, x.q.val x.m.waits.length]

def cBarrierH (x : BarrierH) : List Value := [.int .i64 x.m.parties, .int .i64 x.m.round, x.q.val x.m.waits.length]

def cChanH (x : ChanH) : List Value := [.int .i64 x.m.room, x.q0.val x.m.items.length, x.q1.val x.m.senders.length, x.q2.val x.m.getters.length, .bool x.m.closed]

theorem encSemH : Enc cSemH 3 := ⟨fun _ => rfl, fun _ u hu => by simp [cSemH] at hu; rcases hu with rfl | rfl | rfl <;> rfl⟩

theorem encOnceH : Enc cOnceH 4 := ⟨fun _ => rfl, fun _ u hu => by simp [cOnceH] at hu; rcases hu with rfl | rfl | rfl | rfl <;> rfl⟩

theorem encGroupH : Enc cGroupH 2 := ⟨fun _ => rfl, fun _ u hu => by simp [cGroupH] at hu; rcases hu with rfl | rfl <;> rfl⟩

theorem encBarrierH : Enc cBarrierH 3 := ⟨fun _ => rfl, fun _ u hu => by simp [cBarrierH] at hu; rcases hu with rfl | rfl | rfl <;> rfl⟩

theorem encChanH : Enc cChanH 5 := ⟨fun _ => rfl, fun _ u hu => by simp [cChanH] at hu; rcases hu with rfl | rfl | rfl | rfl | rfl <;> rfl⟩

def semO (x : SemH) : List Fct := [own x.q 159 cWaiter 2 x.m.queue]

def onceO (x : OnceH) : List Fct := [own x.q 3 cInt 1 x.m.waits]

def groupO (x : GroupH) : List Fct := [own x.q 3 cInt 1 x.m.waits]

def barrierO (x : BarrierH) : List Fct := [own x.q 3 cInt 1 x.m.waits]

def chanO (x : ChanH) : List Fct := [own x.q0 3 cInt 1 x.m.items, own x.q1 161 cLet 2 x.m.senders, own x.q2 3 cInt 1 x.m.getters]

def semsO (h : Sl) (xs : List SemH) : List Fct := nestO h 85 cSemH 3 semO xs

def oncesO (h : Sl) (xs : List OnceH) : List Fct := nestO h 89 cOnceH 4 onceO xs

def groupsO (h : Sl) (xs : List GroupH) : List Fct := nestO h 93 cGroupH 2 groupO xs

def barriersO (h : Sl) (xs : List BarrierH) : List Fct := nestO h 70 cBarrierH 3 barrierO xs

def chansO (h : Sl) (xs : List ChanH) : List Fct := nestO h 74 cChanH 5 chanO xs

theorem semsO_0 (h : Sl) (xs : List SemH) (j : Nat) (hj : j < xs.length) : RdIn (semsO h xs) (slo (xs[j]).q cWaiter 2 (xs[j]).m.queue) := RdIn.own (nest_in hj (List.mem_cons_self ..))

theorem oncesO_0 (h : Sl) (xs : List OnceH) (j : Nat) (hj : j < xs.length) : RdIn (oncesO h xs) (slo (xs[j]).q cInt 1 (xs[j]).m.waits) := RdIn.own (nest_in hj (List.mem_cons_self ..))

theorem groupsO_0 (h : Sl) (xs : List GroupH) (j : Nat) (hj : j < xs.length) : RdIn (groupsO h xs) (slo (xs[j]).q cInt 1 (xs[j]).m.waits) := RdIn.own (nest_in hj (List.mem_cons_self ..))

theorem barriersO_0 (h : Sl) (xs : List BarrierH) (j : Nat) (hj : j < xs.length) : RdIn (barriersO h xs) (slo (xs[j]).q cInt 1 (xs[j]).m.waits) := RdIn.own (nest_in hj (List.mem_cons_self ..))

theorem chansO_0 (h : Sl) (xs : List ChanH) (j : Nat) (hj : j < xs.length) : RdIn (chansO h xs) (slo (xs[j]).q0 cInt 1 (xs[j]).m.items) := RdIn.own (nest_in hj (List.mem_cons_self ..))

theorem chansO_1 (h : Sl) (xs : List ChanH) (j : Nat) (hj : j < xs.length) : RdIn (chansO h xs) (slo (xs[j]).q1 cLet 2 (xs[j]).m.senders) := RdIn.own (nest_in hj (List.mem_cons_of_mem _ (List.mem_cons_self ..)))

theorem chansO_2 (h : Sl) (xs : List ChanH) (j : Nat) (hj : j < xs.length) : RdIn (chansO h xs) (slo (xs[j]).q2 cInt 1 (xs[j]).m.getters) := RdIn.own (nest_in hj (List.mem_cons_of_mem _ (List.mem_cons_of_mem _ (List.mem_cons_self ..))))

/-- What is left behind all of a list. -/
def szList {α : Type} (f : α → Int → Int) : List α → Int → Int
  | [], l => l
  | x :: r, l => if f x l < 0 then -1 else szList f r (f x l)

def szAll {α : Type} (f : α → Int → Int) (xs : List α) (l : Int) : Int := if l - xs.length < 0 then -1 else szList f xs (l - xs.length)

theorem szList_all {α : Type} {f : α → Int → Int} {P : α → Prop} (hf : ∀ x l, l ≤ 1048576 → ¬ f x l < 0 → P x ∧ f x l ≤ l) : ∀ {xs : List α} {l : Int}, l ≤ 1048576 → ¬ szList f xs l < 0 → (∀ x ∈ xs, P x) ∧ szList f xs l ≤ l
  | [], l, hl, h => ⟨by simp, Int.le_refl _⟩
  | x :: r, l, hl, h => by
    simp only [szList] at h ⊢
    split at h
    · omega
    · rename_i h1
      obtain ⟨g1, g2⟩ := hf x l hl h1
      obtain ⟨k1, k2⟩ := szList_all hf (Int.le_trans g2 hl) h
      rw [if_neg h1]
      refine ⟨fun y hy => ?_, Int.le_trans k2 g2⟩
      rcases List.mem_cons.1 hy with rfl | hy
      · exact g1
      · exact k1 y hy

theorem szAll_all {α : Type} {f : α → Int → Int} {P : α → Prop} (hf : ∀ x l, l ≤ 1048576 → ¬ f x l < 0 → P x ∧ f x l ≤ l) {xs : List α} {l : Int} (hl : l ≤ 1048576) (h : ¬ szAll f xs l < 0) : xs.length ≤ 1048576 ∧ (∀ x ∈ xs, P x) ∧ szAll f xs l ≤ l := by
  unfold szAll at h ⊢
  split at h
  · omega
  · rename_i h1
    obtain ⟨k1, k2⟩ := szList_all hf (l := l - xs.length) (by omega) h
    rw [if_neg h1]
    exact ⟨by omega, k1, by omega⟩

theorem map_take_succ {α β : Type} {f : α → β} {xs : List α} {ys : List β} {k : Nat} (hk : k < xs.length) (h : ys = (xs.map f).take k) {y : β} (hy : y = f xs[k]) : ys ++ [y] = (xs.map f).take (k + 1) := by
  subst hy; subst h
  rw [List.take_succ_eq_append_getElem (by simpa using hk), List.getElem_map]

end Go.Proofs.Ytpopeaoklccgcaa

namespace Go.Proofs.Ytpopeaoklccgcaa

open Go Go.Sx Go.RowKit

structure Op where
  kind : Int
  on : Int
  arg : Int
  deriving DecidableEq

def cOp (l : Op) : List Value := [.int .i64 l.kind, .int .i64 l.on, .int .i64 l.arg]

theorem encOp : Enc cOp 3 := ⟨fun _ => rfl, fun _ u hu => by simp [cOp] at hu; rcases hu with rfl | rfl | rfl <;> rfl⟩

def Op0 : Op := ⟨0, 0, 0⟩

structure OpSH where
  m : List Op
  q : Sl

def cOpSH (x : OpSH) : List Value := [x.q.val x.m.length]

theorem encOpSH : Enc cOpSH 1 := ⟨fun _ => rfl, fun _ u hu => by simp [cOpSH] at hu; subst hu; rfl⟩

def opSO (x : OpSH) : List Fct := [own x.q 111 cOp 3 x.m]

def threadsO (h : Sl) (xs : List OpSH) : List Fct := nestO h 49 cOpSH 1 opSO xs

theorem threadsO_0 (h : Sl) (xs : List OpSH) (j : Nat) (hj : j < xs.length) : RdIn (threadsO h xs) (slo (xs[j]).q cOp 3 (xs[j]).m) := RdIn.own (nest_in hj (List.mem_cons_self ..))

structure Prog where
  sems : List Int
  groups : List Int
  barriers : List Int
  rooms : List Int
  threads : List (List Op)
  deriving DecidableEq

structure ProgH where
  sems : List Int
  groups : List Int
  barriers : List Int
  rooms : List Int
  threads : List OpSH
  h0 : Sl
  h1 : Sl
  h2 : Sl
  h3 : Sl
  h4 : Sl

def ProgH.pure (s : ProgH) : Prog := ⟨s.sems, s.groups, s.barriers, s.rooms, s.threads.map (·.m)⟩

def progV (s : ProgH) : Value := .agg #[s.h0.val s.sems.length, s.h1.val s.groups.length, s.h2.val s.barriers.length, s.h3.val s.rooms.length, s.h4.val s.threads.length]

def progO (s : ProgH) : List Fct := own s.h0 3 cInt 1 s.sems :: own s.h1 3 cInt 1 s.groups :: own s.h2 3 cInt 1 s.barriers :: own s.h3 3 cInt 1 s.rooms :: threadsO s.h4 s.threads

theorem progO_sems (s : ProgH) : RdIn (progO s) (slo s.h0 cInt 1 s.sems) := RdIn.own (o := false) (e := 3) (by simp [progO])

theorem progO_groups (s : ProgH) : RdIn (progO s) (slo s.h1 cInt 1 s.groups) := RdIn.own (o := false) (e := 3) (by simp [progO])

theorem progO_barriers (s : ProgH) : RdIn (progO s) (slo s.h2 cInt 1 s.barriers) := RdIn.own (o := false) (e := 3) (by simp [progO])

theorem progO_rooms (s : ProgH) : RdIn (progO s) (slo s.h3 cInt 1 s.rooms) := RdIn.own (o := false) (e := 3) (by simp [progO])

theorem progO_threads (s : ProgH) : ∀ g ∈ threadsO s.h4 s.threads, g ∈ progO s := fun g hg => by simp [progO, hg]

structure State where
  places : List Int
  status : List Int
  sems : List Sem
  onces : List Once
  groups : List Group
  barriers : List Barrier
  chans : List Chan
  said : List Int
  fault : Int
  deriving DecidableEq

structure StateH where
  places : List Int
  status : List Int
  sems : List SemH
  onces : List OnceH
  groups : List GroupH
  barriers : List BarrierH
  chans : List ChanH
  said : List Int
  fault : Int
  h0 : Sl
  h1 : Sl
  h2 : Sl
  h3 : Sl
  h4 : Sl
  h5 : Sl
  h6 : Sl
  h7 : Sl

def StateH.pure (s : StateH) : State := ⟨s.places, s.status, s.sems.map (·.m), s.onces.map (·.m), s.groups.map (·.m), s.barriers.map (·.m), s.chans.map (·.m), s.said, s.fault⟩

def stateV (s : StateH) : Value := .agg #[s.h0.val s.places.length, s.h1.val s.status.length, s.h2.val s.sems.length, s.h3.val s.onces.length, s.h4.val s.groups.length, s.h5.val s.barriers.length, s.h6.val s.chans.length, s.h7.val s.said.length, .int .i64 s.fault]

def stateO (s : StateH) : List Fct := own s.h0 3 cInt 1 s.places :: own s.h1 3 cInt 1 s.status :: (semsO s.h2 s.sems ++ (oncesO s.h3 s.onces ++ (groupsO s.h4 s.groups ++ (barriersO s.h5 s.barriers ++ (chansO s.h6 s.chans ++ [own s.h7 3 cInt 1 s.said])))))

theorem stateO_places (s : StateH) : RdIn (stateO s) (slo s.h0 cInt 1 s.places) := RdIn.own (o := false) (e := 3) (by simp [stateO])

theorem stateO_status (s : StateH) : RdIn (stateO s) (slo s.h1 cInt 1 s.status) := RdIn.own (o := false) (e := 3) (by simp [stateO])

theorem stateO_said (s : StateH) : RdIn (stateO s) (slo s.h7 cInt 1 s.said) := RdIn.own (o := false) (e := 3) (by simp [stateO])

theorem stateO_sems (s : StateH) : ∀ g ∈ semsO s.h2 s.sems, g ∈ stateO s := fun g hg => by simp [stateO, hg]

theorem stateO_onces (s : StateH) : ∀ g ∈ oncesO s.h3 s.onces, g ∈ stateO s := fun g hg => by simp [stateO, hg]

theorem stateO_groups (s : StateH) : ∀ g ∈ groupsO s.h4 s.groups, g ∈ stateO s := fun g hg => by simp [stateO, hg]

theorem stateO_barriers (s : StateH) : ∀ g ∈ barriersO s.h5 s.barriers, g ∈ stateO s := fun g hg => by simp [stateO, hg]

theorem stateO_chans (s : StateH) : ∀ g ∈ chansO s.h6 s.chans, g ∈ stateO s := fun g hg => by simp [stateO, hg]

/-- A part of a part. -/
theorem RdIn.sub {G G' : List Fct} {g : Fct} (h : RdIn G g) (hs : ∀ f ∈ G, f ∈ G') : RdIn G' g := by
  obtain ⟨f, hf, k⟩ := h
  exact ⟨f, hs f hf, k⟩

def szSeq (fs : List (Int → Int)) (l : Int) : Int := szList (fun f l => f l) fs l

/-- A list that is small, and whose elements are. -/
def allS {α : Type} (P : α → Prop) (xs : List α) : Prop := xs.length ≤ 1048576 ∧ ∀ x ∈ xs, P x

theorem szN_gen {k : Nat} {l : Int} (hl : l ≤ 1048576) (h : ¬ szN k l < 0) : k ≤ 1048576 ∧ szN k l ≤ l := by
  simp only [szN] at h ⊢
  omega

theorem szAll_gen {α : Type} {f : α → Int → Int} {P : α → Prop} (hf : ∀ x l, l ≤ 1048576 → ¬ f x l < 0 → P x ∧ f x l ≤ l) {xs : List α} {l : Int} (hl : l ≤ 1048576) (h : ¬ szAll f xs l < 0) : allS P xs ∧ szAll f xs l ≤ l := by
  obtain ⟨h1, h2, h3⟩ := szAll_all hf hl h
  exact ⟨⟨h1, h2⟩, h3⟩

theorem allS_map {α β : Type} {P : β → Prop} {f : α → β} {xs : List α} (h : allS P (xs.map f)) : xs.length ≤ 1048576 ∧ ∀ x ∈ xs, P (f x) :=
  ⟨by simpa using h.1, fun x hx => h.2 _ (List.mem_map_of_mem hx)⟩

theorem ret_abs {P : Program} {g : FuncId} {args : Array Value} {w : World} {x : Int} (h : Calls P g args w (Ret w fun v L => v = .int .i64 x ∧ L = [])) : Calls P g args w (Ret w fun v L => ∃ a, a = x ∧ v = .int .i64 a ∧ L = []) :=
  h.mono fun _ _ ⟨v, L, h1, h2, h3, h4, h5⟩ => ⟨v, L, h1, h2, h3, x, rfl, h4, h5⟩

end Go.Proofs.Ytpopeaoklccgcaa

namespace Go.Proofs.Ytpopeaoklccgcaa

open Go Go.Sx Go.RowKit

set_option maxRecDepth 100000 in
theorem szOpS_c (i : Sl) (xs : List Op) (left : Int) (w : World) (h : At w [slo i cOp 3 xs]) (h0 : -1 ≤ left) (h1 : left ≤ 1048576) :
    Calls Try.prog 124 #[i.val xs.length, .int .i64 left] w (Ret w fun v L => v = .int .i64 (szN xs.length left) ∧ L = []) := by
  obtain ⟨⟨⟨_, b1, b2, _⟩, _⟩, _⟩ := h
  unfold maxLen at b2
  have e : IntKind.i64.wrap (left - (xs.length : Int)) = left - xs.length := e_wrap (by omega) (by omega)
  refine calls2 Try.func124 rfl tabOk w _ rfl _ rfl [] trivial trivial _ _ (by decide) ?_
  refine CaseB.mk (fun h => ?_) (fun h => ?_)
  · rw [e] at h
    have h2 : left - (xs.length : Int) < 0 := by simpa using h
    exact retw [] ⟨by rw [szN, if_pos h2], rfl⟩ trivial rfl trivial (fun _ => rfl)
  · rw [e] at h
    have h2 : ¬ left - (xs.length : Int) < 0 := by simpa using h
    refine retw [] ⟨by rw [szN, if_neg h2], rfl⟩ trivial rfl trivial (fun _ => ?_)
    simp only [resV, SV.den, e]

set_option maxRecDepth 100000 in
theorem toOp_c (x : Op) (w : World) : Calls Try.prog 150 #[.agg (cOp x).toArray] w (Ret w fun v L => v = .agg (cOp x).toArray ∧ L = []) := by
  refine calls1 Try.func150 rfl tabOk w _ rfl _ rfl [] trivial trivial _ (by decide) ?_
  exact retw [] ⟨rfl, rfl⟩ trivial rfl trivial (fun _ => rfl)

set_option maxRecDepth 100000 in
theorem toOpS_c (i : Sl) (xs : List Op) (w : World) (h : At w [slo i cOp 3 xs]) (hb : xs.length ≤ 1048576) :
    Calls Try.prog 125 #[i.val xs.length] w (Ret w fun v L => ∃ y : Sl, v = y.val xs.length ∧ L = [own y 111 cOp 3 xs]) := by
  refine calls1 Try.func125 rfl tabOk w _ rfl _ rfl _ h ⟨rfl, rfl, trivial⟩ _ (by decide) ?_
  refine stop_make encOp Op0 tabOk rfl rfl rfl rfl rfl (by decide) ⟨rfl, rfl⟩ xs.length rfl (by first | omega | (simp; done) | (simp; omega) | (unfold maxLen; omega) | (unfold maxLen; simp; done) | (unfold maxLen; simp; omega)) (by first | omega | (simp; done) | (simp; omega) | (unfold maxLen; omega) | (unfold maxLen; simp; done) | (unfold maxLen; simp; omega)) (fun y => ?_)
  refine LoopW.mk ⟨{ k : Nat // k ≤ xs.length },
    fun k => .mk [(0, .v (i.val xs.length)), (3, .v (y.val (xs.take k.1 ++ List.replicate (xs.length - k.1) Op0).length)), (4, .v (.int .i64 (k.1 : Int)))] 0 0 [] [] [own y 111 cOp 3 (xs.take k.1 ++ List.replicate (xs.length - k.1) Op0), slo i cOp 3 xs],
    fun k => xs.length - k.1, ⟨0, Nat.zero_le _⟩, ?_, ?_⟩
  · refine weak_mk [0, 1] ?_ ?_ ?_ ?_ ?_ rfl rfl
    · repeat (first | exact trivial | refine ⟨⟨_, rfl, (by first | exact .of rfl | exact .lit rfl | exact .of (by first | ((simp))) | exact .lit (by first | ((simp)))), (by first | exact trivial | exact Nat.le_of_ble_eq_true rfl)⟩, ?_⟩)
    · repeat (first | exact trivial | refine ⟨⟨(by first | exact .head _ | exact .tail _ (.head _) | exact .tail _ (.tail _ (.head _)) | exact .tail _ (.tail _ (.tail _ (.head _))) | exact .tail _ (.tail _ (.tail _ (.tail _ (.head _)))) | exact .tail _ (.tail _ (.tail _ (.tail _ (.tail _ (.head _))))) | exact .tail _ (.tail _ (.tail _ (.tail _ (.tail _ (.tail _ (.head _)))))) | exact .tail _ (.tail _ (.tail _ (.tail _ (.tail _ (.tail _ (.tail _ (.head _))))))) | exact .tail _ (.tail _ (.tail _ (.tail _ (.tail _ (.tail _ (.tail _ (.tail _ (.head _)))))))) | exact .tail _ (.tail _ (.tail _ (.tail _ (.tail _ (.tail _ (.tail _ (.tail _ (.tail _ (.head _)))))))))), Nat.le_of_ble_eq_true rfl⟩, ?_⟩)
    · repeat (first | exact trivial | refine ⟨⟨_, rfl, (by first | exact .of rfl | exact .lit rfl | exact .of (by first | ((simp))) | exact .lit (by first | ((simp)))), (by first | exact trivial | exact Nat.le_of_ble_eq_true rfl)⟩, ?_⟩)
    · repeat (first | exact trivial | refine ⟨⟨_, rfl⟩, ?_⟩)
    · repeat (first | exact trivial | refine ⟨.inl ⟨_, rfl, (by first | rfl | ((simp)))⟩, ?_⟩ | refine ⟨.inr ⟨Nat.le_of_ble_eq_true rfl, rfl, rfl, rfl, rfl⟩, ?_⟩)
  · rintro ⟨k, hk⟩
    refine CaseB.mk (fun h => ?_) (fun h => ?_)
    · have hlt : k < xs.length := by simpa using h
      have hT : (xs.take k ++ List.replicate (xs.length - k) Op0).set k xs[k] = xs.take (k + 1) ++ List.replicate (xs.length - (k + 1)) Op0 := by
        rw [List.set_append_right _ _ (by simp; omega), List.take_succ_eq_append_getElem hlt, show k - (List.take k xs).length = 0 by simp; omega, show xs.length - k = (xs.length - (k + 1)) + 1 by omega, List.replicate_succ, List.append_assoc]
        rfl
      refine stop_idx encOp tabOk rfl rfl rfl rfl rfl ⟨rfl, rfl⟩ (by first | exact rdAt 0 rfl | exact rdOwnAt 0 rfl | exact rdAt 1 rfl | exact rdOwnAt 1 rfl | exact rdAt 2 rfl | exact rdOwnAt 2 rfl | exact rdAt 3 rfl | exact rdOwnAt 3 rfl | exact rdAt 4 rfl | exact rdOwnAt 4 rfl | exact rdAt 5 rfl | exact rdOwnAt 5 rfl | exact rdAt 6 rfl | exact rdOwnAt 6 rfl | exact rdAt 7 rfl | exact rdOwnAt 7 rfl | exact rdAt 8 rfl | exact rdOwnAt 8 rfl | exact rdAt 9 rfl | exact rdOwnAt 9 rfl | exact rdAt 10 rfl | exact rdOwnAt 10 rfl | exact rdAt 11 rfl | exact rdOwnAt 11 rfl | exact rdAt 12 rfl | exact rdOwnAt 12 rfl | exact rdAt 13 rfl | exact rdOwnAt 13 rfl | exact rdAt 14 rfl | exact rdOwnAt 14 rfl | exact rdAt 15 rfl | exact rdOwnAt 15 rfl | exact rdAt 16 rfl | exact rdOwnAt 16 rfl | exact rdAt 17 rfl | exact rdOwnAt 17 rfl | exact rdAt 18 rfl | exact rdOwnAt 18 rfl | exact rdAt 19 rfl | exact rdOwnAt 19 rfl | exact rdAt 20 rfl | exact rdOwnAt 20 rfl | exact rdAt 21 rfl | exact rdOwnAt 21 rfl | exact rdAt 22 rfl | exact rdOwnAt 22 rfl | exact rdAt 23 rfl | exact rdOwnAt 23 rfl) k rfl (by first | omega | (simp; done) | (simp; omega) | (unfold maxLen; omega) | (unfold maxLen; simp; done) | (unfold maxLen; simp; omega)) (fun ad => ?_)
      refine stop_call _ cl150 rfl rfl rfl rfl ⟨rfl, rfl⟩ (fun A w hW => toOp_c _ w) ?_
      rintro v L ⟨rfl, rfl⟩
      refine stop_idxW encOp 0 tabOk rfl rfl rfl rfl rfl ⟨rfl, rfl⟩ rfl (by first | rfl | (simp; done)) k rfl (by first | omega | (simp; done) | (simp; omega) | (unfold maxLen; omega) | (unfold maxLen; simp; done) | (unfold maxLen; simp; omega)) (fun g hg => ?_)
      refine stop_storeW encOp 0 tabOk rfl rfl rfl rfl rfl rfl rfl rfl hg k 0 (xs[k]) rfl (by first | omega | (simp; done) | (simp; omega) | (unfold maxLen; omega) | (unfold maxLen; simp; done) | (unfold maxLen; simp; omega)) rfl (cOp xs[k]) (fun _ => rfl) rfl ?_
      have hw := e_succ k _ hlt (by omega)
      refine ⟨⟨k + 1, by omega⟩, ?_, by simp; omega⟩
      refine weak_mk [0, 1] ?_ ?_ ?_ ?_ ?_ rfl rfl
      · repeat (first | exact trivial | refine ⟨⟨_, rfl, (by first | exact .of rfl | exact .lit rfl | exact .of (by first | ((first | (rw [hT]; done) | (simp only; done) | exact congrArg (fun z => SV.v (Value.int .i64 z)) hw | (rw [← hT]; simp)))) | exact .lit (by first | ((first | (rw [hT]; done) | (simp only [hT]; done) | exact congrArg (fun z => SV.v (Value.int .i64 z)) hw | (rw [← hT]; simp))))), (by first | exact trivial | exact Nat.le_of_ble_eq_true rfl)⟩, ?_⟩)
      · repeat (first | exact trivial | refine ⟨⟨(by first | exact .head _ | exact .tail _ (.head _) | exact .tail _ (.tail _ (.head _)) | exact .tail _ (.tail _ (.tail _ (.head _))) | exact .tail _ (.tail _ (.tail _ (.tail _ (.head _)))) | exact .tail _ (.tail _ (.tail _ (.tail _ (.tail _ (.head _))))) | exact .tail _ (.tail _ (.tail _ (.tail _ (.tail _ (.tail _ (.head _)))))) | exact .tail _ (.tail _ (.tail _ (.tail _ (.tail _ (.tail _ (.tail _ (.head _))))))) | exact .tail _ (.tail _ (.tail _ (.tail _ (.tail _ (.tail _ (.tail _ (.tail _ (.head _)))))))) | exact .tail _ (.tail _ (.tail _ (.tail _ (.tail _ (.tail _ (.tail _ (.tail _ (.tail _ (.head _)))))))))), Nat.le_of_ble_eq_true rfl⟩, ?_⟩)
      · repeat (first | exact trivial | refine ⟨⟨_, rfl, (by first | exact .of rfl | exact .lit rfl | exact .of (by first | ((first | (rw [hT]; done) | (simp only [hT]; done) | exact congrArg (fun z => SV.v (Value.int .i64 z)) hw | (rw [← hT]; simp)))) | exact .lit (by first | ((first | (rw [hT]; done) | (simp only [hT]; done) | exact congrArg (fun z => SV.v (Value.int .i64 z)) hw | (rw [← hT]; simp))))), (by first | exact trivial | exact Nat.le_of_ble_eq_true rfl)⟩, ?_⟩)
      · repeat (first | exact trivial | refine ⟨⟨_, rfl⟩, ?_⟩)
      · repeat (first | exact trivial | refine ⟨.inl ⟨_, rfl, (by first | rfl | ((first | (rw [hT]; done) | (simp only [hT]; done) | exact congrArg (fun z => SV.v (Value.int .i64 z)) hw | (rw [← hT]; simp))))⟩, ?_⟩ | refine ⟨.inr ⟨Nat.le_of_ble_eq_true rfl, rfl, rfl, rfl, rfl⟩, ?_⟩)
    · have hge : xs.length ≤ k := by simpa using h
      have hT : xs.take k ++ List.replicate (xs.length - k) Op0 = xs := by rw [List.take_of_length_le hge, show xs.length - k = 0 by omega]; simp
      exact retw [0] ⟨y, rfl, rfl⟩ ⟨.inl ⟨_, rfl, (by first | rfl | ((simp only [hT])))⟩, trivial⟩ rfl ⟨rfl, trivial⟩ (fun _ => (by first | rfl | ((simp only [hT, resV, SV.den]))))

set_option maxRecDepth 100000 in
theorem eqOp_c (x y : Op) (w : World) : Calls Try.prog 151 #[.agg (cOp x).toArray, .agg (cOp y).toArray] w (Ret w fun v L => v = .bool (decide (x = y)) ∧ L = []) := by
  have hx : ∀ {a b : Op}, a = b ↔ a.kind = b.kind ∧ a.on = b.on ∧ a.arg = b.arg := fun {a b} => ⟨fun h => by subst h; exact ⟨rfl, rfl, rfl⟩, fun h => by cases a; cases b; simp_all⟩
  refine calls2 Try.func151 rfl tabOk w _ rfl _ rfl [] trivial trivial _ _ (by decide) ?_
  refine CaseB.mk (fun h0 => ?_) (fun h0 => ?_)
  · have g : ¬ x = y := fun e => by subst e; simp at h0
    exact retw [] ⟨by simp [g], rfl⟩ trivial rfl trivial (fun _ => rfl)
  refine CaseB.mk (fun h1 => ?_) (fun h1 => ?_)
  · have g : ¬ x = y := fun e => by subst e; simp at h1
    exact retw [] ⟨by simp [g], rfl⟩ trivial rfl trivial (fun _ => rfl)
  refine CaseB.mk (fun h2 => ?_) (fun h2 => ?_)
  · have g : ¬ x = y := fun e => by subst e; simp at h2
    exact retw [] ⟨by simp [g], rfl⟩ trivial rfl trivial (fun _ => rfl)
  · have g : x = y := hx.2 ⟨by simpa using h0, by simpa using h1, by simpa using h2⟩
    exact retw [] ⟨by simp [g], rfl⟩ trivial rfl trivial (fun _ => rfl)

set_option maxRecDepth 100000 in
theorem eqOpS_c (i j : Sl) (xs ys : List Op) (w : World) (h : At w [slo i cOp 3 xs, slo j cOp 3 ys]) (hb : xs.length ≤ 4294967296) (hb2 : ys.length ≤ 4294967296) :
    Calls Try.prog 126 #[i.val xs.length, j.val ys.length] w (Ret w fun v L => v = .bool (decide (xs = ys)) ∧ L = []) := by
  refine calls2 Try.func126 rfl tabOk w _ rfl _ rfl _ h ⟨rfl, rfl, rfl, rfl, trivial⟩ _ _ (by decide) ?_
  refine CaseB.mk (fun h => ?_) (fun h => ?_)
  · have hne : xs ≠ ys := by rintro rfl; simp at h
    refine retw [] ⟨?_, rfl⟩ trivial rfl trivial (fun _ => rfl)
    simp [hne]
  · have hl : xs.length = ys.length := by simp at h; omega
    refine LoopW.mk ⟨{ k : Nat // k ≤ xs.length ∧ xs.take k = ys.take k },
      fun p => .mk [(0, .v (i.val xs.length)), (1, .v (j.val ys.length)), (5, .v (.int .i64 p.1))] 0 0 [] [] [slo i cOp 3 xs, slo j cOp 3 ys],
      fun p => xs.length - p.1, ⟨0, Nat.zero_le _, rfl⟩, ?_, ?_⟩
    · refine weak_mk [0, 1] ?_ ?_ ?_ ?_ ?_ rfl rfl
      · repeat (first | exact trivial | refine ⟨⟨_, rfl, (by first | exact .of rfl | exact .lit rfl | exact .of (by first | (rfl)) | exact .lit (by first | (rfl))), (by first | exact trivial | exact Nat.le_of_ble_eq_true rfl)⟩, ?_⟩)
      · repeat (first | exact trivial | refine ⟨⟨(by first | exact .head _ | exact .tail _ (.head _) | exact .tail _ (.tail _ (.head _)) | exact .tail _ (.tail _ (.tail _ (.head _))) | exact .tail _ (.tail _ (.tail _ (.tail _ (.head _)))) | exact .tail _ (.tail _ (.tail _ (.tail _ (.tail _ (.head _))))) | exact .tail _ (.tail _ (.tail _ (.tail _ (.tail _ (.tail _ (.head _)))))) | exact .tail _ (.tail _ (.tail _ (.tail _ (.tail _ (.tail _ (.tail _ (.head _))))))) | exact .tail _ (.tail _ (.tail _ (.tail _ (.tail _ (.tail _ (.tail _ (.tail _ (.head _)))))))) | exact .tail _ (.tail _ (.tail _ (.tail _ (.tail _ (.tail _ (.tail _ (.tail _ (.tail _ (.head _)))))))))), Nat.le_of_ble_eq_true rfl⟩, ?_⟩)
      · repeat (first | exact trivial | refine ⟨⟨_, rfl, (by first | exact .of rfl | exact .lit rfl | exact .of (by first | (rfl)) | exact .lit (by first | (rfl))), (by first | exact trivial | exact Nat.le_of_ble_eq_true rfl)⟩, ?_⟩)
      · repeat (first | exact trivial | refine ⟨⟨_, rfl⟩, ?_⟩)
      · repeat (first | exact trivial | refine ⟨.inl ⟨_, rfl, (by first | rfl | (rfl))⟩, ?_⟩ | refine ⟨.inr ⟨Nat.le_of_ble_eq_true rfl, rfl, rfl, rfl, rfl⟩, ?_⟩)
    · rintro ⟨k, hk, he⟩
      refine CaseB.mk (fun h => ?_) (fun h => ?_)
      · have hlt : k < xs.length := by simpa using h
        have hlt2 : k < ys.length := by omega
        obtain ⟨q1, q2⟩ := e_take he hlt hlt2
        refine draw_start tabOk (by kernel_rfl) (by kernel_rfl) (by kernel_rfl) 200 [] [0, 1] [_, _] trivial trivial ⟨rfl, rfl, trivial⟩ rfl ?_
        refine d_idx (ti := tiOf tab) encOp tabOk rfl rfl rfl rfl rfl ⟨rfl, rfl⟩ (by first | exact rdAt 0 rfl | exact rdOwnAt 0 rfl | exact rdAt 1 rfl | exact rdOwnAt 1 rfl | exact rdAt 2 rfl | exact rdOwnAt 2 rfl | exact rdAt 3 rfl | exact rdOwnAt 3 rfl | exact rdAt 4 rfl | exact rdOwnAt 4 rfl | exact rdAt 5 rfl | exact rdOwnAt 5 rfl | exact rdAt 6 rfl | exact rdOwnAt 6 rfl | exact rdAt 7 rfl | exact rdOwnAt 7 rfl | exact rdAt 8 rfl | exact rdOwnAt 8 rfl | exact rdAt 9 rfl | exact rdOwnAt 9 rfl | exact rdAt 10 rfl | exact rdOwnAt 10 rfl | exact rdAt 11 rfl | exact rdOwnAt 11 rfl | exact rdAt 12 rfl | exact rdOwnAt 12 rfl | exact rdAt 13 rfl | exact rdOwnAt 13 rfl | exact rdAt 14 rfl | exact rdOwnAt 14 rfl | exact rdAt 15 rfl | exact rdOwnAt 15 rfl | exact rdAt 16 rfl | exact rdOwnAt 16 rfl | exact rdAt 17 rfl | exact rdOwnAt 17 rfl | exact rdAt 18 rfl | exact rdOwnAt 18 rfl | exact rdAt 19 rfl | exact rdOwnAt 19 rfl | exact rdAt 20 rfl | exact rdOwnAt 20 rfl | exact rdAt 21 rfl | exact rdOwnAt 21 rfl | exact rdAt 22 rfl | exact rdOwnAt 22 rfl | exact rdAt 23 rfl | exact rdOwnAt 23 rfl) k rfl (by first | omega | (simp; done) | (simp; omega) | (unfold maxLen; omega) | (unfold maxLen; simp; done) | (unfold maxLen; simp; omega)) (fun ad => ?_)
        refine d_idx (ti := tiOf tab) encOp tabOk rfl rfl rfl rfl rfl ⟨rfl, rfl⟩ (by first | exact rdAt 0 rfl | exact rdOwnAt 0 rfl | exact rdAt 1 rfl | exact rdOwnAt 1 rfl | exact rdAt 2 rfl | exact rdOwnAt 2 rfl | exact rdAt 3 rfl | exact rdOwnAt 3 rfl | exact rdAt 4 rfl | exact rdOwnAt 4 rfl | exact rdAt 5 rfl | exact rdOwnAt 5 rfl | exact rdAt 6 rfl | exact rdOwnAt 6 rfl | exact rdAt 7 rfl | exact rdOwnAt 7 rfl | exact rdAt 8 rfl | exact rdOwnAt 8 rfl | exact rdAt 9 rfl | exact rdOwnAt 9 rfl | exact rdAt 10 rfl | exact rdOwnAt 10 rfl | exact rdAt 11 rfl | exact rdOwnAt 11 rfl | exact rdAt 12 rfl | exact rdOwnAt 12 rfl | exact rdAt 13 rfl | exact rdOwnAt 13 rfl | exact rdAt 14 rfl | exact rdOwnAt 14 rfl | exact rdAt 15 rfl | exact rdOwnAt 15 rfl | exact rdAt 16 rfl | exact rdOwnAt 16 rfl | exact rdAt 17 rfl | exact rdOwnAt 17 rfl | exact rdAt 18 rfl | exact rdOwnAt 18 rfl | exact rdAt 19 rfl | exact rdOwnAt 19 rfl | exact rdAt 20 rfl | exact rdOwnAt 20 rfl | exact rdAt 21 rfl | exact rdOwnAt 21 rfl | exact rdAt 22 rfl | exact rdOwnAt 22 rfl | exact rdAt 23 rfl | exact rdOwnAt 23 rfl) k rfl (by first | omega | (simp; done) | (simp; omega) | (unfold maxLen; omega) | (unfold maxLen; simp; done) | (unfold maxLen; simp; omega)) (fun ad2 => ?_)
        refine d_call _ cl151 rfl rfl rfl rfl ⟨rfl, rfl⟩ (fun A w hW => eqOp_c _ _ w) ?_
        rintro v L ⟨rfl, rfl⟩
        refine CaseB.mk (fun h => ?_) (fun h => ?_)
        · have hne := q2 (by simpa using h)
          refine retw [] ⟨?_, rfl⟩ trivial rfl trivial (fun _ => rfl)
          simp [hne]
        · have heq := q1 (by simpa using h)
          have hw := e_succ k _ hlt (by omega)
          refine ⟨⟨k + 1, by omega, heq⟩, ?_, by simp; omega⟩
          refine weak_mk [0, 1] ?_ ?_ ?_ ?_ ?_ rfl rfl
          · repeat (first | exact trivial | refine ⟨⟨_, rfl, (by first | exact .of rfl | exact .lit rfl | exact .of (by first | ((exact congrArg (fun z => SV.v (Value.int .i64 z)) hw))) | exact .lit (by first | ((exact congrArg (fun z => SV.v (Value.int .i64 z)) hw)))), (by first | exact trivial | exact Nat.le_of_ble_eq_true rfl)⟩, ?_⟩)
          · repeat (first | exact trivial | refine ⟨⟨(by first | exact .head _ | exact .tail _ (.head _) | exact .tail _ (.tail _ (.head _)) | exact .tail _ (.tail _ (.tail _ (.head _))) | exact .tail _ (.tail _ (.tail _ (.tail _ (.head _)))) | exact .tail _ (.tail _ (.tail _ (.tail _ (.tail _ (.head _))))) | exact .tail _ (.tail _ (.tail _ (.tail _ (.tail _ (.tail _ (.head _)))))) | exact .tail _ (.tail _ (.tail _ (.tail _ (.tail _ (.tail _ (.tail _ (.head _))))))) | exact .tail _ (.tail _ (.tail _ (.tail _ (.tail _ (.tail _ (.tail _ (.tail _ (.head _)))))))) | exact .tail _ (.tail _ (.tail _ (.tail _ (.tail _ (.tail _ (.tail _ (.tail _ (.tail _ (.head _)))))))))), Nat.le_of_ble_eq_true rfl⟩, ?_⟩)
          · repeat (first | exact trivial | refine ⟨⟨_, rfl, (by first | exact .of rfl | exact .lit rfl | exact .of (by first | ((exact congrArg (fun z => SV.v (Value.int .i64 z)) hw))) | exact .lit (by first | ((exact congrArg (fun z => SV.v (Value.int .i64 z)) hw)))), (by first | exact trivial | exact Nat.le_of_ble_eq_true rfl)⟩, ?_⟩)
          · repeat (first | exact trivial | refine ⟨⟨_, rfl⟩, ?_⟩)
          · repeat (first | exact trivial | refine ⟨.inl ⟨_, rfl, (by first | rfl | ((exact congrArg (fun z => SV.v (Value.int .i64 z)) hw)))⟩, ?_⟩ | refine ⟨.inr ⟨Nat.le_of_ble_eq_true rfl, rfl, rfl, rfl, rfl⟩, ?_⟩)
      · have hge : xs.length ≤ k := by simpa using h
        have heq : xs = ys := by rw [List.take_of_length_le hge, List.take_of_length_le (by omega)] at he; exact he
        refine retw [] ⟨?_, rfl⟩ trivial rfl trivial (fun _ => rfl)
        simp [heq]

/-- n marks, from k on. -/
def markOp (k : Nat) : Op := ⟨((k : Nat) : Int), ((k + 1 : Nat) : Int), ((k + 2 : Nat) : Int)⟩

def marksOp (k : Nat) : Nat → List Op
  | 0 => []
  | n + 1 => markOp k :: marksOp (k + 3) n

theorem marksOp_len (k n : Nat) : (marksOp k n).length = n := by
  induction n generalizing k with
  | zero => rfl
  | succ n ih => simp [marksOp, ih]

theorem marksOp_get (k n j : Nat) (hj : j < n) : (marksOp k n)[j]? = some (markOp (k + 3 * j)) := by
  induction n generalizing k j with
  | zero => omega
  | succ n ih =>
    cases j with
    | zero => simp [marksOp]
    | succ j => simp only [marksOp, List.getElem?_cons_succ]; rw [ih (k + 3) j (by omega)]; congr 2; omega

theorem marksOp_set (xs : List Op) (k j : Nat) (hj : j < xs.length) : (marksOp k j ++ xs.drop j).set j (markOp (k + 3 * j)) = marksOp k (j + 1) ++ xs.drop (j + 1) := by
  have h1 : marksOp k (j + 1) = marksOp k j ++ [markOp (k + 3 * j)] := by
    apply List.ext_getElem?
    intro q
    rcases Nat.lt_or_ge q j with hq | hq
    · rw [List.getElem?_append_left (by rw [marksOp_len]; exact hq), marksOp_get _ _ _ hq, marksOp_get _ _ _ (by omega)]
    · rcases Nat.eq_or_lt_of_le hq with rfl | hq
      · rw [marksOp_get _ _ _ (by omega), List.getElem?_append_right (by rw [marksOp_len]; exact Nat.le_refl _), marksOp_len]; simp
      · rw [List.getElem?_eq_none (by rw [marksOp_len]; omega), List.getElem?_eq_none (by simp [marksOp_len]; omega)]
  rw [List.set_append_right _ _ (by rw [marksOp_len]; exact Nat.le_refl _), marksOp_len, Nat.sub_self, List.drop_eq_getElem_cons hj, h1, List.append_assoc]
  rfl

set_option maxHeartbeats 4000000 in
set_option maxRecDepth 100000 in
theorem markOpS_c (i : Sl) (xs : List Op) (k : Nat) (w : World) (h : AtG w [own i 111 cOp 3 xs] []) (hb : xs.length ≤ 1048576) (hk : k ≤ 1152921504606846976) :
    Calls Try.prog 127 #[i.val xs.length, .int .i64 (k : Int)] w (RetG w [own i 111 cOp 3 xs] fun v L => v = .int .i64 ((k + 3 * xs.length : Nat) : Int) ∧ L = [own i 111 cOp 3 (marksOp k xs.length)]) := by
  refine callsG_fn Try.func127 rfl tabOk w _ rfl _ rfl _ _ h trivial _ _ rfl rfl ?_
  refine LoopW.mk ⟨{ j : Nat // j ≤ xs.length },
    fun j => .mk [(0, .v (i.val (marksOp k j.1 ++ xs.drop j.1).length)), (1, .v (.int .i64 ((k + 3 * j.1 : Nat) : Int))), (5, .v (.int .i64 (j.1 : Int)))] 0 0 [] [] [own i 111 cOp 3 (marksOp k j.1 ++ xs.drop j.1)],
    fun j => xs.length - j.1, ⟨0, Nat.zero_le _⟩, ?_, ?_⟩
  · refine weak_mk [0] ?_ ?_ ?_ ?_ ?_ rfl rfl
    · repeat (first | exact trivial | refine ⟨⟨_, rfl, (by first | exact .of rfl | exact .lit rfl | exact .of (by first | ((simp [marksOp]))) | exact .lit (by first | ((simp [marksOp])))), (by first | exact trivial | exact Nat.le_of_ble_eq_true rfl)⟩, ?_⟩)
    · repeat (first | exact trivial | refine ⟨⟨(by first | exact .head _ | exact .tail _ (.head _) | exact .tail _ (.tail _ (.head _)) | exact .tail _ (.tail _ (.tail _ (.head _))) | exact .tail _ (.tail _ (.tail _ (.tail _ (.head _)))) | exact .tail _ (.tail _ (.tail _ (.tail _ (.tail _ (.head _))))) | exact .tail _ (.tail _ (.tail _ (.tail _ (.tail _ (.tail _ (.head _)))))) | exact .tail _ (.tail _ (.tail _ (.tail _ (.tail _ (.tail _ (.tail _ (.head _))))))) | exact .tail _ (.tail _ (.tail _ (.tail _ (.tail _ (.tail _ (.tail _ (.tail _ (.head _)))))))) | exact .tail _ (.tail _ (.tail _ (.tail _ (.tail _ (.tail _ (.tail _ (.tail _ (.tail _ (.head _)))))))))), Nat.le_of_ble_eq_true rfl⟩, ?_⟩)
    · repeat (first | exact trivial | refine ⟨⟨_, rfl, (by first | exact .of rfl | exact .lit rfl | exact .of (by first | ((simp [marksOp]))) | exact .lit (by first | ((simp [marksOp])))), (by first | exact trivial | exact Nat.le_of_ble_eq_true rfl)⟩, ?_⟩)
    · repeat (first | exact trivial | refine ⟨⟨_, rfl⟩, ?_⟩)
    · repeat (first | exact trivial | refine ⟨.inl ⟨_, rfl, (by first | rfl | ((simp [marksOp])))⟩, ?_⟩ | refine ⟨.inr ⟨Nat.le_of_ble_eq_true rfl, rfl, rfl, rfl, rfl⟩, ?_⟩)
  · rintro ⟨j, hj⟩
    have hl : (marksOp k j ++ xs.drop j).length = xs.length := by rw [List.length_append, marksOp_len, List.length_drop]; omega
    refine CaseB.mk (fun h => ?_) (fun h => ?_)
    · have hlt : j < xs.length := by simp only [hl] at h; simpa using h
      have hT := marksOp_set xs k j hlt
      have hw := e_succ j _ hlt (by omega)
      have hl2 := Nat.lt_of_lt_of_eq hlt hl.symm
      generalize hq : (marksOp k j ++ xs.drop j) = Q at hl hT hl2
      have hw0 : IntKind.i64.wrap (((k + 3 * j : Nat) : Int) + 1) = ((k + 3 * j + 1 : Nat) : Int) := e_succ (k + 3 * j) (k + 3 * xs.length) (by omega) (by omega)
      have hw1 : IntKind.i64.wrap (((k + 3 * j + 1 : Nat) : Int) + 1) = ((k + 3 * j + 2 : Nat) : Int) := e_succ (k + 3 * j + 1) (k + 3 * xs.length) (by omega) (by omega)
      have hw2 : IntKind.i64.wrap (((k + 3 * j + 2 : Nat) : Int) + 1) = ((k + 3 * j + 3 : Nat) : Int) := e_succ (k + 3 * j + 2) (k + 3 * xs.length) (by omega) (by omega)
      have hwf : IntKind.i64.wrap (IntKind.i64.wrap (IntKind.i64.wrap (((k + 3 * j : Nat) : Int) + 1) + 1) + 1) = ((k + 3 * (j + 1) : Nat) : Int) := by rw [hw0, hw1, hw2]; congr 1
      refine stop_idxW encOp 0 tabOk rfl rfl rfl rfl rfl ⟨rfl, rfl⟩ rfl (by first | rfl | (simp; done)) j rfl hl2 (fun g0 hg0 => ?_)
      refine stop_fldW tabOk rfl rfl rfl rfl ⟨rfl, rfl⟩ ?_
      refine stop_storeW encOp 0 tabOk rfl rfl rfl rfl rfl rfl rfl rfl hg0 j 0 (⟨((k + 3 * j : Nat) : Int), Q[j].on, Q[j].arg⟩ : Op) rfl hl2 rfl [.int .i64 ((k + 3 * j : Nat) : Int)] (fun _ => rfl) (by simp [cOp]) ?_
      refine stop_idxW encOp 0 tabOk rfl rfl rfl rfl rfl ⟨rfl, rfl⟩ rfl (by first | rfl | (simp; done)) j rfl (by simpa using hl2) (fun g1 hg1 => ?_)
      refine stop_fldW tabOk rfl rfl rfl rfl ⟨rfl, rfl⟩ ?_
      refine stop_storeW encOp 0 tabOk rfl rfl rfl rfl rfl rfl rfl rfl hg1 j 1 (⟨((k + 3 * j : Nat) : Int), ((k + 3 * j + 1 : Nat) : Int), Q[j].arg⟩ : Op) rfl (by simpa using hl2) rfl [.int .i64 ((k + 3 * j + 1 : Nat) : Int)] (fun _ => by simp only [List.map_cons, List.map_nil, SV.den, hw0]) (by simp [cOp]) ?_
      refine stop_idxW encOp 0 tabOk rfl rfl rfl rfl rfl ⟨rfl, rfl⟩ rfl (by first | rfl | (simp; done)) j rfl (by simpa using hl2) (fun g2 hg2 => ?_)
      refine stop_fldW tabOk rfl rfl rfl rfl ⟨rfl, rfl⟩ ?_
      refine stop_storeW encOp 0 tabOk rfl rfl rfl rfl rfl rfl rfl rfl hg2 j 2 (⟨((k + 3 * j : Nat) : Int), ((k + 3 * j + 1 : Nat) : Int), ((k + 3 * j + 2 : Nat) : Int)⟩ : Op) rfl (by simpa using hl2) rfl [.int .i64 ((k + 3 * j + 2 : Nat) : Int)] (fun _ => by simp only [List.map_cons, List.map_nil, SV.den, hw0, hw1]) (by simp [cOp]) ?_
      have hT2 : (((Q.set j (⟨((k + 3 * j : Nat) : Int), Q[j].on, Q[j].arg⟩ : Op)).set j (⟨((k + 3 * j : Nat) : Int), ((k + 3 * j + 1 : Nat) : Int), Q[j].arg⟩ : Op)).set j (⟨((k + 3 * j : Nat) : Int), ((k + 3 * j + 1 : Nat) : Int), ((k + 3 * j + 2 : Nat) : Int)⟩ : Op)) = marksOp k (j + 1) ++ xs.drop (j + 1) := by simp only [List.set_set]; exact hT
      refine ⟨⟨j + 1, by omega⟩, ?_, by simp; omega⟩
      refine weak_mk [0] ?_ ?_ ?_ ?_ ?_ rfl rfl
      · repeat (first | exact trivial | refine ⟨⟨_, rfl, (by first | exact .of rfl | exact .lit rfl | exact .of (by first | ((first | (rw [hT2]; done) | (simp only; done) | exact congrArg (fun z => SV.v (Value.int .i64 z)) hw | exact congrArg (fun z => SV.v (Value.int .i64 z)) hwf | (rw [← hT2]; simp; done) | (simp only [← hT2, List.length_set]; done)))) | exact .lit (by first | ((first | (rw [hT2]; done) | (simp only [hT2]; done) | exact congrArg (fun z => SV.v (Value.int .i64 z)) hw | exact congrArg (fun z => SV.v (Value.int .i64 z)) hwf | (rw [← hT2]; simp; done) | (simp only [← hT2, List.length_set]; done))))), (by first | exact trivial | exact Nat.le_of_ble_eq_true rfl)⟩, ?_⟩)
      · repeat (first | exact trivial | refine ⟨⟨(by first | exact .head _ | exact .tail _ (.head _) | exact .tail _ (.tail _ (.head _)) | exact .tail _ (.tail _ (.tail _ (.head _))) | exact .tail _ (.tail _ (.tail _ (.tail _ (.head _)))) | exact .tail _ (.tail _ (.tail _ (.tail _ (.tail _ (.head _))))) | exact .tail _ (.tail _ (.tail _ (.tail _ (.tail _ (.tail _ (.head _)))))) | exact .tail _ (.tail _ (.tail _ (.tail _ (.tail _ (.tail _ (.tail _ (.head _))))))) | exact .tail _ (.tail _ (.tail _ (.tail _ (.tail _ (.tail _ (.tail _ (.tail _ (.head _)))))))) | exact .tail _ (.tail _ (.tail _ (.tail _ (.tail _ (.tail _ (.tail _ (.tail _ (.tail _ (.head _)))))))))), Nat.le_of_ble_eq_true rfl⟩, ?_⟩)
      · repeat (first | exact trivial | refine ⟨⟨_, rfl, (by first | exact .of rfl | exact .lit rfl | exact .of (by first | ((first | (rw [hT2]; done) | (simp only [hT2]; done) | exact congrArg (fun z => SV.v (Value.int .i64 z)) hw | exact congrArg (fun z => SV.v (Value.int .i64 z)) hwf | (rw [← hT2]; simp; done) | (simp only [← hT2, List.length_set]; done)))) | exact .lit (by first | ((first | (rw [hT2]; done) | (simp only [hT2]; done) | exact congrArg (fun z => SV.v (Value.int .i64 z)) hw | exact congrArg (fun z => SV.v (Value.int .i64 z)) hwf | (rw [← hT2]; simp; done) | (simp only [← hT2, List.length_set]; done))))), (by first | exact trivial | exact Nat.le_of_ble_eq_true rfl)⟩, ?_⟩)
      · repeat (first | exact trivial | refine ⟨⟨_, rfl⟩, ?_⟩)
      · repeat (first | exact trivial | refine ⟨.inl ⟨_, rfl, (by first | rfl | ((first | (rw [hT2]; done) | (simp only [hT2]; done) | exact congrArg (fun z => SV.v (Value.int .i64 z)) hw | exact congrArg (fun z => SV.v (Value.int .i64 z)) hwf | (rw [← hT2]; simp; done) | (simp only [← hT2, List.length_set]; done))))⟩, ?_⟩ | refine ⟨.inr ⟨Nat.le_of_ble_eq_true rfl, rfl, rfl, rfl, rfl⟩, ?_⟩)
    · have hge : xs.length ≤ j := by simp only [hl] at h; simpa using h
      have hje : j = xs.length := by omega
      have hT : marksOp k j ++ xs.drop j = marksOp k xs.length := by rw [hje]; simp
      exact retG [0] ⟨rfl, rfl⟩ ⟨.inl ⟨_, rfl, (by first | rfl | ((first | (simp only [hT]; done) | simp only [resV, SV.den, hje])))⟩, trivial⟩ rfl ⟨rfl, trivial⟩ (fun _ => (by first | rfl | ((first | (simp only; done) | simp only [resV, SV.den, hje]))))

end Go.Proofs.Ytpopeaoklccgcaa

namespace Go.Proofs.Ytpopeaoklccgcaa

open Go Go.Sx Go.RowKit

def OpS.small20 (m : List Op) : Prop := m.length ≤ 1048576

def szOpSM (m : List Op) (left : Int) : Int := szN m.length left

theorem szOpSM_gen (m : List Op) (l : Int) (hl : l ≤ 1048576) (h : ¬ szOpSM m l < 0) : OpS.small20 m ∧ szOpSM m l ≤ l := szN_gen hl h

end Go.Proofs.Ytpopeaoklccgcaa

namespace Go.Proofs.Ytpopeaoklccgcaa

open Go Go.Sx Go.RowKit

set_option maxRecDepth 100000 in
theorem szOpSS_c (h : Sl) (xs : List OpSH) (left : Int) (w : World) (hh : At w [fR (threadsO h xs)]) (h0 : -1 ≤ left) (h1 : left ≤ 1048576) :
    Calls Try.prog 73 #[h.val xs.length, .int .i64 left] w (Ret w fun v L => v = .int .i64 (szAll szOpSM (xs.map (·.m)) left) ∧ L = []) := by
  have hrd := (Rd.ofR (nest_h (xs := xs))).p w hh.1.1
  obtain ⟨_, b1, b2, _⟩ := hrd
  unfold maxLen at b2
  have e : IntKind.i64.wrap (left - (xs.length : Int)) = left - xs.length := e_wrap (by omega) (by omega)
  refine calls2 Try.func73 rfl tabOk w _ rfl _ rfl _ hh ⟨rfl, rfl, trivial⟩ _ _ (by decide) ?_
  refine CaseB.mk (fun g => ?_) (fun g => ?_)
  · rw [e] at g
    have g2 : left - (xs.length : Int) < 0 := by simpa using g
    exact retw [] ⟨by simp [szAll, g2], rfl⟩ trivial rfl trivial (fun _ => rfl)
  · rw [e] at g
    have g2 : ¬ left - (xs.length : Int) < 0 := by simpa using g
    refine LoopW.mk ⟨{ p : Nat × Int // p.1 ≤ xs.length ∧ szList szOpSM ((xs.map (·.m)).drop p.1) p.2 = szAll szOpSM (xs.map (·.m)) left ∧ -1 ≤ p.2 ∧ p.2 ≤ 1048576 },
      fun p => .mk [(0, .v (h.val xs.length)), (1, .v (.int .i64 p.1.2)), (5, .v (.int .i64 (p.1.1 : Int)))] 0 0 [] [] [fR (threadsO h xs)],
      fun p => xs.length - p.1.1, ⟨(0, left - xs.length), Nat.zero_le _, by simp [szAll, g2], by omega, by omega⟩, ?_, ?_⟩
    · refine weak_mk [0] ?_ ?_ ?_ ?_ ?_ rfl rfl
      · repeat (first | exact trivial | refine ⟨⟨_, rfl, (by first | exact .of rfl | exact .lit rfl | exact .of (by first | ((simp only [e]))) | exact .lit (by first | ((simp only [e])))), (by first | exact trivial | exact Nat.le_of_ble_eq_true rfl)⟩, ?_⟩)
      · repeat (first | exact trivial | refine ⟨⟨(by first | exact .head _ | exact .tail _ (.head _) | exact .tail _ (.tail _ (.head _)) | exact .tail _ (.tail _ (.tail _ (.head _))) | exact .tail _ (.tail _ (.tail _ (.tail _ (.head _)))) | exact .tail _ (.tail _ (.tail _ (.tail _ (.tail _ (.head _))))) | exact .tail _ (.tail _ (.tail _ (.tail _ (.tail _ (.tail _ (.head _)))))) | exact .tail _ (.tail _ (.tail _ (.tail _ (.tail _ (.tail _ (.tail _ (.head _))))))) | exact .tail _ (.tail _ (.tail _ (.tail _ (.tail _ (.tail _ (.tail _ (.tail _ (.head _)))))))) | exact .tail _ (.tail _ (.tail _ (.tail _ (.tail _ (.tail _ (.tail _ (.tail _ (.tail _ (.head _)))))))))), Nat.le_of_ble_eq_true rfl⟩, ?_⟩)
      · repeat (first | exact trivial | refine ⟨⟨_, rfl, (by first | exact .of rfl | exact .lit rfl | exact .of (by first | ((simp only [e]))) | exact .lit (by first | ((simp only [e])))), (by first | exact trivial | exact Nat.le_of_ble_eq_true rfl)⟩, ?_⟩)
      · repeat (first | exact trivial | refine ⟨⟨_, rfl⟩, ?_⟩)
      · repeat (first | exact trivial | refine ⟨.inl ⟨_, rfl, (by first | rfl | ((simp only [e])))⟩, ?_⟩ | refine ⟨.inr ⟨Nat.le_of_ble_eq_true rfl, rfl, rfl, rfl, rfl⟩, ?_⟩)
    · rintro ⟨⟨k, l⟩, hk, hl, hl0, hl1⟩
      simp only at hk hl hl0 hl1
      refine CaseB.mk (fun g3 => ?_) (fun g3 => ?_)
      · have hlt : k < xs.length := by simpa using g3
        rw [List.drop_eq_getElem_cons (by simpa using hlt)] at hl
        simp only [szList, List.getElem_map] at hl
        refine stop_idx encOpSH tabOk rfl rfl rfl rfl rfl ⟨rfl, rfl⟩ (rdVia 0 rfl (.ofR nest_h)) k rfl (by first | omega | (simp; done) | (simp; omega) | (unfold maxLen; omega) | (unfold maxLen; simp; done) | (unfold maxLen; simp; omega)) (fun ad => ?_)
        refine stop_call _ cl124 rfl rfl rfl rfl ⟨rfl, rfl⟩ (fun A w hW => szOpS_c _ _ _ w ⟨hW.get 0 rfl (.ofR (threadsO_0 h xs k hlt)), trivial⟩ hl0 hl1) ?_
        rintro v L ⟨rfl, rfl⟩
        refine CaseB.mk (fun g4 => ?_) (fun g4 => ?_)
        · have q : szOpSM xs[k].m l < 0 := by unfold szOpSM; simpa using g4
          rw [if_pos q] at hl
          exact retw [] ⟨by rw [← hl], rfl⟩ trivial rfl trivial (fun _ => rfl)
        · have q : ¬ szOpSM xs[k].m l < 0 := by unfold szOpSM; simpa using g4
          rw [if_neg q] at hl
          have q2 := (szOpSM_gen xs[k].m l hl1 q).2
          have hw := e_succ k _ hlt (by omega)
          refine ⟨⟨(k + 1, szOpSM xs[k].m l), hlt, hl, by omega, by omega⟩, ?_, by simp only; omega⟩
          refine weak_mk [0] ?_ ?_ ?_ ?_ ?_ rfl rfl
          · repeat (first | exact trivial | refine ⟨⟨_, rfl, (by first | exact .of rfl | exact .lit rfl | exact .of (by first | ((exact congrArg (fun z => SV.v (Value.int .i64 z)) hw))) | exact .lit (by first | ((exact congrArg (fun z => SV.v (Value.int .i64 z)) hw)))), (by first | exact trivial | exact Nat.le_of_ble_eq_true rfl)⟩, ?_⟩)
          · repeat (first | exact trivial | refine ⟨⟨(by first | exact .head _ | exact .tail _ (.head _) | exact .tail _ (.tail _ (.head _)) | exact .tail _ (.tail _ (.tail _ (.head _))) | exact .tail _ (.tail _ (.tail _ (.tail _ (.head _)))) | exact .tail _ (.tail _ (.tail _ (.tail _ (.tail _ (.head _))))) | exact .tail _ (.tail _ (.tail _ (.tail _ (.tail _ (.tail _ (.head _)))))) | exact .tail _ (.tail _ (.tail _ (.tail _ (.tail _ (.tail _ (.tail _ (.head _))))))) | exact .tail _ (.tail _ (.tail _ (.tail _ (.tail _ (.tail _ (.tail _ (.tail _ (.head _)))))))) | exact .tail _ (.tail _ (.tail _ (.tail _ (.tail _ (.tail _ (.tail _ (.tail _ (.tail _ (.head _)))))))))), Nat.le_of_ble_eq_true rfl⟩, ?_⟩)
          · repeat (first | exact trivial | refine ⟨⟨_, rfl, (by first | exact .of rfl | exact .lit rfl | exact .of (by first | ((exact congrArg (fun z => SV.v (Value.int .i64 z)) hw))) | exact .lit (by first | ((exact congrArg (fun z => SV.v (Value.int .i64 z)) hw)))), (by first | exact trivial | exact Nat.le_of_ble_eq_true rfl)⟩, ?_⟩)
          · repeat (first | exact trivial | refine ⟨⟨_, rfl⟩, ?_⟩)
          · repeat (first | exact trivial | refine ⟨.inl ⟨_, rfl, (by first | rfl | ((exact congrArg (fun z => SV.v (Value.int .i64 z)) hw)))⟩, ?_⟩ | refine ⟨.inr ⟨Nat.le_of_ble_eq_true rfl, rfl, rfl, rfl, rfl⟩, ?_⟩)
      · have hge : xs.length ≤ k := by simpa using g3
        rw [List.drop_eq_nil_of_le (by simpa using hge)] at hl
        exact retw [] ⟨congrArg (Value.int .i64) hl, rfl⟩ trivial rfl trivial (fun _ => rfl)

def OpSH0 : OpSH := ⟨[], ⟨none, 0⟩⟩

set_option maxRecDepth 100000 in
theorem toOpSS_c (h : Sl) (xs : List OpSH) (w : World) (hh : At w [fR (threadsO h xs)]) (hl : xs.length ≤ 1048576) (hb : ∀ x ∈ xs, OpS.small20 x.m) :
    Calls Try.prog 74 #[h.val xs.length] w (Ret w fun v L => ∃ (y : Sl) (ys : List OpSH), v = y.val ys.length ∧ ys.map (·.m) = xs.map (·.m) ∧ L = [fO (threadsO y ys)]) := by
  refine calls1 Try.func74 rfl tabOk w _ rfl _ rfl _ hh ⟨rfl, rfl, trivial⟩ _ (by decide) ?_
  refine stop_make encOpSH OpSH0 tabOk rfl rfl rfl rfl rfl (by decide) ⟨rfl, rfl⟩ xs.length rfl (by first | omega | (simp; done) | (simp; omega) | (unfold maxLen; omega) | (unfold maxLen; simp; done) | (unfold maxLen; simp; omega)) (by first | omega | (simp; done) | (simp; omega) | (unfold maxLen; omega) | (unfold maxLen; simp; done) | (unfold maxLen; simp; omega)) (fun y => ?_)
  refine LoopW.mk ⟨{ p : Nat × List OpSH // p.1 ≤ xs.length ∧ p.2.map (·.m) = (xs.map (·.m)).take p.1 },
    fun p => .mk [(0, .v (h.val xs.length)), (3, .v (y.val (p.1.2 ++ List.replicate (xs.length - p.1.1) OpSH0).length)), (4, .v (.int .i64 (p.1.1 : Int)))] 0 0 [] [] [own y 49 cOpSH 1 (p.1.2 ++ List.replicate (xs.length - p.1.1) OpSH0), fO (p.1.2.flatMap opSO), fR (threadsO h xs)],
    fun p => xs.length - p.1.1, ⟨(0, []), Nat.zero_le _, by simp⟩, ?_, ?_⟩
  · refine weak_shift (.joinO [] (Gs := []) trivial rfl (.refl _)) ?_
    refine weak_mk [1, 0, 2] ?_ ?_ ?_ ?_ ?_ rfl rfl
    · repeat (first | exact trivial | refine ⟨⟨_, rfl, (by first | exact .of rfl | exact .lit rfl | exact .of (by first | ((simp))) | exact .lit (by first | ((simp)))), (by first | exact trivial | exact Nat.le_of_ble_eq_true rfl)⟩, ?_⟩)
    · repeat (first | exact trivial | refine ⟨⟨(by first | exact .head _ | exact .tail _ (.head _) | exact .tail _ (.tail _ (.head _)) | exact .tail _ (.tail _ (.tail _ (.head _))) | exact .tail _ (.tail _ (.tail _ (.tail _ (.head _)))) | exact .tail _ (.tail _ (.tail _ (.tail _ (.tail _ (.head _))))) | exact .tail _ (.tail _ (.tail _ (.tail _ (.tail _ (.tail _ (.head _)))))) | exact .tail _ (.tail _ (.tail _ (.tail _ (.tail _ (.tail _ (.tail _ (.head _))))))) | exact .tail _ (.tail _ (.tail _ (.tail _ (.tail _ (.tail _ (.tail _ (.tail _ (.head _)))))))) | exact .tail _ (.tail _ (.tail _ (.tail _ (.tail _ (.tail _ (.tail _ (.tail _ (.tail _ (.head _)))))))))), Nat.le_of_ble_eq_true rfl⟩, ?_⟩)
    · repeat (first | exact trivial | refine ⟨⟨_, rfl, (by first | exact .of rfl | exact .lit rfl | exact .of (by first | ((simp))) | exact .lit (by first | ((simp)))), (by first | exact trivial | exact Nat.le_of_ble_eq_true rfl)⟩, ?_⟩)
    · repeat (first | exact trivial | refine ⟨⟨_, rfl⟩, ?_⟩)
    · repeat (first | exact trivial | refine ⟨.inl ⟨_, rfl, (by first | rfl | ((simp)))⟩, ?_⟩ | refine ⟨.inr ⟨Nat.le_of_ble_eq_true rfl, rfl, rfl, rfl, rfl⟩, ?_⟩)
  · rintro ⟨⟨k, ys⟩, hk, hy⟩
    simp only at hk hy
    have hyl : ys.length = k := by have := congrArg List.length hy; simp at this; omega
    refine CaseB.mk (fun g => ?_) (fun g => ?_)
    · have hlt : k < xs.length := by simpa using g
      have hlt2 : k < (ys ++ List.replicate (xs.length - k) OpSH0).length := by simp; omega
      refine stop_idx encOpSH tabOk rfl rfl rfl rfl rfl ⟨rfl, rfl⟩ (rdVia 2 rfl (.ofR nest_h)) k rfl (by first | omega | (simp; done) | (simp; omega) | (unfold maxLen; omega) | (unfold maxLen; simp; done) | (unfold maxLen; simp; omega)) (fun ad => ?_)
      refine stop_call _ cl125 rfl rfl rfl rfl ⟨rfl, rfl⟩ (fun A w hW => toOpS_c _ _ w ⟨hW.get 2 rfl (.ofR (threadsO_0 h xs k hlt)), trivial⟩ (hb _ (List.getElem_mem hlt))) ?_
      rintro v L ⟨y0, rfl, rfl⟩
      generalize hx : (⟨xs[k].m, y0⟩ : OpSH) = x
      have hxm : x.m = xs[k].m := by rw [← hx]
      have hT : (ys ++ List.replicate (xs.length - k) OpSH0).set k x = (ys ++ [x]) ++ List.replicate (xs.length - (k + 1)) OpSH0 := by
        rw [List.set_append_right _ _ (by omega), show k - ys.length = 0 by omega, show xs.length - k = (xs.length - (k + 1)) + 1 by omega, List.replicate_succ, List.append_assoc]
        rfl
      generalize hq : (ys ++ List.replicate (xs.length - k) OpSH0) = Q at hT hlt2
      refine stop_idxW encOpSH 1 tabOk rfl rfl rfl rfl rfl ⟨rfl, rfl⟩ rfl (by first | rfl | (simp; done)) k rfl hlt2 (fun g1 hg1 => ?_)
      refine stop_storeW encOpSH 1 tabOk rfl rfl rfl rfl rfl rfl rfl rfl hg1 k 0 x rfl hlt2 rfl (cOpSH x) (fun _ => by rw [← hx]; rfl) (by rw [List.drop_eq_nil_of_le (by exact Nat.le_refl _)]; simp) ?_
      have hw := e_succ k _ hlt (by omega)
      refine ⟨⟨(k + 1, ys ++ [x]), hlt, by rw [List.map_append]; exact map_take_succ hlt hy hxm⟩, ?_, by simp only; omega⟩
      refine weak_shift (.joinO [1, 2] (Gs := [[_], _]) ⟨.inl ⟨_, rfl, .own⟩, .inl ⟨_, rfl, .o⟩, trivial⟩ rfl (G := (ys ++ [x]).flatMap opSO) (by subst hx; rw [List.flatMap_append]; exact (List.Perm.of_eq (by simp [opSO])).trans List.perm_append_comm)) ?_
      refine weak_mk [1, 0, 2] ?_ ?_ ?_ ?_ ?_ rfl rfl
      · repeat (first | exact trivial | refine ⟨⟨_, rfl, (by first | exact .of rfl | exact .lit rfl | exact .of (by first | ((first | (rw [hT]; done) | (simp only; done) | exact congrArg (fun z => SV.v (Value.int .i64 z)) hw | (rw [← hT]; simp)))) | exact .lit (by first | ((first | (rw [hT]; done) | (simp only [hT]; done) | exact congrArg (fun z => SV.v (Value.int .i64 z)) hw | (rw [← hT]; simp))))), (by first | exact trivial | exact Nat.le_of_ble_eq_true rfl)⟩, ?_⟩)
      · repeat (first | exact trivial | refine ⟨⟨(by first | exact .head _ | exact .tail _ (.head _) | exact .tail _ (.tail _ (.head _)) | exact .tail _ (.tail _ (.tail _ (.head _))) | exact .tail _ (.tail _ (.tail _ (.tail _ (.head _)))) | exact .tail _ (.tail _ (.tail _ (.tail _ (.tail _ (.head _))))) | exact .tail _ (.tail _ (.tail _ (.tail _ (.tail _ (.tail _ (.head _)))))) | exact .tail _ (.tail _ (.tail _ (.tail _ (.tail _ (.tail _ (.tail _ (.head _))))))) | exact .tail _ (.tail _ (.tail _ (.tail _ (.tail _ (.tail _ (.tail _ (.tail _ (.head _)))))))) | exact .tail _ (.tail _ (.tail _ (.tail _ (.tail _ (.tail _ (.tail _ (.tail _ (.tail _ (.head _)))))))))), Nat.le_of_ble_eq_true rfl⟩, ?_⟩)
      · repeat (first | exact trivial | refine ⟨⟨_, rfl, (by first | exact .of rfl | exact .lit rfl | exact .of (by first | ((first | (rw [hT]; done) | (simp only [hT]; done) | exact congrArg (fun z => SV.v (Value.int .i64 z)) hw | (rw [← hT]; simp)))) | exact .lit (by first | ((first | (rw [hT]; done) | (simp only [hT]; done) | exact congrArg (fun z => SV.v (Value.int .i64 z)) hw | (rw [← hT]; simp))))), (by first | exact trivial | exact Nat.le_of_ble_eq_true rfl)⟩, ?_⟩)
      · repeat (first | exact trivial | refine ⟨⟨_, rfl⟩, ?_⟩)
      · repeat (first | exact trivial | refine ⟨.inl ⟨_, rfl, (by first | rfl | ((first | (rw [hT]; done) | (simp only [hT]; done) | exact congrArg (fun z => SV.v (Value.int .i64 z)) hw | (rw [← hT]; simp))))⟩, ?_⟩ | refine ⟨.inr ⟨Nat.le_of_ble_eq_true rfl, rfl, rfl, rfl, rfl⟩, ?_⟩)
    · have hge : xs.length ≤ k := by simpa using g
      have hT : ys ++ List.replicate (xs.length - k) OpSH0 = ys := by rw [show xs.length - k = 0 by omega]; simp
      simp only [hT]
      refine ret_shift (.joinO [0, 1] (Gs := [[_], _]) ⟨.inl ⟨_, rfl, .own⟩, .inl ⟨_, rfl, .o⟩, trivial⟩ rfl (G := threadsO y ys) (.of_eq (by simp [threadsO, nestO]))) ?_
      exact retw [0] ⟨y, ys, rfl, by rw [hy, List.take_of_length_le (by simpa using hge)], rfl⟩ ⟨.inl ⟨_, rfl, rfl⟩, trivial⟩ rfl ⟨rfl, trivial⟩ (fun _ => rfl)

set_option maxRecDepth 100000 in
theorem eqOpSS_c (h h2 : Sl) (xs ys : List OpSH) (w : World) (hh : At w [fR (threadsO h xs), fR (threadsO h2 ys)]) (hl : xs.length ≤ 1048576) (hb : ∀ x ∈ xs, OpS.small20 x.m) (hb2 : ∀ x ∈ ys, OpS.small20 x.m) :
    Calls Try.prog 75 #[h.val xs.length, h2.val ys.length] w (Ret w fun v L => v = .bool (decide (xs.map (·.m) = ys.map (·.m))) ∧ L = []) := by
  refine calls2 Try.func75 rfl tabOk w _ rfl _ rfl _ hh ⟨rfl, rfl, rfl, rfl, trivial⟩ _ _ (by decide) ?_
  refine CaseB.mk (fun g => ?_) (fun g => ?_)
  · have hne : xs.map (·.m) ≠ ys.map (·.m) := fun e => by
      have := congrArg List.length e
      simp at this g
      omega
    refine retw [] ⟨?_, rfl⟩ trivial rfl trivial (fun _ => rfl)
    simp [hne]
  · have hll : xs.length = ys.length := by simp at g; omega
    refine LoopW.mk ⟨{ k : Nat // k ≤ xs.length ∧ (xs.map (·.m)).take k = (ys.map (·.m)).take k },
      fun p => .mk [(0, .v (h.val xs.length)), (1, .v (h2.val ys.length)), (5, .v (.int .i64 p.1))] 0 0 [] [] [fR (threadsO h xs), fR (threadsO h2 ys)],
      fun p => xs.length - p.1, ⟨0, Nat.zero_le _, rfl⟩, ?_, ?_⟩
    · refine weak_mk [0, 1] ?_ ?_ ?_ ?_ ?_ rfl rfl
      · repeat (first | exact trivial | refine ⟨⟨_, rfl, (by first | exact .of rfl | exact .lit rfl | exact .of (by first | (rfl)) | exact .lit (by first | (rfl))), (by first | exact trivial | exact Nat.le_of_ble_eq_true rfl)⟩, ?_⟩)
      · repeat (first | exact trivial | refine ⟨⟨(by first | exact .head _ | exact .tail _ (.head _) | exact .tail _ (.tail _ (.head _)) | exact .tail _ (.tail _ (.tail _ (.head _))) | exact .tail _ (.tail _ (.tail _ (.tail _ (.head _)))) | exact .tail _ (.tail _ (.tail _ (.tail _ (.tail _ (.head _))))) | exact .tail _ (.tail _ (.tail _ (.tail _ (.tail _ (.tail _ (.head _)))))) | exact .tail _ (.tail _ (.tail _ (.tail _ (.tail _ (.tail _ (.tail _ (.head _))))))) | exact .tail _ (.tail _ (.tail _ (.tail _ (.tail _ (.tail _ (.tail _ (.tail _ (.head _)))))))) | exact .tail _ (.tail _ (.tail _ (.tail _ (.tail _ (.tail _ (.tail _ (.tail _ (.tail _ (.head _)))))))))), Nat.le_of_ble_eq_true rfl⟩, ?_⟩)
      · repeat (first | exact trivial | refine ⟨⟨_, rfl, (by first | exact .of rfl | exact .lit rfl | exact .of (by first | (rfl)) | exact .lit (by first | (rfl))), (by first | exact trivial | exact Nat.le_of_ble_eq_true rfl)⟩, ?_⟩)
      · repeat (first | exact trivial | refine ⟨⟨_, rfl⟩, ?_⟩)
      · repeat (first | exact trivial | refine ⟨.inl ⟨_, rfl, (by first | rfl | (rfl))⟩, ?_⟩ | refine ⟨.inr ⟨Nat.le_of_ble_eq_true rfl, rfl, rfl, rfl, rfl⟩, ?_⟩)
    · rintro ⟨k, hk, he⟩
      refine CaseB.mk (fun g2 => ?_) (fun g2 => ?_)
      · have hlt : k < xs.length := by simpa using g2
        have hlt2 : k < ys.length := by omega
        obtain ⟨q1, q2⟩ := take_eq_succ he (by simpa using hlt) (by simpa using hlt2)
        simp only [List.getElem_map] at q1 q2
        refine draw_start tabOk (by kernel_rfl) (by kernel_rfl) (by kernel_rfl) 200 [] [0, 1] [_, _] trivial trivial ⟨rfl, rfl, trivial⟩ rfl ?_
        refine d_idx (ti := tiOf tab) encOpSH tabOk rfl rfl rfl rfl rfl ⟨rfl, rfl⟩ (rdVia 0 rfl (.ofR nest_h)) k rfl (by first | omega | (simp; done) | (simp; omega) | (unfold maxLen; omega) | (unfold maxLen; simp; done) | (unfold maxLen; simp; omega)) (fun ad => ?_)
        refine d_idx (ti := tiOf tab) encOpSH tabOk rfl rfl rfl rfl rfl ⟨rfl, rfl⟩ (rdVia 1 rfl (.ofR nest_h)) k rfl (by first | omega | (simp; done) | (simp; omega) | (unfold maxLen; omega) | (unfold maxLen; simp; done) | (unfold maxLen; simp; omega)) (fun ad2 => ?_)
        refine d_call _ cl126 rfl rfl rfl rfl ⟨rfl, rfl⟩ (fun A w hW => eqOpS_c _ _ _ _ w ⟨hW.get 0 rfl (.ofR (threadsO_0 h xs k hlt)), hW.get 1 rfl (.ofR (threadsO_0 h2 ys k hlt2)), trivial⟩ (Nat.le_trans (hb _ (List.getElem_mem hlt)) (by decide)) (Nat.le_trans (hb2 _ (List.getElem_mem hlt2)) (by decide))) ?_
        rintro v L ⟨rfl, rfl⟩
        refine CaseB.mk (fun g3 => ?_) (fun g3 => ?_)
        · have hne := q2 (by simpa using g3)
          refine retw [] ⟨?_, rfl⟩ trivial rfl trivial (fun _ => rfl)
          simp [hne]
        · have heq := q1 (by simpa using g3)
          have hw := e_succ k _ hlt (by omega)
          refine ⟨⟨k + 1, by omega, heq⟩, ?_, by simp; omega⟩
          refine weak_mk [0, 1] ?_ ?_ ?_ ?_ ?_ rfl rfl
          · repeat (first | exact trivial | refine ⟨⟨_, rfl, (by first | exact .of rfl | exact .lit rfl | exact .of (by first | ((exact congrArg (fun z => SV.v (Value.int .i64 z)) hw))) | exact .lit (by first | ((exact congrArg (fun z => SV.v (Value.int .i64 z)) hw)))), (by first | exact trivial | exact Nat.le_of_ble_eq_true rfl)⟩, ?_⟩)
          · repeat (first | exact trivial | refine ⟨⟨(by first | exact .head _ | exact .tail _ (.head _) | exact .tail _ (.tail _ (.head _)) | exact .tail _ (.tail _ (.tail _ (.head _))) | exact .tail _ (.tail _ (.tail _ (.tail _ (.head _)))) | exact .tail _ (.tail _ (.tail _ (.tail _ (.tail _ (.head _))))) | exact .tail _ (.tail _ (.tail _ (.tail _ (.tail _ (.tail _ (.head _)))))) | exact .tail _ (.tail _ (.tail _ (.tail _ (.tail _ (.tail _ (.tail _ (.head _))))))) | exact .tail _ (.tail _ (.tail _ (.tail _ (.tail _ (.tail _ (.tail _ (.tail _ (.head _)))))))) | exact .tail _ (.tail _ (.tail _ (.tail _ (.tail _ (.tail _ (.tail _ (.tail _ (.tail _ (.head _)))))))))), Nat.le_of_ble_eq_true rfl⟩, ?_⟩)
          · repeat (first | exact trivial | refine ⟨⟨_, rfl, (by first | exact .of rfl | exact .lit rfl | exact .of (by first | ((exact congrArg (fun z => SV.v (Value.int .i64 z)) hw))) | exact .lit (by first | ((exact congrArg (fun z => SV.v (Value.int .i64 z)) hw)))), (by first | exact trivial | exact Nat.le_of_ble_eq_true rfl)⟩, ?_⟩)
          · repeat (first | exact trivial | refine ⟨⟨_, rfl⟩, ?_⟩)
          · repeat (first | exact trivial | refine ⟨.inl ⟨_, rfl, (by first | rfl | ((exact congrArg (fun z => SV.v (Value.int .i64 z)) hw)))⟩, ?_⟩ | refine ⟨.inr ⟨Nat.le_of_ble_eq_true rfl, rfl, rfl, rfl, rfl⟩, ?_⟩)
      · have hge : xs.length ≤ k := by simpa using g2
        have heq : xs.map (·.m) = ys.map (·.m) := by rw [List.take_of_length_le (by simpa using hge), List.take_of_length_le (by simp; omega)] at he; exact he
        refine retw [] ⟨?_, rfl⟩ trivial rfl trivial (fun _ => rfl)
        simp [heq]

end Go.Proofs.Ytpopeaoklccgcaa

namespace Go.Proofs.Ytpopeaoklccgcaa

open Go Go.Sx Go.RowKit

def Prog.small20 (s : Prog) : Prop := s.sems.length ≤ 1048576 ∧ s.groups.length ≤ 1048576 ∧ s.barriers.length ≤ 1048576 ∧ s.rooms.length ≤ 1048576 ∧ allS OpS.small20 s.threads

def szProgM (s : Prog) (left : Int) : Int := szSeq [szN s.sems.length, szN s.groups.length, szN s.barriers.length, szN s.rooms.length, szAll szOpSM s.threads] left

theorem szProgM_gen (s : Prog) (l : Int) (hl : l ≤ 1048576) (h : ¬ szProgM s l < 0) : s.small20 ∧ szProgM s l ≤ l := by
  simp only [szProgM, szSeq, szList] at h ⊢
  by_cases q0 : szN s.sems.length l < 0
  · simp [q0] at h
  obtain ⟨p0, r0⟩ := szN_gen hl q0
  have t0 : szN s.sems.length l ≤ 1048576 := Int.le_trans r0 hl
  by_cases q1 : szN s.groups.length (szN s.sems.length l) < 0
  · simp [q0, q1] at h
  obtain ⟨p1, r1⟩ := szN_gen t0 q1
  have t1 : szN s.groups.length (szN s.sems.length l) ≤ 1048576 := Int.le_trans r1 t0
  by_cases q2 : szN s.barriers.length (szN s.groups.length (szN s.sems.length l)) < 0
  · simp [q0, q1, q2] at h
  obtain ⟨p2, r2⟩ := szN_gen t1 q2
  have t2 : szN s.barriers.length (szN s.groups.length (szN s.sems.length l)) ≤ 1048576 := Int.le_trans r2 t1
  by_cases q3 : szN s.rooms.length (szN s.barriers.length (szN s.groups.length (szN s.sems.length l))) < 0
  · simp [q0, q1, q2, q3] at h
  obtain ⟨p3, r3⟩ := szN_gen t2 q3
  have t3 : szN s.rooms.length (szN s.barriers.length (szN s.groups.length (szN s.sems.length l))) ≤ 1048576 := Int.le_trans r3 t2
  by_cases q4 : szAll szOpSM s.threads (szN s.rooms.length (szN s.barriers.length (szN s.groups.length (szN s.sems.length l)))) < 0
  · simp [q0, q1, q2, q3, q4] at h
  obtain ⟨p4, r4⟩ := szAll_gen szOpSM_gen t3 q4
  have t4 : szAll szOpSM s.threads (szN s.rooms.length (szN s.barriers.length (szN s.groups.length (szN s.sems.length l)))) ≤ 1048576 := Int.le_trans r4 t3
  simp only [q0, q1, q2, q3, q4, if_false]
  exact ⟨⟨p0, p1, p2, p3, p4⟩, by omega⟩

set_option maxHeartbeats 16000000 in
set_option maxRecDepth 100000 in
theorem szProg_c (s : ProgH) (left : Int) (w : World) (h : At w [fR (progO s)]) (h0 : -1 ≤ left) (h1 : left ≤ 1048576) :
    Calls Try.prog 18 #[progV s, .int .i64 left] w (Ret w fun v L => v = .int .i64 (szProgM s.pure left) ∧ L = []) := by
  have hz : szProgM s.pure left = szSeq [szN s.sems.length, szN s.groups.length, szN s.barriers.length, szN s.rooms.length, szAll szOpSM (s.threads.map (·.m))] left := rfl
  simp only [szSeq, szList] at hz
  refine calls2 Try.func18 rfl tabOk w _ rfl _ rfl _ h ⟨rfl, rfl, trivial⟩ _ _ (by decide) ?_
  refine stop_call _ cl24 rfl rfl rfl rfl ⟨rfl, rfl⟩ (fun A w hW => ret_abs (szIntS_c s.h0 s.sems left w ⟨hW.get 0 rfl (.ofR (progO_sems s)), trivial⟩ h0 h1)) ?_
  rintro v L ⟨a0, e0, rfl, rfl⟩
  have r0 : ¬ szN s.sems.length left < 0 → szN s.sems.length left ≤ left := fun q => (szN_gen h1 q).2
  simp only [← e0] at hz
  rw [← e0] at r0
  refine CaseB.mk (fun g => ?_) (fun g => ?_)
  · have q : a0 < 0 := by simpa using g
    exact retw [] ⟨by rw [hz]; simp [q], rfl⟩ trivial rfl trivial (fun _ => rfl)
  have q0 : ¬ a0 < 0 := by simpa using g
  have u0 : -1 ≤ a0 := by omega
  have v0 : a0 ≤ 1048576 := Int.le_trans (r0 q0) h1
  refine stop_call _ cl24 rfl rfl rfl rfl ⟨rfl, rfl⟩ (fun A w hW => ret_abs (szIntS_c s.h1 s.groups a0 w ⟨hW.get 0 rfl (.ofR (progO_groups s)), trivial⟩ u0 v0)) ?_
  rintro v L ⟨a1, e1, rfl, rfl⟩
  have r1 : ¬ szN s.groups.length a0 < 0 → szN s.groups.length a0 ≤ a0 := fun q => (szN_gen v0 q).2
  simp only [← e1] at hz
  rw [← e1] at r1
  refine CaseB.mk (fun g => ?_) (fun g => ?_)
  · have q : a1 < 0 := by simpa using g
    exact retw [] ⟨by rw [hz]; simp [q0, q], rfl⟩ trivial rfl trivial (fun _ => rfl)
  have q1 : ¬ a1 < 0 := by simpa using g
  have u1 : -1 ≤ a1 := by omega
  have v1 : a1 ≤ 1048576 := Int.le_trans (r1 q1) v0
  refine stop_call _ cl24 rfl rfl rfl rfl ⟨rfl, rfl⟩ (fun A w hW => ret_abs (szIntS_c s.h2 s.barriers a1 w ⟨hW.get 0 rfl (.ofR (progO_barriers s)), trivial⟩ u1 v1)) ?_
  rintro v L ⟨a2, e2, rfl, rfl⟩
  have r2 : ¬ szN s.barriers.length a1 < 0 → szN s.barriers.length a1 ≤ a1 := fun q => (szN_gen v1 q).2
  simp only [← e2] at hz
  rw [← e2] at r2
  refine CaseB.mk (fun g => ?_) (fun g => ?_)
  · have q : a2 < 0 := by simpa using g
    exact retw [] ⟨by rw [hz]; simp [q0, q1, q], rfl⟩ trivial rfl trivial (fun _ => rfl)
  have q2 : ¬ a2 < 0 := by simpa using g
  have u2 : -1 ≤ a2 := by omega
  have v2 : a2 ≤ 1048576 := Int.le_trans (r2 q2) v1
  refine stop_call _ cl24 rfl rfl rfl rfl ⟨rfl, rfl⟩ (fun A w hW => ret_abs (szIntS_c s.h3 s.rooms a2 w ⟨hW.get 0 rfl (.ofR (progO_rooms s)), trivial⟩ u2 v2)) ?_
  rintro v L ⟨a3, e3, rfl, rfl⟩
  have r3 : ¬ szN s.rooms.length a2 < 0 → szN s.rooms.length a2 ≤ a2 := fun q => (szN_gen v2 q).2
  simp only [← e3] at hz
  rw [← e3] at r3
  refine CaseB.mk (fun g => ?_) (fun g => ?_)
  · have q : a3 < 0 := by simpa using g
    exact retw [] ⟨by rw [hz]; simp [q0, q1, q2, q], rfl⟩ trivial rfl trivial (fun _ => rfl)
  have q3 : ¬ a3 < 0 := by simpa using g
  have u3 : -1 ≤ a3 := by omega
  have v3 : a3 ≤ 1048576 := Int.le_trans (r3 q3) v2
  refine stop_call _ cl73 rfl rfl rfl rfl ⟨rfl, rfl⟩ (fun A w hW => ret_abs (szOpSS_c s.h4 s.threads a3 w ⟨hW.get 0 rfl (.R_R (progO_threads s)), trivial⟩ u3 v3)) ?_
  rintro v L ⟨a4, e4, rfl, rfl⟩
  have r4 : ¬ szAll szOpSM (s.threads.map (·.m)) a3 < 0 → szAll szOpSM (s.threads.map (·.m)) a3 ≤ a3 := fun q => (szAll_gen szOpSM_gen v3 q).2
  simp only [← e4] at hz
  rw [← e4] at r4
  refine CaseB.mk (fun g => ?_) (fun g => ?_)
  · have q : a4 < 0 := by simpa using g
    exact retw [] ⟨by rw [hz]; simp [q0, q1, q2, q3, q], rfl⟩ trivial rfl trivial (fun _ => rfl)
  have q4 : ¬ a4 < 0 := by simpa using g
  have u4 : -1 ≤ a4 := by omega
  have v4 : a4 ≤ 1048576 := Int.le_trans (r4 q4) v3
  refine retw [] ⟨?_, rfl⟩ trivial rfl trivial (fun _ => rfl)
  rw [hz]; simp [q0, q1, q2, q3, q4]

set_option maxHeartbeats 16000000 in
set_option maxRecDepth 100000 in
theorem toProg_c (s : ProgH) (w : World) (h : At w [fR (progO s)]) (hb : s.pure.small20) :
    Calls Try.prog 19 #[progV s] w (Ret w fun v L => ∃ y : ProgH, v = progV y ∧ y.pure = s.pure ∧ L = [fO (progO y)]) := by
  obtain ⟨b0, b1, b2, b3, b4⟩ := hb
  refine calls1 Try.func19 rfl tabOk w _ rfl _ rfl _ h ⟨rfl, rfl, trivial⟩ _ (by decide) ?_
  refine stop_call _ cl33 rfl rfl rfl rfl ⟨rfl, rfl⟩ (fun A w hW => toIntS_c s.h0 s.sems w ⟨hW.get 0 rfl (.ofR (progO_sems s)), trivial⟩ b0) ?_
  rintro v L ⟨y0, rfl, rfl⟩
  refine stop_call _ cl33 rfl rfl rfl rfl ⟨rfl, rfl⟩ (fun A w hW => toIntS_c s.h1 s.groups w ⟨hW.get 1 rfl (.ofR (progO_groups s)), trivial⟩ b1) ?_
  rintro v L ⟨y1, rfl, rfl⟩
  refine stop_call _ cl33 rfl rfl rfl rfl ⟨rfl, rfl⟩ (fun A w hW => toIntS_c s.h2 s.barriers w ⟨hW.get 2 rfl (.ofR (progO_barriers s)), trivial⟩ b2) ?_
  rintro v L ⟨y2, rfl, rfl⟩
  refine stop_call _ cl33 rfl rfl rfl rfl ⟨rfl, rfl⟩ (fun A w hW => toIntS_c s.h3 s.rooms w ⟨hW.get 3 rfl (.ofR (progO_rooms s)), trivial⟩ b3) ?_
  rintro v L ⟨y3, rfl, rfl⟩
  refine stop_call _ cl74 rfl rfl rfl rfl ⟨rfl, rfl⟩ (fun A w hW => toOpSS_c s.h4 s.threads w ⟨hW.get 4 rfl (.R_R (progO_threads s)), trivial⟩ (allS_map b4).1 (allS_map b4).2) ?_
  rintro v L ⟨y4, ys4, rfl, e4, rfl⟩
  generalize hy : (⟨s.sems, s.groups, s.barriers, s.rooms, ys4, y0, y1, y2, y3, y4⟩ : ProgH) = y
  refine ret_shift (.joinO [4, 3, 2, 1, 0] (Gs := [[_], [_], [_], [_], _]) ⟨.inl ⟨_, rfl, .own⟩, .inl ⟨_, rfl, .own⟩, .inl ⟨_, rfl, .own⟩, .inl ⟨_, rfl, .own⟩, .inl ⟨_, rfl, .o⟩, trivial⟩ rfl (G := progO y) ?_) ?_
  · subst hy; exact .of_eq (by simp [progO])
  exact retw [0] ⟨y, by rw [← hy]; rfl, by rw [← hy]; simp [ProgH.pure, e4], rfl⟩ ⟨.inl ⟨_, rfl, rfl⟩, trivial⟩ rfl ⟨rfl, trivial⟩ (fun _ => rfl)

set_option maxHeartbeats 16000000 in
set_option maxRecDepth 100000 in
theorem eqProg_c (s t : ProgH) (w : World) (h : At w [fR (progO s), fR (progO t)]) (hb : s.pure.small20) (hb2 : t.pure.small20) :
    Calls Try.prog 20 #[progV s, progV t] w (Ret w fun v L => v = .bool (decide (s.pure = t.pure)) ∧ L = []) := by
  have hx : s.pure = t.pure ↔ s.sems = t.sems ∧ s.groups = t.groups ∧ s.barriers = t.barriers ∧ s.rooms = t.rooms ∧ s.threads.map (·.m) = t.threads.map (·.m) := by
    simp only [ProgH.pure, Prog.mk.injEq]
  obtain ⟨b0, b1, b2, b3, b4⟩ := hb
  obtain ⟨c0, c1, c2, c3, c4⟩ := hb2
  refine calls2 Try.func20 rfl tabOk w _ rfl _ rfl _ h ⟨rfl, rfl, rfl, rfl, trivial⟩ _ _ (by decide) ?_
  refine stop_call _ cl50 rfl rfl rfl rfl ⟨rfl, rfl⟩ (fun A w hW => eqIntS_c s.h0 t.h0 s.sems t.sems w ⟨hW.get 0 rfl (.ofR (progO_sems s)), hW.get 1 rfl (.ofR (progO_sems t)), trivial⟩ (Nat.le_trans b0 (by decide)) (Nat.le_trans c0 (by decide))) ?_
  rintro v L ⟨rfl, rfl⟩
  refine CaseB.mk (fun g0 => ?_) (fun g0 => ?_)
  · have g : ¬ s.pure = t.pure := fun e => by rw [hx] at e; simp [e] at g0
    exact retw [] ⟨by simp [g], rfl⟩ trivial rfl trivial (fun _ => rfl)
  refine stop_call _ cl50 rfl rfl rfl rfl ⟨rfl, rfl⟩ (fun A w hW => eqIntS_c s.h1 t.h1 s.groups t.groups w ⟨hW.get 0 rfl (.ofR (progO_groups s)), hW.get 1 rfl (.ofR (progO_groups t)), trivial⟩ (Nat.le_trans b1 (by decide)) (Nat.le_trans c1 (by decide))) ?_
  rintro v L ⟨rfl, rfl⟩
  refine CaseB.mk (fun g1 => ?_) (fun g1 => ?_)
  · have g : ¬ s.pure = t.pure := fun e => by rw [hx] at e; simp [e] at g1
    exact retw [] ⟨by simp [g], rfl⟩ trivial rfl trivial (fun _ => rfl)
  refine stop_call _ cl50 rfl rfl rfl rfl ⟨rfl, rfl⟩ (fun A w hW => eqIntS_c s.h2 t.h2 s.barriers t.barriers w ⟨hW.get 0 rfl (.ofR (progO_barriers s)), hW.get 1 rfl (.ofR (progO_barriers t)), trivial⟩ (Nat.le_trans b2 (by decide)) (Nat.le_trans c2 (by decide))) ?_
  rintro v L ⟨rfl, rfl⟩
  refine CaseB.mk (fun g2 => ?_) (fun g2 => ?_)
  · have g : ¬ s.pure = t.pure := fun e => by rw [hx] at e; simp [e] at g2
    exact retw [] ⟨by simp [g], rfl⟩ trivial rfl trivial (fun _ => rfl)
  refine stop_call _ cl50 rfl rfl rfl rfl ⟨rfl, rfl⟩ (fun A w hW => eqIntS_c s.h3 t.h3 s.rooms t.rooms w ⟨hW.get 0 rfl (.ofR (progO_rooms s)), hW.get 1 rfl (.ofR (progO_rooms t)), trivial⟩ (Nat.le_trans b3 (by decide)) (Nat.le_trans c3 (by decide))) ?_
  rintro v L ⟨rfl, rfl⟩
  refine CaseB.mk (fun g3 => ?_) (fun g3 => ?_)
  · have g : ¬ s.pure = t.pure := fun e => by rw [hx] at e; simp [e] at g3
    exact retw [] ⟨by simp [g], rfl⟩ trivial rfl trivial (fun _ => rfl)
  refine stop_call _ cl75 rfl rfl rfl rfl ⟨rfl, rfl⟩ (fun A w hW => eqOpSS_c s.h4 t.h4 s.threads t.threads w ⟨hW.get 0 rfl (.R_R (progO_threads s)), hW.get 1 rfl (.R_R (progO_threads t)), trivial⟩ (allS_map b4).1 (allS_map b4).2 (allS_map c4).2) ?_
  rintro v L ⟨rfl, rfl⟩
  refine CaseB.mk (fun g4 => ?_) (fun g4 => ?_)
  · have g : ¬ s.pure = t.pure := fun e => by rw [hx] at e; simp [e] at g4
    exact retw [] ⟨by simp [g], rfl⟩ trivial rfl trivial (fun _ => rfl)
  have g : s.pure = t.pure := hx.2 ⟨by simpa using g0, by simpa using g1, by simpa using g2, by simpa using g3, by simpa using g4⟩
  exact retw [] ⟨by simp [g], rfl⟩ trivial rfl trivial (fun _ => rfl)

end Go.Proofs.Ytpopeaoklccgcaa

namespace Go.Sx

open Go Go.RowKit

theorem fB_of {w : World} {G : List Fct} (h : ∀ g ∈ G, g.P w ∧ ∀ b, g.foot b → b < w.heap.size) : (fB true G).P w ∧ ∀ b, (fB true G).foot b → b < w.heap.size :=
  ⟨fun g hg => (h g hg).1, fun b ⟨g, hg, hb⟩ => (h g hg).2 b hb⟩

theorem fB_two {w : World} {f g : Fct} (h : f.P w ∧ ∀ b, f.foot b → b < w.heap.size) (k : g.P w ∧ ∀ b, g.foot b → b < w.heap.size) : (fB true [f, g]).P w ∧ ∀ b, (fB true [f, g]).foot b → b < w.heap.size :=
  fB_of fun e he => by
    simp only [List.mem_cons, List.not_mem_nil, or_false] at he
    rcases he with rfl | rfl
    · exact h
    · exact k

theorem fB_mem {w : World} {G : List Fct} (h : (fB true G).P w ∧ ∀ b, (fB true G).foot b → b < w.heap.size) {g : Fct} (hg : g ∈ G) : g.P w ∧ ∀ b, g.foot b → b < w.heap.size :=
  ⟨h.1 g hg, fun b hb => h.2 b ⟨g, hg, hb⟩⟩

section

variable {E : Env} {ti : Nat → TI} {A : Nat → Nat} {T : List (Nat × SV)} {n c : Nat} {B : List (Nat × TypeId × Nat)} {M Ms : List ((Nat × Nat) × SV)} {F Fs : List Fct} {o : Oper} {next : St → Prop} {w : World}

/-- A load of a part of a variable that a fact knows. -/
theorem stop_loadF (k1 : Nat) {t ty : TypeId} {x : Operand} {g off d : Nat} {cs : List Value} {v : Value} {size : Nat} {zero : List Value} {fs : List (Nat × Nat × Bool)} {el : Option TypeId} {ik : Option IntKind} {kk bytes : Nat}
    (hti : ∀ t, TIok E.P t (ti t)) (hop : o.op = .load t x) (hx : evalO T x = some (.v (.pointer (some ⟨g, off, none⟩)))) (ht : ti t = .mk false size zero fs el ik kk bytes) (hF : F[k1]? = some (fVar g ty cs)) (hv : cs[off]? = some v) (hd : Dst E o d)
    (hnext : next (.mk ((d, .v v) :: T) n c B M F)) : OpW (opStop E o next T n c B M F) := by
  refine ⟨fun A a w hW hT => ?_⟩
  have htt := hti t
  rw [ht] at htt
  obtain ⟨ii, dd, z, e1, e2, e3, e4, e5, e6, e7, e8, e9, e10, e11⟩ := tiSum_parts htt
  have hx' : a.eval x = .pointer (some ⟨g, off, none⟩) := (evalO_sound hT hx).1
  have hb : Blk w g ty cs := (hW.nth k1 hF).1
  have hc : w.cell? ⟨g, off, none⟩ = some v := by
    rw [cell_of_row _ _ _ _ _ _ hb]
    show cs.toArray[off]? = some v
    simpa using hv
  have hr : (execOp a.eval o).run E.P w = .ok (.value v) w := by
    simp [execOp, hop, hx', Instr.loadAt, Instr.sureAddr, run_loadVar_one (w := w) e2 e3 _ _ hc]
  refine upon_of_value hr ?_
  rw [hd.1]
  exact ⟨_, ⟨_, hW, hT.put (v := .v v) hd.lt trivial⟩, hnext⟩

/-- A bundle of own rows is parted into bundles. -/
theorem Shift.splitOO {F : List Fct} (k : Nat) {G : List Fct} (Gs : List (List Fct)) (hk : F[k]? = some (fO G)) (hp : G.Perm Gs.flatten) : Shift F (Gs.map (fun g => fO g) ++ F.eraseIdx k) := by
  intro E A n B M w h
  obtain ⟨⟨h1, hpw⟩, h2, h3⟩ := h.fct _ (List.mem_of_getElem? hk)
  have hsub := h.sub (eraseIdx_sub F k)
  have hdj := pairwise_nth_erase h.dj hk
  have hpw' := (hp.pairwise_iff (fun h => Dj.symm h)).1 hpw
  rw [List.pairwise_flatten] at hpw'
  have hG : ∀ g ∈ Gs, ∀ f ∈ g, f ∈ G := fun g hg f hf => hp.mem_iff.2 (List.mem_flatten.2 ⟨g, hg, hf⟩)
  refine ⟨h.key, h.inj, h.mem, h.a0, h.n0, h.ext, fun f hf => ?_, ?_⟩
  · rcases List.mem_append.1 hf with hf | hf
    · obtain ⟨g, hg, rfl⟩ := List.mem_map.1 hf
      refine ⟨⟨fun f hf => h1 f (hG g hg f hf), hpw'.1 g hg⟩, ?_, ?_⟩
      · rintro b ⟨f, hf, hb⟩; exact h2 b ⟨f, hG g hg f hf, hb⟩
      · rintro _ b ⟨f, hf, hb⟩; exact h3 rfl b ⟨f, hG g hg f hf, hb⟩
    · exact hsub.fct f hf
  · rw [List.pairwise_append]
    refine ⟨?_, hsub.dj, fun f hf g hg ho b hb hb' => ?_⟩
    · rw [List.pairwise_map]
      refine hpw'.2.imp_of_mem ?_
      intro g1 g2 hg1 hg2 hd _ b hb hb'
      obtain ⟨f1, hf1, hb1⟩ := hb
      obtain ⟨f2, hf2, hb2⟩ := hb'
      exact hd f1 hf1 f2 hf2 (.inl (h1 f1 (hG g1 hg1 f1 hf1)).2.1) b hb1 hb2
    · obtain ⟨g', hg', rfl⟩ := List.mem_map.1 hf
      obtain ⟨f1, hf1, hb1⟩ := hb
      exact hdj g hg (.inl rfl) b ⟨f1, hG g' hg' f1 hf1, hb1⟩ hb'

/-- A slot's value in another spelling. -/
theorem stop_eq (t : Nat) {x y : Value} (ht : look T t = some (.v x)) (e : x = y) (k : OpW (opStop E o next ((t, .v y) :: T) n c B M F)) : OpW (opStop E o next T n c B M F) := by
  subst e
  refine ⟨fun A a w hW hT => k.out A a w hW ⟨hT.size, hT.defers, fun t' v hv => ?_⟩⟩
  rw [look_cons] at hv
  by_cases e : t = t'
  · subst e
    simp at hv; subst hv
    exact hT.tm t _ ht
  · simp [e] at hv
    exact hT.tm t' v hv

end

theorem eqGuard_str {P : Program} {op : BinOp} {t : TypeId} {x y : Operand} {a b : ByteArray} (w : World) : (eqGuard op t x y (.string a) (.string b)).run P w = .ok () w := by
  cases op <;> rfl

theorem eql_str {P : Program} {t : TypeId} {a b : ByteArray} (w : World) : (binOp .eql t (.string a) (.string b)).run P w = .ok (.bool (a.toList == b.toList)) w := by
  rw [binOp_string_eql]; rfl

end Go.Sx

namespace Go.Proofs.Ytpopeaoklccgcaa

open Go Go.Sx Go.RowKit

/-- The elements marked, from k on. -/
def mkL {α : Type} (mk : Nat → α → α) (nx : Nat → α → Nat) : Nat → List α → List α
  | _, [] => []
  | k, x :: r => mk k x :: mkL mk nx (nx k x) r

def nxL {α : Type} (nx : Nat → α → Nat) : Nat → List α → Nat
  | k, [] => k
  | k, x :: r => nxL nx (nx k x) r

theorem mkL_len {α : Type} (mk : Nat → α → α) (nx : Nat → α → Nat) : ∀ (k : Nat) (xs : List α), (mkL mk nx k xs).length = xs.length
  | _, [] => rfl
  | k, x :: r => by simp [mkL, mkL_len mk nx (nx k x) r]

theorem nxL_le {α : Type} {nx : Nat → α → Nat} {C : Nat} {P : α → Prop} (h : ∀ k x, P x → nx k x ≤ k + C) : ∀ (k : Nat) (xs : List α), (∀ x ∈ xs, P x) → nxL nx k xs ≤ k + xs.length * C
  | k, [], _ => by simp [nxL]
  | k, x :: r, hx => by
    have h1 := nxL_le h (nx k x) r (fun y hy => hx y (by simp [hy]))
    have h2 := h k x (hx x (by simp))
    have e : (r.length + 1) * C = r.length * C + C := Nat.succ_mul _ _
    simp only [nxL, List.length_cons, e]
    omega

theorem app_get {α : Type} {ys zs : List α} {y : α} (h : ys.length < (ys ++ y :: zs).length) : (ys ++ y :: zs)[ys.length]'h = y := by simp

theorem app_set {α : Type} (ys zs : List α) (y z : α) : (ys ++ y :: zs).set ys.length z = ys ++ z :: zs := by simp

theorem perm_out {α β : Type} (f : α → List β) (ys zs : List α) (z : α) : ((ys ++ z :: zs).flatMap f).Perm (f z ++ (ys ++ zs).flatMap f) := by
  simp only [List.flatMap_append, List.flatMap_cons]
  rw [← List.append_assoc, ← List.append_assoc]
  exact List.perm_append_comm.append_right _

theorem perm_in {α β : Type} (f : α → List β) (ys zs : List α) (z : α) : (f z ++ (ys ++ zs).flatMap f).Perm (((ys ++ [z]) ++ zs).flatMap f) := by
  refine (perm_out f ys zs z).symm.trans (.of_eq ?_)
  simp

theorem own_eq {α : Type} {i : Sl} {e : TypeId} {enc : α → List Value} {sz : Nat} {xs ys : List α} (h : cells enc xs = cells enc ys) (hl : xs.length = ys.length) : own i e enc sz xs = own i e enc sz ys := by
  simp only [own, fOwn, h, hl]

theorem retG_shift {E : Env} {n : Nat} {B : List (Nat × TypeId × Nat)} {M : List ((Nat × Nat) × SV)} {F F' : List Fct} {X : (Nat → Nat) → World → Prop} (h : Shift F F') (k : RetW (∀ A w, WD E A n B M F' w → X A w)) : RetW (∀ A w, WD E A n B M F w → X A w) := ret_shift h k

end Go.Proofs.Ytpopeaoklccgcaa

namespace Go.Proofs.Ytpopeaoklccgcaa

open Go Go.Sx Go.RowKit

def mkOpS (c : Nat) (x : OpSH) : OpSH := ⟨marksOp (c) x.m.length, x.q⟩

def nxOpS (c : Nat) (x : OpSH) : Nat := c + 3 * x.m.length

theorem nxOpS_le (c : Nat) (x : OpSH) (h : OpS.small20 x.m) : nxOpS c x ≤ c + 8388608 := by
  unfold OpS.small20 at h
  unfold nxOpS
  omega

set_option maxHeartbeats 16000000 in
set_option maxRecDepth 100000 in
theorem markOpSS_c (h : Sl) (xs : List OpSH) (k : Nat) (w : World) (hh : AtG w [fO (threadsO h xs)] []) (hl : xs.length ≤ 1048576) (hb : ∀ x ∈ xs, OpS.small20 x.m) (hk : k ≤ 144115188075855872) :
    Calls Try.prog 77 #[h.val xs.length, .int .i64 (k : Int)] w (RetG w [fO (threadsO h xs)] fun v L => v = .int .i64 ((nxL nxOpS k xs : Nat) : Int) ∧ L = [fO (threadsO h (mkL mkOpS nxOpS k xs))]) := by
  refine callsG_fn Try.func77 rfl tabOk w _ rfl _ rfl _ _ hh trivial _ _ rfl rfl ?_
  refine LoopW.mk ⟨{ p : List OpSH × List OpSH × Nat // mkL mkOpS nxOpS k xs = p.1 ++ mkL mkOpS nxOpS p.2.2 p.2.1 ∧ nxL nxOpS k xs = nxL nxOpS p.2.2 p.2.1 ∧ p.1.length + p.2.1.length = xs.length ∧ (∀ x ∈ p.2.1, OpS.small20 x.m) ∧ p.2.2 + p.2.1.length * 8388608 ≤ 288230376151711744 },
    fun p => .mk [(0, .v (h.val (p.1.1 ++ p.1.2.1).length)), (1, .v (.int .i64 (p.1.2.2 : Int))), (5, .v (.int .i64 (p.1.1.length : Int)))] 0 0 [] [] [own h 49 cOpSH 1 (p.1.1 ++ p.1.2.1), fO ((p.1.1 ++ p.1.2.1).flatMap opSO)],
    fun p => p.1.2.1.length, ⟨([], xs, k), by simp, rfl, by simp, hb, by simp only; omega⟩, ?_, ?_⟩
  · refine weak_shift (.splitO 0 (L := [own h 49 cOpSH 1 xs]) (G' := xs.flatMap opSO) rfl (.of_eq rfl)) ?_
    refine weak_mk [0, 1] ?_ ?_ ?_ ?_ ?_ rfl rfl
    · repeat (first | exact trivial | refine ⟨⟨_, rfl, (by first | exact .of rfl | exact .lit rfl | exact .of (by first | (rfl)) | exact .lit (by first | (rfl))), (by first | exact trivial | exact Nat.le_of_ble_eq_true rfl)⟩, ?_⟩)
    · repeat (first | exact trivial | refine ⟨⟨(by first | exact .head _ | exact .tail _ (.head _) | exact .tail _ (.tail _ (.head _)) | exact .tail _ (.tail _ (.tail _ (.head _))) | exact .tail _ (.tail _ (.tail _ (.tail _ (.head _)))) | exact .tail _ (.tail _ (.tail _ (.tail _ (.tail _ (.head _))))) | exact .tail _ (.tail _ (.tail _ (.tail _ (.tail _ (.tail _ (.head _)))))) | exact .tail _ (.tail _ (.tail _ (.tail _ (.tail _ (.tail _ (.tail _ (.head _))))))) | exact .tail _ (.tail _ (.tail _ (.tail _ (.tail _ (.tail _ (.tail _ (.tail _ (.head _)))))))) | exact .tail _ (.tail _ (.tail _ (.tail _ (.tail _ (.tail _ (.tail _ (.tail _ (.tail _ (.head _)))))))))), Nat.le_of_ble_eq_true rfl⟩, ?_⟩)
    · repeat (first | exact trivial | refine ⟨⟨_, rfl, (by first | exact .of rfl | exact .lit rfl | exact .of (by first | (rfl)) | exact .lit (by first | (rfl))), (by first | exact trivial | exact Nat.le_of_ble_eq_true rfl)⟩, ?_⟩)
    · repeat (first | exact trivial | refine ⟨⟨_, rfl⟩, ?_⟩)
    · repeat (first | exact trivial | refine ⟨.inl ⟨_, rfl, (by first | rfl | (rfl))⟩, ?_⟩ | refine ⟨.inr ⟨Nat.le_of_ble_eq_true rfl, rfl, rfl, rfl, rfl⟩, ?_⟩)
  rintro ⟨⟨ys, zs, c⟩, i1, i2, i3, i4, i5⟩
  simp only at i1 i2 i3 i4 i5
  refine CaseB.mk (fun g => ?_) (fun g => ?_)
  · cases zs with
    | nil => simp at g
    | cons x zs =>
      simp only [List.length_cons] at i3 i5
      have hx := i4 x (by simp)
      have hnx := nxOpS_le c x hx
      unfold OpS.small20 at hx
      have hlt : ∀ y : OpSH, ys.length < (ys ++ y :: zs).length := fun y => by simp
      refine stop_idx encOpSH (xs := ys ++ x :: zs) tabOk rfl (Eq.trans rfl (congrArg (fun n => some (SV.v (h.val n))) (by simp))) rfl rfl rfl ⟨rfl, rfl⟩ (rdOwnAt 0 rfl) ys.length rfl (hlt _) (fun ad0 => ?_)
      rw [app_get]
      refine stop_shift (.splitO 1 (L := opSO x) (G' := (ys ++ zs).flatMap opSO) rfl (perm_out opSO ys zs x)) ?_
      refine stop_callG _ [0] (G := [_]) cl127 rfl rfl rfl rfl ⟨rfl, rfl⟩ ⟨rfl, trivial⟩ ⟨rfl, rfl, trivial⟩ (fun A w hW => (markOpS_c _ _ (c) w (hW.atG [0] (G := [_]) ⟨rfl, trivial⟩ rfl ⟨rfl, rfl, trivial⟩ [] (Fo := []) trivial rfl) (by first | omega | (simp only; omega)) (by omega))) ?_
      rintro v L ⟨rfl, rfl⟩
      have hwj := e_succ ys.length xs.length (by omega) (by omega)
      have hz : nxOpS c x = c + 3 * x.m.length := rfl
      generalize hzz : mkOpS c x = z
      have hwj2 : IntKind.i64.wrap ((ys.length : Int) + 1) = (((ys ++ [z]).length : Nat) : Int) := by rw [hwj]; simp
      have hl0 : h.val (ys ++ x :: zs).length = h.val ((ys ++ [z]) ++ zs).length := congrArg h.val (by simp)
      have hrow : own h 49 cOpSH 1 (ys ++ x :: zs) = own h 49 cOpSH 1 ((ys ++ [z]) ++ zs) := by
        subst hzz
        have e1 : cells cOpSH (ys ++ x :: zs) = cells cOpSH ((ys ++ [mkOpS c x]) ++ zs) := by simp [cells, cOpSH, mkOpS, marksOp_len]
        have e2 : (ys ++ x :: zs).length = ((ys ++ [mkOpS c x]) ++ zs).length := by simp
        rw [own_eq e1 e2]
      refine ⟨⟨(ys ++ [z], zs, nxOpS c x), by rw [i1, ← hzz]; simp [mkL], by rw [i2]; rfl, by simp; omega, fun y hy => i4 y (by simp [hy]), by simp only; omega⟩, ?_, by simp⟩
      refine weak_shift (.joinO [0, 1] (Gs := [[_], _]) ⟨.inl ⟨_, rfl, .own⟩, .inl ⟨_, rfl, .o⟩, trivial⟩ rfl (G := ((ys ++ [z]) ++ zs).flatMap opSO) (.trans (.of_eq (by rw [← hzz]; simp [opSO, mkOpS])) (perm_in opSO ys zs z))) ?_
      refine weak_mk [1, 0] ?_ ?_ ?_ ?_ ?_ rfl rfl
      · repeat (first | exact trivial | refine ⟨⟨_, rfl, (by first | exact .of rfl | exact .lit rfl | exact .of (by first | ((first | exact hrow | exact congrArg SV.v hl0 | exact congrArg (fun z => SV.v (Value.int .i64 z)) hwj2 | exact congrArg (fun z => SV.v (Value.int .i64 z)) rfl))) | exact .lit (by first | ((first | exact hrow | exact congrArg SV.v hl0 | exact congrArg (fun z => SV.v (Value.int .i64 z)) hwj2 | exact congrArg (fun z => SV.v (Value.int .i64 z)) rfl)))), (by first | exact trivial | exact Nat.le_of_ble_eq_true rfl)⟩, ?_⟩)
      · repeat (first | exact trivial | refine ⟨⟨(by first | exact .head _ | exact .tail _ (.head _) | exact .tail _ (.tail _ (.head _)) | exact .tail _ (.tail _ (.tail _ (.head _))) | exact .tail _ (.tail _ (.tail _ (.tail _ (.head _)))) | exact .tail _ (.tail _ (.tail _ (.tail _ (.tail _ (.head _))))) | exact .tail _ (.tail _ (.tail _ (.tail _ (.tail _ (.tail _ (.head _)))))) | exact .tail _ (.tail _ (.tail _ (.tail _ (.tail _ (.tail _ (.tail _ (.head _))))))) | exact .tail _ (.tail _ (.tail _ (.tail _ (.tail _ (.tail _ (.tail _ (.tail _ (.head _)))))))) | exact .tail _ (.tail _ (.tail _ (.tail _ (.tail _ (.tail _ (.tail _ (.tail _ (.tail _ (.head _)))))))))), Nat.le_of_ble_eq_true rfl⟩, ?_⟩)
      · repeat (first | exact trivial | refine ⟨⟨_, rfl, (by first | exact .of rfl | exact .lit rfl | exact .of (by first | ((first | exact hrow | exact congrArg SV.v hl0 | exact congrArg (fun z => SV.v (Value.int .i64 z)) hwj2 | exact congrArg (fun z => SV.v (Value.int .i64 z)) rfl))) | exact .lit (by first | ((first | exact hrow | exact congrArg SV.v hl0 | exact congrArg (fun z => SV.v (Value.int .i64 z)) hwj2 | exact congrArg (fun z => SV.v (Value.int .i64 z)) rfl)))), (by first | exact trivial | exact Nat.le_of_ble_eq_true rfl)⟩, ?_⟩)
      · repeat (first | exact trivial | refine ⟨⟨_, rfl⟩, ?_⟩)
      · repeat (first | exact trivial | refine ⟨.inl ⟨_, rfl, (by first | rfl | ((first | exact hrow | exact congrArg SV.v hl0 | exact congrArg (fun z => SV.v (Value.int .i64 z)) hwj2 | exact congrArg (fun z => SV.v (Value.int .i64 z)) rfl)))⟩, ?_⟩ | refine ⟨.inr ⟨Nat.le_of_ble_eq_true rfl, rfl, rfl, rfl, rfl⟩, ?_⟩)
  · cases zs with
    | nil =>
      simp only [mkL, List.append_nil] at i1
      simp only [nxL] at i2
      have hyl : ys.length = xs.length := by simpa using i3
      simp only [List.append_nil]
      refine retG_shift (.joinO [0, 1] (Gs := [[_], _]) ⟨.inl ⟨_, rfl, .own⟩, .inl ⟨_, rfl, .o⟩, trivial⟩ rfl (G := threadsO h ys) (.of_eq (by simp [threadsO, nestO]))) ?_
      exact retG [0] (L := [fO (threadsO h ys)]) ⟨congrArg (fun z : Nat => Value.int .i64 (z : Int)) i2.symm, by rw [i1]⟩ ⟨.inl ⟨_, rfl, rfl⟩, trivial⟩ rfl ⟨rfl, trivial⟩ (fun _ => rfl)
    | cons x zs => simp at g; omega

end Go.Proofs.Ytpopeaoklccgcaa

namespace Go.Proofs.Ytpopeaoklccgcaa

open Go Go.Sx Go.RowKit

def atProg0 (k : Nat) (s : ProgH) : Nat := k + s.sems.length

def atProg1 (k : Nat) (s : ProgH) : Nat := (atProg0 k s) + s.groups.length

def atProg2 (k : Nat) (s : ProgH) : Nat := (atProg1 k s) + s.barriers.length

def atProg3 (k : Nat) (s : ProgH) : Nat := (atProg2 k s) + s.rooms.length

def atProg4 (k : Nat) (s : ProgH) : Nat := nxL nxOpS (atProg3 k s) s.threads

def mkProg (k : Nat) (s : ProgH) : ProgH := { s with sems := marks (k) s.sems.length, groups := marks (atProg0 k s) s.groups.length, barriers := marks (atProg1 k s) s.barriers.length, rooms := marks (atProg2 k s) s.rooms.length, threads := mkL mkOpS nxOpS (atProg3 k s) s.threads }

set_option maxHeartbeats 16000000 in
set_option maxRecDepth 100000 in
theorem markProg_c (s : ProgH) (k : Nat) (w : World) (hh : AtG w [fO (progO s)] []) (hb : s.pure.small20) (hk : k ≤ 36028797018963968) :
    Calls Try.prog 21 #[progV s, .int .i64 (k : Int)] w (RetG w [fO (progO s)] fun v L => v = .int .i64 ((atProg4 k s : Nat) : Int) ∧ L = [fO (progO (mkProg k s))]) := by
  obtain ⟨b0, b1, b2, b3, b4⟩ := hb
  have t0 : atProg0 k s = k + s.sems.length := rfl
  have t1 : atProg1 k s = atProg0 k s + s.groups.length := rfl
  have t2 : atProg2 k s = atProg1 k s + s.barriers.length := rfl
  have t3 : atProg3 k s = atProg2 k s + s.rooms.length := rfl
  have t4 : atProg4 k s ≤ atProg3 k s + s.threads.length * 8388608 := nxL_le (P := fun x => OpS.small20 x.m) (fun c x h => nxOpS_le c x h) _ _ (allS_map b4).2
  have s0 : s.sems.length ≤ 1048576 := b0
  have s1 : s.groups.length ≤ 1048576 := b1
  have s2 : s.barriers.length ≤ 1048576 := b2
  have s3 : s.rooms.length ≤ 1048576 := b3
  have s4 := (allS_map b4).1
  refine callsG_fn Try.func21 rfl tabOk w _ rfl _ rfl _ _ hh trivial _ _ rfl rfl ?_
  refine stop_shift (.splitO 0 (L := [own s.h0 3 cInt 1 s.sems, own s.h1 3 cInt 1 s.groups, own s.h2 3 cInt 1 s.barriers, own s.h3 3 cInt 1 s.rooms]) (G' := threadsO s.h4 s.threads) rfl (.of_eq (by simp [progO]))) ?_
  refine stop_callG _ [0] (G := [_]) cl76 rfl rfl rfl rfl ⟨rfl, rfl⟩ ⟨rfl, trivial⟩ ⟨rfl, rfl, trivial⟩ (fun A w hW => (markIntS_c s.h0 s.sems (k) w (hW.atG [0] (G := [_]) ⟨rfl, trivial⟩ rfl ⟨rfl, rfl, trivial⟩ [] (Fo := []) trivial rfl) (Nat.le_trans b0 (by decide)) (by omega))) ?_
  rintro v L ⟨rfl, rfl⟩
  refine stop_callG _ [1] (G := [_]) cl76 rfl rfl rfl rfl ⟨rfl, rfl⟩ ⟨rfl, trivial⟩ ⟨rfl, rfl, trivial⟩ (fun A w hW => (markIntS_c s.h1 s.groups (atProg0 k s) w (hW.atG [1] (G := [_]) ⟨rfl, trivial⟩ rfl ⟨rfl, rfl, trivial⟩ [] (Fo := []) trivial rfl) (Nat.le_trans b1 (by decide)) (by omega))) ?_
  rintro v L ⟨rfl, rfl⟩
  refine stop_callG _ [2] (G := [_]) cl76 rfl rfl rfl rfl ⟨rfl, rfl⟩ ⟨rfl, trivial⟩ ⟨rfl, rfl, trivial⟩ (fun A w hW => (markIntS_c s.h2 s.barriers (atProg1 k s) w (hW.atG [2] (G := [_]) ⟨rfl, trivial⟩ rfl ⟨rfl, rfl, trivial⟩ [] (Fo := []) trivial rfl) (Nat.le_trans b2 (by decide)) (by omega))) ?_
  rintro v L ⟨rfl, rfl⟩
  refine stop_callG _ [3] (G := [_]) cl76 rfl rfl rfl rfl ⟨rfl, rfl⟩ ⟨rfl, trivial⟩ ⟨rfl, rfl, trivial⟩ (fun A w hW => (markIntS_c s.h3 s.rooms (atProg2 k s) w (hW.atG [3] (G := [_]) ⟨rfl, trivial⟩ rfl ⟨rfl, rfl, trivial⟩ [] (Fo := []) trivial rfl) (Nat.le_trans b3 (by decide)) (by omega))) ?_
  rintro v L ⟨rfl, rfl⟩
  refine stop_callG _ [4] (G := [_]) cl77 rfl rfl rfl rfl ⟨rfl, rfl⟩ ⟨rfl, trivial⟩ ⟨rfl, rfl, trivial⟩ (fun A w hW => (markOpSS_c s.h4 s.threads (atProg3 k s) w (hW.atG [4] (G := [_]) ⟨rfl, trivial⟩ rfl ⟨rfl, rfl, trivial⟩ [] (Fo := []) trivial rfl) (allS_map b4).1 (allS_map b4).2 (by omega))) ?_
  rintro v L ⟨rfl, rfl⟩
  refine retG_shift (.joinO [4, 3, 2, 1, 0] (Gs := [[_], [_], [_], [_], _]) ⟨.inl ⟨_, rfl, .own⟩, .inl ⟨_, rfl, .own⟩, .inl ⟨_, rfl, .own⟩, .inl ⟨_, rfl, .own⟩, .inl ⟨_, rfl, .o⟩, trivial⟩ rfl (G := progO (mkProg k s)) (.of_eq (by simp [progO, mkProg]))) ?_
  exact retG [0] ⟨rfl, rfl⟩ ⟨.inl ⟨_, rfl, rfl⟩, trivial⟩ rfl ⟨rfl, trivial⟩ (fun _ => rfl)

end Go.Proofs.Ytpopeaoklccgcaa
