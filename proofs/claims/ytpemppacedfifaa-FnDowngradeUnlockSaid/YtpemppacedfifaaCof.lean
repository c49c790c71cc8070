/- Common: lists of ints told equal by a law; distinct threads. -/
import Derived.Test.YtpemppacedfifaaCoe
namespace Go.Proofs.Ytpemppacedfifaa
open Go Go.Sx Go.RowKit

set_option maxRecDepth 100000 in
theorem wkInts_c (i j : Sl) (xs ys : List Int) (w : World) (h : At w [slo i cInt 1 xs, slo j cInt 1 ys]) (hb : xs.length ≤ 4294967296) (hb2 : ys.length ≤ 4294967296) :
    Calls Try.prog 30 #[i.val xs.length, j.val ys.length] w (Ret w fun v L => v = .bool (decide (xs = ys)) ∧ L = []) := by
  refine calls2 Try.func30 rfl tabOk w _ rfl _ rfl _ h ⟨rfl, rfl, rfl, rfl, trivial⟩ _ _ (by decide) ?_
  refine CaseB.mk (fun h => ?_) (fun h => ?_)
  · have hne : xs ≠ ys := by rintro rfl; simp at h
    refine retw [] ⟨?_, rfl⟩ trivial rfl trivial (fun _ => rfl)
    simp [hne]
  · have hl : xs.length = ys.length := by simp at h; omega
    refine LoopW.mk ⟨{ k : Nat // k ≤ xs.length ∧ xs.take k = ys.take k },
      fun p => .mk [(0, .v (i.val xs.length)), (1, .v (j.val ys.length)), (5, .v (.int .i64 p.1))] 0 0 [] [] [slo i cInt 1 xs, slo j cInt 1 ys],
      fun p => xs.length - p.1, ⟨0, Nat.zero_le _, rfl⟩, ?_, ?_⟩
    · refine weak_mk [0, 1] ?_ ?_ ?_ ?_ ?_ rfl rfl
      · repeat (first | exact trivial | refine ⟨⟨_, rfl, (by first | exact .of rfl | exact .lit rfl | exact .of (by first | (rfl)) | exact .lit (by first | (rfl))), (by first | exact trivial | exact Nat.le_of_ble_eq_true rfl)⟩, ?_⟩)
      · repeat (first | exact trivial | refine ⟨⟨(by first | exact .head _ | exact .tail _ (.head _) | exact .tail _ (.tail _ (.head _)) | exact .tail _ (.tail _ (.tail _ (.head _))) | exact .tail _ (.tail _ (.tail _ (.tail _ (.head _)))) | exact .tail _ (.tail _ (.tail _ (.tail _ (.tail _ (.head _))))) | exact .tail _ (.tail _ (.tail _ (.tail _ (.tail _ (.tail _ (.head _)))))) | exact .tail _ (.tail _ (.tail _ (.tail _ (.tail _ (.tail _ (.tail _ (.head _))))))) | exact .tail _ (.tail _ (.tail _ (.tail _ (.tail _ (.tail _ (.tail _ (.tail _ (.head _)))))))) | exact .tail _ (.tail _ (.tail _ (.tail _ (.tail _ (.tail _ (.tail _ (.tail _ (.tail _ (.head _)))))))))), Nat.le_of_ble_eq_true rfl⟩, ?_⟩)
      · repeat (first | exact trivial | refine ⟨⟨_, rfl, (by first | exact .of rfl | exact .lit rfl | exact .of (by first | (rfl)) | exact .lit (by first | (rfl))), (by first | exact trivial | exact Nat.le_of_ble_eq_true rfl)⟩, ?_⟩)
      · repeat (first | exact trivial | refine ⟨⟨_, rfl⟩, ?_⟩)
      · repeat (first | exact trivial | refine ⟨.inl ⟨_, rfl, (by first | rfl | (rfl))⟩, ?_⟩ | refine ⟨.inr ⟨Nat.le_of_ble_eq_true rfl, rfl, rfl, rfl, rfl⟩, ?_⟩)
    · rintro ⟨k, hk, he⟩
      refine CaseB.mk (fun h => ?_) (fun h => ?_)
      · have hlt : k < xs.length := by simpa using h
        have hlt2 : k < ys.length := by omega
        obtain ⟨q1, q2⟩ := take_eq_succ he hlt hlt2
        refine draw_start tabOk (by kernel_rfl) (by kernel_rfl) (by kernel_rfl) 200 [] [0, 1] [_, _] trivial trivial ⟨rfl, rfl, trivial⟩ rfl ?_
        refine d_idx (ti := tiOf tab) encInt tabOk rfl rfl rfl rfl rfl ⟨rfl, rfl⟩ (by first | exact rdAt 0 rfl | exact rdOwnAt 0 rfl | exact rdAt 1 rfl | exact rdOwnAt 1 rfl | exact rdAt 2 rfl | exact rdOwnAt 2 rfl | exact rdAt 3 rfl | exact rdOwnAt 3 rfl | exact rdAt 4 rfl | exact rdOwnAt 4 rfl | exact rdAt 5 rfl | exact rdOwnAt 5 rfl | exact rdAt 6 rfl | exact rdOwnAt 6 rfl | exact rdAt 7 rfl | exact rdOwnAt 7 rfl | exact rdAt 8 rfl | exact rdOwnAt 8 rfl | exact rdAt 9 rfl | exact rdOwnAt 9 rfl | exact rdAt 10 rfl | exact rdOwnAt 10 rfl | exact rdAt 11 rfl | exact rdOwnAt 11 rfl | exact rdAt 12 rfl | exact rdOwnAt 12 rfl | exact rdAt 13 rfl | exact rdOwnAt 13 rfl | exact rdAt 14 rfl | exact rdOwnAt 14 rfl | exact rdAt 15 rfl | exact rdOwnAt 15 rfl | exact rdAt 16 rfl | exact rdOwnAt 16 rfl | exact rdAt 17 rfl | exact rdOwnAt 17 rfl | exact rdAt 18 rfl | exact rdOwnAt 18 rfl | exact rdAt 19 rfl | exact rdOwnAt 19 rfl | exact rdAt 20 rfl | exact rdOwnAt 20 rfl | exact rdAt 21 rfl | exact rdOwnAt 21 rfl | exact rdAt 22 rfl | exact rdOwnAt 22 rfl | exact rdAt 23 rfl | exact rdOwnAt 23 rfl) k rfl (by first | omega | (simp; done) | (simp; omega) | (unfold maxLen; omega) | (unfold maxLen; simp; done) | (unfold maxLen; simp; omega)) (fun ad => ?_)
        refine d_idx (ti := tiOf tab) encInt tabOk rfl rfl rfl rfl rfl ⟨rfl, rfl⟩ (by first | exact rdAt 0 rfl | exact rdOwnAt 0 rfl | exact rdAt 1 rfl | exact rdOwnAt 1 rfl | exact rdAt 2 rfl | exact rdOwnAt 2 rfl | exact rdAt 3 rfl | exact rdOwnAt 3 rfl | exact rdAt 4 rfl | exact rdOwnAt 4 rfl | exact rdAt 5 rfl | exact rdOwnAt 5 rfl | exact rdAt 6 rfl | exact rdOwnAt 6 rfl | exact rdAt 7 rfl | exact rdOwnAt 7 rfl | exact rdAt 8 rfl | exact rdOwnAt 8 rfl | exact rdAt 9 rfl | exact rdOwnAt 9 rfl | exact rdAt 10 rfl | exact rdOwnAt 10 rfl | exact rdAt 11 rfl | exact rdOwnAt 11 rfl | exact rdAt 12 rfl | exact rdOwnAt 12 rfl | exact rdAt 13 rfl | exact rdOwnAt 13 rfl | exact rdAt 14 rfl | exact rdOwnAt 14 rfl | exact rdAt 15 rfl | exact rdOwnAt 15 rfl | exact rdAt 16 rfl | exact rdOwnAt 16 rfl | exact rdAt 17 rfl | exact rdOwnAt 17 rfl | exact rdAt 18 rfl | exact rdOwnAt 18 rfl | exact rdAt 19 rfl | exact rdOwnAt 19 rfl | exact rdAt 20 rfl | exact rdOwnAt 20 rfl | exact rdAt 21 rfl | exact rdOwnAt 21 rfl | exact rdAt 22 rfl | exact rdOwnAt 22 rfl | exact rdAt 23 rfl | exact rdOwnAt 23 rfl) k rfl (by first | omega | (simp; done) | (simp; omega) | (unfold maxLen; omega) | (unfold maxLen; simp; done) | (unfold maxLen; simp; omega)) (fun ad2 => ?_)
        refine CaseB.mk (fun h => ?_) (fun h => ?_)
        · have hne := q2 (by simpa using h)
          refine retw [] ⟨?_, rfl⟩ trivial rfl trivial (fun _ => rfl)
          simp [hne]
        · have heq := q1 (by simpa using h)
          have hw := wrapN k _ hlt hb
          refine ⟨⟨k + 1, by omega, heq⟩, ?_, by simp; omega⟩
          refine weak_mk [0, 1] ?_ ?_ ?_ ?_ ?_ rfl rfl
          · repeat (first | exact trivial | refine ⟨⟨_, rfl, (by first | exact .of rfl | exact .lit rfl | exact .of (by first | ((exact congrArg (fun z => SV.v (Value.int .i64 z)) hw))) | exact .lit (by first | ((exact congrArg (fun z => SV.v (Value.int .i64 z)) hw)))), (by first | exact trivial | exact Nat.le_of_ble_eq_true rfl)⟩, ?_⟩)
          · repeat (first | exact trivial | refine ⟨⟨(by first | exact .head _ | exact .tail _ (.head _) | exact .tail _ (.tail _ (.head _)) | exact .tail _ (.tail _ (.tail _ (.head _))) | exact .tail _ (.tail _ (.tail _ (.tail _ (.head _)))) | exact .tail _ (.tail _ (.tail _ (.tail _ (.tail _ (.head _))))) | exact .tail _ (.tail _ (.tail _ (.tail _ (.tail _ (.tail _ (.head _)))))) | exact .tail _ (.tail _ (.tail _ (.tail _ (.tail _ (.tail _ (.tail _ (.head _))))))) | exact .tail _ (.tail _ (.tail _ (.tail _ (.tail _ (.tail _ (.tail _ (.tail _ (.head _)))))))) | exact .tail _ (.tail _ (.tail _ (.tail _ (.tail _ (.tail _ (.tail _ (.tail _ (.tail _ (.head _)))))))))), Nat.le_of_ble_eq_true rfl⟩, ?_⟩)
          · repeat (first | exact trivial | refine ⟨⟨_, rfl, (by first | exact .of rfl | exact .lit rfl | exact .of (by first | ((exact congrArg (fun z => SV.v (Value.int .i64 z)) hw))) | exact .lit (by first | ((exact congrArg (fun z => SV.v (Value.int .i64 z)) hw)))), (by first | exact trivial | exact Nat.le_of_ble_eq_true rfl)⟩, ?_⟩)
          · repeat (first | exact trivial | refine ⟨⟨_, rfl⟩, ?_⟩)
          · repeat (first | exact trivial | refine ⟨.inl ⟨_, rfl, (by first | rfl | ((exact congrArg (fun z => SV.v (Value.int .i64 z)) hw)))⟩, ?_⟩ | refine ⟨.inr ⟨Nat.le_of_ble_eq_true rfl, rfl, rfl, rfl, rfl⟩, ?_⟩)
      · have hge : xs.length ≤ k := by simpa using h
        have heq : xs = ys := by rw [List.take_of_length_le hge, List.take_of_length_le (by omega)] at he; exact he
        refine retw [] ⟨?_, rfl⟩ trivial rfl trivial (fun _ => rfl)
        simp [heq]

theorem all_take_succ {α : Type} {p : α → Prop} {xs : List α} {k : Nat} (hk : k < xs.length) (h : ∀ x ∈ xs.take k, p x) (h1 : p xs[k]) : ∀ x ∈ xs.take (k + 1), p x := by
  intro x hx
  rw [List.take_succ_eq_append_getElem hk] at hx
  rcases List.mem_append.1 hx with hx | hx
  · exact h x hx
  · simp at hx; subst hx; exact h1
theorem len_pos {α : Type} {xs : List α} : decide ((xs.length : Int) > 0) = true ↔ xs ≠ [] := by
  cases xs <;> simp

theorem length_le_of_sub {xs ys : List Int} (h : xs.Nodup) (hs : ∀ x ∈ xs, x ∈ ys) : xs.length ≤ ys.length := by
  induction xs generalizing ys with
  | nil => simp
  | cons x r ih =>
    have hx := hs x (by simp)
    rw [List.nodup_cons] at h
    have := ih (ys := ys.erase x) h.2 (fun y hy => (List.mem_erase_of_ne (fun e => h.1 (by subst e; exact hy))).2 (hs y (by simp [hy])))
    rw [List.length_erase_of_mem hx] at this
    have : 0 < ys.length := List.length_pos_of_mem hx
    simp only [List.length_cons]
    omega
/-- Six threads, no more. -/
theorem distinct_len {xs : List Int} (h : distinct xs = true) : xs.length ≤ 6 := by
  simp only [distinct, decide_eq_true_eq] at h
  have hs : ∀ x ∈ xs, x ∈ ([0, 1, 2, 3, 4, 5] : List Int) := fun x hx => by
    have := h.2 x hx
    simp [isThread] at this
    simp
    omega
  exact length_le_of_sub h.1 hs
theorem distinct_take {xs : List Int} (h : (xs.take 7).Nodup ∧ ∀ x ∈ xs.take 7, isThread x = true) : xs.length ≤ 6 := by
  have hd : distinct (xs.take 7) = true := by simpa [distinct] using h
  have := distinct_len hd
  simp at this
  omega

set_option maxRecDepth 100000 in
theorem l2Waits_c (i : Sl) (xs : List Int) (w : World) (h : At w [slo i cInt 1 xs]) (hb : xs.length ≤ 8589934592) :
    Calls Try.prog 63 #[i.val xs.length] w (Ret w fun v L => v = .bool (distinct xs) ∧ L = []) := by
  refine calls1 Try.func63 rfl tabOk w _ rfl _ rfl _ h ⟨rfl, rfl, trivial⟩ _ (by decide) ?_
  refine LoopW.mk ⟨{ k : Nat // k ≤ xs.length ∧ k ≤ 7 ∧ (xs.take k).Nodup ∧ ∀ x ∈ xs.take k, isThread x = true },
    fun p => .mk [(0, .v (i.val xs.length)), (3, .v (.int .i64 p.1))] 0 0 [] [] [slo i cInt 1 xs],
    fun p => xs.length - p.1, ⟨0, Nat.zero_le _, by omega, by simp, by simp⟩, ?_, ?_⟩
  · refine weak_mk [0] ?_ ?_ ?_ ?_ ?_ rfl rfl
    · repeat (first | exact trivial | refine ⟨⟨_, rfl, (by first | exact .of rfl | exact .lit rfl | exact .of (by first | (rfl)) | exact .lit (by first | (rfl))), (by first | exact trivial | exact Nat.le_of_ble_eq_true rfl)⟩, ?_⟩)
    · repeat (first | exact trivial | refine ⟨⟨(by first | exact .head _ | exact .tail _ (.head _) | exact .tail _ (.tail _ (.head _)) | exact .tail _ (.tail _ (.tail _ (.head _))) | exact .tail _ (.tail _ (.tail _ (.tail _ (.head _)))) | exact .tail _ (.tail _ (.tail _ (.tail _ (.tail _ (.head _))))) | exact .tail _ (.tail _ (.tail _ (.tail _ (.tail _ (.tail _ (.head _)))))) | exact .tail _ (.tail _ (.tail _ (.tail _ (.tail _ (.tail _ (.tail _ (.head _))))))) | exact .tail _ (.tail _ (.tail _ (.tail _ (.tail _ (.tail _ (.tail _ (.tail _ (.head _)))))))) | exact .tail _ (.tail _ (.tail _ (.tail _ (.tail _ (.tail _ (.tail _ (.tail _ (.tail _ (.head _)))))))))), Nat.le_of_ble_eq_true rfl⟩, ?_⟩)
    · repeat (first | exact trivial | refine ⟨⟨_, rfl, (by first | exact .of rfl | exact .lit rfl | exact .of (by first | (rfl)) | exact .lit (by first | (rfl))), (by first | exact trivial | exact Nat.le_of_ble_eq_true rfl)⟩, ?_⟩)
    · repeat (first | exact trivial | refine ⟨⟨_, rfl⟩, ?_⟩)
    · repeat (first | exact trivial | refine ⟨.inl ⟨_, rfl, (by first | rfl | (rfl))⟩, ?_⟩ | refine ⟨.inr ⟨Nat.le_of_ble_eq_true rfl, rfl, rfl, rfl, rfl⟩, ?_⟩)
  · rintro ⟨k, hk, hk7, hn, ha⟩
    have hfin : ¬ (k < xs.length ∧ k ≤ 6) → decide ((xs.length : Int) ≤ 6) = distinct xs := by
      intro hc
      rcases Nat.lt_or_ge k xs.length with h1 | h1
      · have e : k = 7 := by omega
        subst e
        have := distinct_take ⟨hn, ha⟩
        omega
      · rw [List.take_of_length_le h1] at hn ha
        have hd : distinct xs = true := by simp only [distinct, decide_eq_true_eq]; exact ⟨hn, ha⟩
        have := distinct_len hd
        rw [hd, decide_eq_true_eq]
        omega
    refine CaseB.mk (fun h => ?_) (fun h => ?_)
    · have hlt : k < xs.length := by simpa using h
      refine CaseB.mk (fun h => ?_) (fun h => ?_)
      · have h6 : k ≤ 6 := by simp at h; omega
        refine draw_start tabOk (by kernel_rfl) (by kernel_rfl) (by kernel_rfl) 200 [] [0] [_] trivial trivial ⟨rfl, trivial⟩ rfl ?_
        refine d_idx (ti := tiOf tab) encInt tabOk rfl rfl rfl rfl rfl ⟨rfl, rfl⟩ (by first | exact rdAt 0 rfl | exact rdOwnAt 0 rfl | exact rdAt 1 rfl | exact rdOwnAt 1 rfl | exact rdAt 2 rfl | exact rdOwnAt 2 rfl | exact rdAt 3 rfl | exact rdOwnAt 3 rfl | exact rdAt 4 rfl | exact rdOwnAt 4 rfl | exact rdAt 5 rfl | exact rdOwnAt 5 rfl | exact rdAt 6 rfl | exact rdOwnAt 6 rfl | exact rdAt 7 rfl | exact rdOwnAt 7 rfl | exact rdAt 8 rfl | exact rdOwnAt 8 rfl | exact rdAt 9 rfl | exact rdOwnAt 9 rfl | exact rdAt 10 rfl | exact rdOwnAt 10 rfl | exact rdAt 11 rfl | exact rdOwnAt 11 rfl | exact rdAt 12 rfl | exact rdOwnAt 12 rfl | exact rdAt 13 rfl | exact rdOwnAt 13 rfl | exact rdAt 14 rfl | exact rdOwnAt 14 rfl | exact rdAt 15 rfl | exact rdOwnAt 15 rfl | exact rdAt 16 rfl | exact rdOwnAt 16 rfl | exact rdAt 17 rfl | exact rdOwnAt 17 rfl | exact rdAt 18 rfl | exact rdOwnAt 18 rfl | exact rdAt 19 rfl | exact rdOwnAt 19 rfl | exact rdAt 20 rfl | exact rdOwnAt 20 rfl | exact rdAt 21 rfl | exact rdOwnAt 21 rfl | exact rdAt 22 rfl | exact rdOwnAt 22 rfl | exact rdAt 23 rfl | exact rdOwnAt 23 rfl) k rfl (by first | omega | (simp; done) | (simp; omega) | (unfold maxLen; omega) | (unfold maxLen; simp; done) | (unfold maxLen; simp; omega)) (fun ad => ?_)
        refine d_call _ cl44 rfl rfl rfl rfl ⟨rfl, rfl⟩ (fun A w hW => l1Thread_c _ w) ?_
        rintro v L ⟨rfl, rfl⟩
        refine CaseB.mk (fun h => ?_) (fun h => ?_)
        · have h1 : isThread xs[k] = false := by simpa using h
          exact retw [] ⟨congrArg Value.bool (distinct_no hlt (.inl h1)).symm, rfl⟩ trivial rfl trivial (fun _ => rfl)
        · have h1 : isThread xs[k] = true := by simpa using h
          refine d_cut (ti := tiOf tab) tabOk rfl rfl rfl rfl ⟨rfl, rfl⟩ rfl rfl (by first | exact rdAt 0 rfl | exact rdOwnAt 0 rfl | exact rdAt 1 rfl | exact rdOwnAt 1 rfl | exact rdAt 2 rfl | exact rdOwnAt 2 rfl | exact rdAt 3 rfl | exact rdOwnAt 3 rfl | exact rdAt 4 rfl | exact rdOwnAt 4 rfl | exact rdAt 5 rfl | exact rdOwnAt 5 rfl | exact rdAt 6 rfl | exact rdOwnAt 6 rfl | exact rdAt 7 rfl | exact rdOwnAt 7 rfl | exact rdAt 8 rfl | exact rdOwnAt 8 rfl | exact rdAt 9 rfl | exact rdOwnAt 9 rfl | exact rdAt 10 rfl | exact rdOwnAt 10 rfl | exact rdAt 11 rfl | exact rdOwnAt 11 rfl | exact rdAt 12 rfl | exact rdOwnAt 12 rfl | exact rdAt 13 rfl | exact rdOwnAt 13 rfl | exact rdAt 14 rfl | exact rdOwnAt 14 rfl | exact rdAt 15 rfl | exact rdOwnAt 15 rfl | exact rdAt 16 rfl | exact rdOwnAt 16 rfl | exact rdAt 17 rfl | exact rdOwnAt 17 rfl | exact rdAt 18 rfl | exact rdOwnAt 18 rfl | exact rdAt 19 rfl | exact rdOwnAt 19 rfl | exact rdAt 20 rfl | exact rdOwnAt 20 rfl | exact rdAt 21 rfl | exact rdOwnAt 21 rfl | exact rdAt 22 rfl | exact rdOwnAt 22 rfl | exact rdAt 23 rfl | exact rdOwnAt 23 rfl) (0) (k) ((xs.take k)).length rfl rfl (by first | omega | (simp; done) | (simp; omega) | (unfold maxLen; omega) | (unfold maxLen; simp; done) | (unfold maxLen; simp; omega)) (by first | omega | (simp; done) | (simp; omega) | (unfold maxLen; omega) | (unfold maxLen; simp; done) | (unfold maxLen; simp; omega)) (by first | omega | (simp; done) | (simp; omega) | (unfold maxLen; omega) | (unfold maxLen; simp; done) | (unfold maxLen; simp; omega)) ?_
          refine d_idx (ti := tiOf tab) encInt tabOk rfl rfl rfl rfl rfl ⟨rfl, rfl⟩ (by first | exact rdAt 0 rfl | exact rdOwnAt 0 rfl | exact rdAt 1 rfl | exact rdOwnAt 1 rfl | exact rdAt 2 rfl | exact rdOwnAt 2 rfl | exact rdAt 3 rfl | exact rdOwnAt 3 rfl | exact rdAt 4 rfl | exact rdOwnAt 4 rfl | exact rdAt 5 rfl | exact rdOwnAt 5 rfl | exact rdAt 6 rfl | exact rdOwnAt 6 rfl | exact rdAt 7 rfl | exact rdOwnAt 7 rfl | exact rdAt 8 rfl | exact rdOwnAt 8 rfl | exact rdAt 9 rfl | exact rdOwnAt 9 rfl | exact rdAt 10 rfl | exact rdOwnAt 10 rfl | exact rdAt 11 rfl | exact rdOwnAt 11 rfl | exact rdAt 12 rfl | exact rdOwnAt 12 rfl | exact rdAt 13 rfl | exact rdOwnAt 13 rfl | exact rdAt 14 rfl | exact rdOwnAt 14 rfl | exact rdAt 15 rfl | exact rdOwnAt 15 rfl | exact rdAt 16 rfl | exact rdOwnAt 16 rfl | exact rdAt 17 rfl | exact rdOwnAt 17 rfl | exact rdAt 18 rfl | exact rdOwnAt 18 rfl | exact rdAt 19 rfl | exact rdOwnAt 19 rfl | exact rdAt 20 rfl | exact rdOwnAt 20 rfl | exact rdAt 21 rfl | exact rdOwnAt 21 rfl | exact rdAt 22 rfl | exact rdOwnAt 22 rfl | exact rdAt 23 rfl | exact rdOwnAt 23 rfl) k rfl (by first | omega | (simp; done) | (simp; omega) | (unfold maxLen; omega) | (unfold maxLen; simp; done) | (unfold maxLen; simp; omega)) (fun ad => ?_)
          refine d_call _ cl56 rfl rfl rfl rfl ⟨rfl, rfl⟩ (fun A w hW => l2At_c (i.cut 0 1) (xs.take k) _ w ⟨atCut encInt 0 k (by omega) (by omega) (by simp) (hW.rd 0 rfl), trivial⟩ (by simp; omega)) ?_
          rintro v L ⟨rfl, rfl⟩
          refine CaseB.mk (fun h => ?_) (fun h => ?_)
          · have hm : xs[k] ∈ xs.take k := (atM_mem _ _).1 (by simpa using h)
            exact retw [] ⟨congrArg Value.bool (distinct_no hlt (.inr hm)).symm, rfl⟩ trivial rfl trivial (fun _ => rfl)
          · have hm : ¬ xs[k] ∈ xs.take k := fun hm => by have := (atM_mem _ _).2 hm; simp at h; omega
            have hT : xs.take (k + 1) = xs.take k ++ [xs[k]] := List.take_succ_eq_append_getElem hlt
            have hw := wrapN2 k _ hlt hb
            refine ⟨⟨k + 1, by omega, by omega, (nodup_take_succ hlt).2 ⟨hn, hm⟩, all_take_succ hlt ha h1⟩, ?_, by simp; omega⟩
            refine weak_mk [0] ?_ ?_ ?_ ?_ ?_ rfl rfl
            · repeat (first | exact trivial | refine ⟨⟨_, rfl, (by first | exact .of rfl | exact .lit rfl | exact .of (by first | ((exact congrArg (fun z => SV.v (Value.int .i64 z)) hw))) | exact .lit (by first | ((exact congrArg (fun z => SV.v (Value.int .i64 z)) hw)))), (by first | exact trivial | exact Nat.le_of_ble_eq_true rfl)⟩, ?_⟩)
            · repeat (first | exact trivial | refine ⟨⟨(by first | exact .head _ | exact .tail _ (.head _) | exact .tail _ (.tail _ (.head _)) | exact .tail _ (.tail _ (.tail _ (.head _))) | exact .tail _ (.tail _ (.tail _ (.tail _ (.head _)))) | exact .tail _ (.tail _ (.tail _ (.tail _ (.tail _ (.head _))))) | exact .tail _ (.tail _ (.tail _ (.tail _ (.tail _ (.tail _ (.head _)))))) | exact .tail _ (.tail _ (.tail _ (.tail _ (.tail _ (.tail _ (.tail _ (.head _))))))) | exact .tail _ (.tail _ (.tail _ (.tail _ (.tail _ (.tail _ (.tail _ (.tail _ (.head _)))))))) | exact .tail _ (.tail _ (.tail _ (.tail _ (.tail _ (.tail _ (.tail _ (.tail _ (.tail _ (.head _)))))))))), Nat.le_of_ble_eq_true rfl⟩, ?_⟩)
            · repeat (first | exact trivial | refine ⟨⟨_, rfl, (by first | exact .of rfl | exact .lit rfl | exact .of (by first | ((exact congrArg (fun z => SV.v (Value.int .i64 z)) hw))) | exact .lit (by first | ((exact congrArg (fun z => SV.v (Value.int .i64 z)) hw)))), (by first | exact trivial | exact Nat.le_of_ble_eq_true rfl)⟩, ?_⟩)
            · repeat (first | exact trivial | refine ⟨⟨_, rfl⟩, ?_⟩)
            · repeat (first | exact trivial | refine ⟨.inl ⟨_, rfl, (by first | rfl | ((exact congrArg (fun z => SV.v (Value.int .i64 z)) hw)))⟩, ?_⟩ | refine ⟨.inr ⟨Nat.le_of_ble_eq_true rfl, rfl, rfl, rfl, rfl⟩, ?_⟩)
      · have h6 : ¬ k ≤ 6 := by simp at h; omega
        exact retw [] ⟨congrArg Value.bool (hfin (fun h => h6 h.2)), rfl⟩ trivial rfl trivial (fun _ => rfl)
    · have hlt : ¬ k < xs.length := by simpa using h
      exact retw [] ⟨congrArg Value.bool (hfin (fun h => hlt h.1)), rfl⟩ trivial rfl trivial (fun _ => rfl)

end Go.Proofs.Ytpemppacedfifaa

