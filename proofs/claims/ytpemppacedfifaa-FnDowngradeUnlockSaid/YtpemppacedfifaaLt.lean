/- Locks: the plain laws. -/
import Derived.Test.YtpemppacedfifaaLm
namespace Go.Proofs.Ytpemppacedfifaa
open Go Go.Sx Go.RowKit

theorem lockFor_small (m : Lock) (t : Int) (b : Bool) : (m.lockFor t b).1.small := Lock.small20_small (Lock.small8_20 (lockFor_s8 m t b))
theorem unlock_small (m : Lock) (t : Int) : (m.unlock t).1.small ∧ (m.unlock t).2.1.length ≤ 8 := ⟨Lock.small20_small (Lock.small8_20 (unlock_s8 m t).1), (unlock_s8 m t).2⟩
theorem down_small (m : Lock) (t : Int) : (m.down t).1.small ∧ (m.down t).2.1.length ≤ 8 := ⟨Lock.small20_small (Lock.small8_20 (down_s8 m t).1), (down_s8 m t).2⟩

structure Lock.Pre (m : Lock) : Prop where
  up : m.readers.Pairwise (· < ·)
  al : m.writer ≠ -1 → m.readers = []
  di : distinct m.all = true
theorem Lock.Valid.pre {m : Lock} (h : m.Valid) : m.Pre := ⟨h.up, h.al, h.di⟩
theorem thread_nn {t : Int} (h : isThread t = true) : 0 ≤ t ∧ t < 6 := by simpa [isThread] using h
theorem distinct_thread {xs : List Int} (h : distinct xs = true) {t : Int} (ht : t ∈ xs) : 0 ≤ t ∧ t < 6 := by
  simp only [distinct, decide_eq_true_eq] at h
  exact thread_nn (h.2 t ht)
theorem distinct_nodup {xs : List Int} (h : distinct xs = true) : xs.Nodup := by
  simp only [distinct, decide_eq_true_eq] at h
  exact h.1
theorem insT_lt {r : List Int} {t : Int} (h : r.Pairwise (· < ·)) (ht : ¬ t ∈ r) : (insT r t).Pairwise (· < ·) := by
  induction r with
  | nil => simp [insT]
  | cons x r ih =>
    rw [List.pairwise_cons] at h
    simp only [List.mem_cons, not_or] at ht
    rw [insT]
    split
    · rename_i hx
      rw [List.pairwise_cons, List.pairwise_cons]
      refine ⟨fun y hy => ?_, h⟩
      rcases List.mem_cons.1 hy with rfl | hy
      · exact hx
      · have := h.1 y hy; omega
    · rw [List.pairwise_cons]
      refine ⟨fun y hy => ?_, ih h.2 ht.2⟩
      rcases (insT_mem r t y).1 hy with rfl | hy
      · omega
      · exact h.1 y hy
theorem all_mk (R : List Int) (W : Int) (Q : List Want) : (Lock.mk R W Q).all = R ++ (if W = -1 then [] else [W]) ++ Q.map Want.t := rfl
theorem mem_all {m : Lock} {t : Int} (ht : 0 ≤ t) : t ∈ m.all ↔ m.has t = true ∨ m.waits t = true := by
  simp only [Lock.all, Lock.has, Lock.waits, List.mem_append, Bool.or_eq_true, beq_iff_eq, decide_eq_true_eq]
  by_cases hw : m.writer = -1
  · rw [if_pos hw, hw]
    simp
    constructor
    · rintro (h | h) <;> simp [h]
    · rintro ((h | h) | h)
      · omega
      · exact .inl h
      · exact .inr h
  · rw [if_neg hw]
    simp only [List.mem_singleton]
    constructor
    · rintro ((h | h) | h)
      · exact .inl (.inr h)
      · exact .inl (.inl h.symm)
      · exact .inr h
    · rintro ((h | h) | h)
      · exact .inl (.inr h.symm)
      · exact .inl (.inl h)
      · exact .inr h
/-- Handing on leaves a valid lock, and the same threads. -/
theorem give_pre (R : List Int) (W : Int) (Q : List Want) (h : (Lock.mk R W Q).Pre) : (Lock.mk R W Q).give.1.Valid ∧ (Lock.mk R W Q).give.1.all.Perm (Lock.mk R W Q).all := by
  induction Q generalizing R W with
  | nil => exact ⟨⟨h.up, h.al, h.di, .inl rfl⟩, List.Perm.refl _⟩
  | cons x q ih =>
    by_cases hc : W = -1 ∧ (x.w = false ∨ R = [])
    · rw [give_yes (by simp) hc]
      simp only [List.getElem_cons_zero, List.drop_succ_cons, List.drop_zero]
      have hx := distinct_thread h.di (t := x.t) (by simp [Lock.all])
      have hn : ¬ x.t ∈ R := fun hr => by
        have := distinct_nodup h.di
        rw [all_mk, List.nodup_append] at this
        exact this.2.2 x.t (List.mem_append_left _ hr) x.t (by simp) rfl
      cases hw : x.w with
      | true =>
        have hR : R = [] := hc.2.resolve_left (by rw [hw]; simp)
        have ep : (Lock.mk R x.t q).all = (Lock.mk R W (x :: q)).all := by
          rw [all_mk, all_mk, if_neg (by omega), if_pos hc.1, hR]; rfl
        have := ih R x.t ⟨h.up, fun _ => hR, by rw [ep]; exact h.di⟩
        simp only [if_true]
        exact ⟨this.1, by rw [← ep]; exact this.2⟩
      | false =>
        have ep : (Lock.mk (insT R x.t) W q).all.Perm (Lock.mk R W (x :: q)).all := by
          rw [all_mk, all_mk, if_pos hc.1, List.append_nil, List.append_nil]
          have := (insT_perm R x.t).append_right (q.map Want.t)
          simpa using this
        have := ih (insT R x.t) W ⟨insT_lt h.up hn, fun hne => absurd hc.1 hne, by rw [distinct_perm ep]; exact h.di⟩
        simp only [Bool.false_eq_true, if_false]
        exact ⟨this.1, this.2.trans ep⟩
    · rw [give_no (fun _ => hc)]
      refine ⟨⟨h.up, h.al, h.di, .inr ?_⟩, List.Perm.refl _⟩
      by_cases hW : W = -1
      · right
        show x.w = true ∧ R ≠ []
        cases hw : x.w with
        | true => exact ⟨rfl, fun hR => hc ⟨hW, .inr hR⟩⟩
        | false => exact absurd ⟨hW, .inl hw⟩ hc
      · exact .inl hW

theorem lockFor_ok {m : Lock} {t : Int} {b : Bool} (h : (m.lockFor t b).2.2 = true) : m.Valid ∧ isThread t = true ∧ m.has t = false ∧ m.waits t = false := by
  rw [Lock.lockFor] at h
  split at h
  · assumption
  · cases h
theorem unlock_ok {m : Lock} {t : Int} (h : (m.unlock t).2.2 = true) : m.Valid ∧ isThread t = true ∧ m.has t = true := by
  rw [Lock.unlock] at h
  split at h
  · assumption
  · cases h
theorem down_ok {m : Lock} {t : Int} (h : (m.down t).2.2 = true) : m.Valid ∧ isThread t = true ∧ m.writer = t := by
  rw [Lock.down] at h
  split at h
  · assumption
  · cases h
theorem snoc_pre {m : Lock} {t : Int} {b : Bool} (h : m.Valid ∧ isThread t = true ∧ m.has t = false ∧ m.waits t = false) : (Lock.mk m.readers m.writer (m.queue ++ [⟨t, b⟩])).Pre := by
  obtain ⟨hv, h1, h2, h3⟩ := h
  have ht := thread_nn h1
  have hn : ¬ t ∈ m.all := fun hm => by rcases (mem_all ht.1).1 hm with h | h <;> simp_all
  refine ⟨hv.up, hv.al, ?_⟩
  have e : (Lock.mk m.readers m.writer (m.queue ++ [⟨t, b⟩])).all = m.all ++ [t] := by simp [Lock.all]
  rw [e]
  have hd := hv.di
  simp only [distinct, decide_eq_true_eq] at hd ⊢
  refine ⟨?_, fun x hx => ?_⟩
  · rw [List.nodup_append]
    refine ⟨hd.1, by simp, fun a ha b hb => ?_⟩
    simp at hb; subst hb
    rintro rfl; exact hn ha
  · rcases List.mem_append.1 hx with hx | hx
    · exact hd.2 x hx
    · simp at hx; subst hx; exact h1
theorem lockFor_valid {m : Lock} {t : Int} {b : Bool} (h : (m.lockFor t b).2.2 = true) : (m.lockFor t b).1.Valid := by
  have hc := lockFor_ok h
  rw [Lock.lockFor, if_pos hc]
  exact (give_pre _ _ _ (snoc_pre hc)).1
theorem has_wait {m : Lock} (h : m.Valid) {t : Int} (ht : 0 ≤ t) (h1 : m.has t = true) : m.waits t = false := by
  cases hw : m.waits t with
  | false => rfl
  | true =>
    exfalso
    have := distinct_nodup h.di
    rw [Lock.all, List.nodup_append] at this
    simp only [Lock.waits, decide_eq_true_eq] at hw
    refine this.2.2 t ?_ t hw rfl
    simp only [Lock.has, Bool.or_eq_true, beq_iff_eq, decide_eq_true_eq] at h1
    rcases h1 with h1 | h1
    · rw [h1, if_neg (by omega)]; simp
    · exact List.mem_append_left _ h1
theorem free_pre {m : Lock} {t : Int} (h : m.Valid ∧ isThread t = true ∧ m.has t = true) : (m.free t).Pre ∧ ¬ t ∈ (m.free t).all := by
  obtain ⟨hv, h1, h2⟩ := h
  have ht := thread_nn h1
  have hw := has_wait hv ht.1 h2
  rw [Lock.free]
  split
  · rename_i hwr
    have hR : m.readers = [] := hv.al (by omega)
    have e : m.all = t :: (Lock.mk m.readers (-1) m.queue).all := by simp [Lock.all, hR, hwr, show ¬ t = -1 by omega]
    have hd := hv.di
    rw [e] at hd
    simp only [distinct, decide_eq_true_eq, List.nodup_cons] at hd
    refine ⟨⟨hv.up, fun hne => absurd rfl hne, ?_⟩, hd.1.1⟩
    simp only [distinct, decide_eq_true_eq]
    exact ⟨hd.1.2, fun x hx => hd.2 x (List.mem_cons_of_mem _ hx)⟩
  · rename_i hwr
    have hs : (Lock.mk (m.readers.filter fun x => !(x == t)) m.writer m.queue).all.Sublist m.all := by
      simp only [Lock.all, List.append_assoc]
      exact List.Sublist.append List.filter_sublist (List.Sublist.refl _)
    have hd := hv.di
    simp only [distinct, decide_eq_true_eq] at hd
    refine ⟨⟨hv.up.sublist List.filter_sublist, fun hne => by simp [hv.al hne], ?_⟩, ?_⟩
    · simp only [distinct, decide_eq_true_eq]
      exact ⟨hd.1.sublist hs, fun x hx => hd.2 x (hs.subset hx)⟩
    · rw [mem_all ht.1]
      rintro (h | h)
      · simp [Lock.has, hwr] at h
      · exact absurd h (by simp only [Lock.waits] at hw ⊢; rw [hw]; simp)
theorem unlock_is {m : Lock} {t : Int} (h : (m.unlock t).2.2 = true) : (m.unlock t).1.Valid ∧ (m.unlock t).1.has t = false ∧ (m.unlock t).1.waits t = false := by
  have hc := unlock_ok h
  obtain ⟨p1, p2⟩ := free_pre hc
  have ht := thread_nn hc.2.1
  rw [Lock.unlock, if_pos hc]
  have hg := give_pre (m.free t).readers (m.free t).writer (m.free t).queue p1
  have hn : ¬ t ∈ (m.free t).give.1.all := fun hm => p2 (hg.2.mem_iff.1 hm)
  rw [mem_all ht.1] at hn
  refine ⟨hg.1, ?_, ?_⟩
  · cases h : (m.free t).give.1.has t with
    | false => rfl
    | true => exact absurd (.inl h) hn
  · cases h : (m.free t).give.1.waits t with
    | false => rfl
    | true => exact absurd (.inr h) hn
end Go.Proofs.Ytpemppacedfifaa

