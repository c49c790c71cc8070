/- Locks: sizes, for the exact laws. -/
import Derived.Test.YtpemppacedfifaaLc
import Derived.Test.YtpemppacedfifaaLk
namespace Go.Proofs.Ytpemppacedfifaa
open Go Go.Sx Go.RowKit

def Lock.small8 (m : Lock) : Prop := m.readers.length ≤ 8 ∧ m.queue.length ≤ 8
theorem Lock.small20_small {m : Lock} (h : m.small20) : m.small := ⟨by have := h.1; omega, by have := h.2; omega⟩
theorem Lock.small8_20 {m : Lock} (h : m.small8) : m.small20 := ⟨by have := h.1; omega, by have := h.2; omega⟩
theorem zero_small8 : Lock.zero.small8 := by simp [Lock.small8, Lock.zero]
theorem lockFor_s8 (m : Lock) (t : Int) (b : Bool) : (m.lockFor t b).1.small8 := by
  cases h : (m.lockFor t b).2.2 with
  | true => have := lockFor_le h; exact ⟨by have := this.1; omega, by have := this.2; omega⟩
  | false =>
    rw [Lock.lockFor] at h ⊢
    split at h
    · cases h
    · rename_i hc
      rw [if_neg hc]
      exact zero_small8
theorem unlock_s8 (m : Lock) (t : Int) : (m.unlock t).1.small8 ∧ (m.unlock t).2.1.length ≤ 8 := by
  rw [Lock.unlock]
  split
  · rename_i hc
    have := lall_len hc.1
    have f := free_len m t
    have g := give_len (m.free t).readers (m.free t).writer (m.free t).queue
    have e : Lock.give (Lock.mk (m.free t).readers (m.free t).writer (m.free t).queue) = (m.free t).give := rfl
    rw [e] at g
    exact ⟨⟨by simp only; omega, by simp only; omega⟩, by simp only; omega⟩
  · exact ⟨zero_small8, by simp⟩
theorem down_s8 (m : Lock) (t : Int) : (m.down t).1.small8 ∧ (m.down t).2.1.length ≤ 8 := by
  rw [Lock.down]
  split
  · rename_i hc
    have := lall_len hc.1
    have g := give_len [t] (-1) m.queue
    simp only [List.length_singleton] at g
    exact ⟨⟨by simp only; omega, by simp only; omega⟩, by simp only; omega⟩
  · exact ⟨zero_small8, by simp⟩
end Go.Proofs.Ytpemppacedfifaa

