/- Channels: sizes, for the exact laws. -/
import Derived.Test.YtanakfeaifggoaaClc
namespace Go.Proofs.Ytanakfeaifggoaa
open Go Go.Sx Go.RowKit

theorem Chan.small20_small {m : Chan} (h : m.small20) : m.small := ⟨by have := h.1; omega, by have := h.2.1; omega, by have := h.2.2; omega⟩
theorem Chan.small8_20 {m : Chan} (h : m.small8) : m.small20 := ⟨by have := h.1; omega, by have := h.2.1; omega, by have := h.2.2; omega⟩
theorem zero_small8 : Chan.zero.small8 := by simp [Chan.small8, Chan.zero]
theorem send_s8 (m : Chan) (t u : Int) : (m.send t u).1.small8 ∧ (m.send t u).2.1.length ≤ 8 := by
  refine ⟨?_, by have := (send_small m t u).2; omega⟩
  cases h : (m.send t u).2.2.2 with
  | true => exact send_small8 h
  | false =>
    rw [Chan.send] at h ⊢
    split at h
    · split at h
      · cases h
      · split at h <;> cases h
    · rename_i hc
      rw [if_neg hc]
      exact zero_small8
theorem get_s8 (m : Chan) (t : Int) : (m.get t).1.small8 ∧ (m.get t).2.2.2.1.length ≤ 8 := by
  refine ⟨?_, by have := (get_small m t).2; omega⟩
  cases h : (m.get t).2.2.2.2 with
  | true => exact get_small8 h
  | false =>
    rw [Chan.get] at h ⊢
    split at h
    · split at h
      · cases h
      · split at h <;> cases h
    · rename_i hc
      rw [if_neg hc]
      exact zero_small8
end Go.Proofs.Ytanakfeaifggoaa

