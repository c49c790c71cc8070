/- FnCloseChan: called with any bytes it returns true. No condition. -/
import Derived.Test.YtanakfeaifggoaaRows
import Derived.Test.YtanakfeaifggoaaChw
import Derived.Test.YtanakfeaifggoaaChs
namespace Go.Proofs.Ytanakfeaifggoaa
open Go Go.Sx Go.RowKit Go.ChangeShapes Go.WideShapes

set_option maxRecDepth 100000 in
theorem fnCloseChan_lifted (os : Os) (started : os.Started) (H : Type) (enc : TypeId × Value → H) :
    ReturnsInHanded {} Try.checked os 6 .any (Rows.fnCloseChanSpec.pre6 enc Try.checked.prog Try.f6 Rows.fnCloseChanRow.domain false) (Rows.fnCloseChanSpec.post enc Try.checked.prog Try.f6 false true false false) :=
  bytes_lifted Try.func6 (by kernel_rfl) rfl rfl rfl (fun _ _ => rfl) closeChan_c os started H enc
    (ChangeSpec.witness6 (enc := enc) (C := Try.checked) false ⟨#[], #[.slice none 0 0], []⟩ 8 (by kernel_rfl) (by kernel_rfl) (by kernel_rfl) (by kernel_rfl))

theorem fnCloseChan_holds : Rows.FnCloseChanSaid :=
  OpenClaim.holds_of_wide 6 Try.f6 rfl rfl rfl rfl rfl rfl rfl ⟨rfl, rfl, rfl, rfl, rfl⟩ rfl rfl rfl rfl rfl (by kernel_rfl) Try.func6 (by kernel_rfl)
    (of_decide_eq_true (by kernel_rfl)) (by unfold Func.isWrapper; first | (rw [if_pos (by decide +kernel)]; kernel_rfl) | (rw [if_neg (by decide +kernel)]; exact ⟨rfl, rfl⟩))
    (fun os started H enc _ => fnCloseChan_lifted os started H enc)
end Go.Proofs.Ytanakfeaifggoaa

