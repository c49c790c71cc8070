/- FnCloseTwice: called with any bytes it returns true. No condition. -/
import Derived.Test.YtanakfeaifggoaaRows
import Derived.Test.YtanakfeaifggoaaChu
import Derived.Test.YtanakfeaifggoaaChs
namespace Go.Proofs.Ytanakfeaifggoaa
open Go Go.Sx Go.RowKit Go.ChangeShapes Go.WideShapes

set_option maxRecDepth 100000 in
theorem fnCloseTwice_lifted (os : Os) (started : os.Started) (H : Type) (enc : TypeId × Value → H) :
    ReturnsInHanded {} Try.checked os 7 .any (Rows.fnCloseTwiceSpec.pre6 enc Try.checked.prog Try.f7 Rows.fnCloseTwiceRow.domain false) (Rows.fnCloseTwiceSpec.post enc Try.checked.prog Try.f7 false true false false) :=
  bytes_lifted Try.func7 (by kernel_rfl) rfl rfl rfl (fun _ _ => rfl) closeTwice_c os started H enc
    (ChangeSpec.witness6 (enc := enc) (C := Try.checked) false ⟨#[], #[.slice none 0 0], []⟩ 8 (by kernel_rfl) (by kernel_rfl) (by kernel_rfl) (by kernel_rfl))

theorem fnCloseTwice_holds : Rows.FnCloseTwiceSaid :=
  OpenClaim.holds_of_wide 7 Try.f7 rfl rfl rfl rfl rfl rfl rfl ⟨rfl, rfl, rfl, rfl, rfl⟩ rfl rfl rfl rfl rfl (by kernel_rfl) Try.func7 (by kernel_rfl)
    (of_decide_eq_true (by kernel_rfl)) (by unfold Func.isWrapper; first | (rw [if_pos (by decide +kernel)]; kernel_rfl) | (rw [if_neg (by decide +kernel)]; exact ⟨rfl, rfl⟩))
    (fun os started H enc _ => fnCloseTwice_lifted os started H enc)
end Go.Proofs.Ytanakfeaifggoaa

