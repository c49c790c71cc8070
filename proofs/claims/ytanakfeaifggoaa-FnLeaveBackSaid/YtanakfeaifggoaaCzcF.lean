/- FnLeaveBack: called with any bytes it returns true. No condition. -/
import Derived.Test.YtanakfeaifggoaaRows
import Derived.Test.YtanakfeaifggoaaCzc
import Derived.Test.YtanakfeaifggoaaChs
namespace Go.Proofs.Ytanakfeaifggoaa
open Go Go.Sx Go.RowKit Go.ChangeShapes Go.WideShapes

set_option maxRecDepth 100000 in
theorem fnLeaveBack_lifted (os : Os) (started : os.Started) (H : Type) (enc : TypeId × Value → H) :
    ReturnsInHanded {} Try.checked os 11 .any (Rows.fnLeaveBackSpec.pre6 enc Try.checked.prog Try.f11 Rows.fnLeaveBackRow.domain false) (Rows.fnLeaveBackSpec.post enc Try.checked.prog Try.f11 false true false false) :=
  bytes_lifted Try.func11 (by kernel_rfl) rfl rfl rfl (fun _ _ => rfl) leaveBack_c os started H enc
    (ChangeSpec.witness6 (enc := enc) (C := Try.checked) false ⟨#[], #[.slice none 0 0], []⟩ 8 (by kernel_rfl) (by kernel_rfl) (by kernel_rfl) (by kernel_rfl))

theorem fnLeaveBack_holds : Rows.FnLeaveBackSaid :=
  OpenClaim.holds_of_wide 11 Try.f11 rfl rfl rfl rfl rfl rfl rfl ⟨rfl, rfl, rfl, rfl, rfl⟩ rfl rfl rfl rfl rfl (by kernel_rfl) Try.func11 (by kernel_rfl)
    (of_decide_eq_true (by kernel_rfl)) (by unfold Func.isWrapper; first | (rw [if_pos (by decide +kernel)]; kernel_rfl) | (rw [if_neg (by decide +kernel)]; exact ⟨rfl, rfl⟩))
    (fun os started H enc _ => fnLeaveBack_lifted os started H enc)
end Go.Proofs.Ytanakfeaifggoaa

