/- FnSendGet: called with any bytes it returns true. No condition. -/
import Derived.Test.YtanakfeaifggoaaRows
import Derived.Test.YtanakfeaifggoaaChv
import Derived.Test.YtanakfeaifggoaaChs
namespace Go.Proofs.Ytanakfeaifggoaa
open Go Go.Sx Go.RowKit Go.ChangeShapes Go.WideShapes

set_option maxRecDepth 100000 in
theorem fnSendGet_lifted (os : Os) (started : os.Started) (H : Type) (enc : TypeId × Value → H) :
    ReturnsInHanded {} Try.checked os 8 .any (Rows.fnSendGetSpec.pre6 enc Try.checked.prog Try.f8 Rows.fnSendGetRow.domain false) (Rows.fnSendGetSpec.post enc Try.checked.prog Try.f8 false true false false) :=
  bytes_lifted Try.func8 (by kernel_rfl) rfl rfl rfl (fun _ _ => rfl) sendGet_c os started H enc
    (ChangeSpec.witness6 (enc := enc) (C := Try.checked) false ⟨#[], #[.slice none 0 0], []⟩ 8 (by kernel_rfl) (by kernel_rfl) (by kernel_rfl) (by kernel_rfl))

theorem fnSendGet_holds : Rows.FnSendGetSaid :=
  OpenClaim.holds_of_wide 8 Try.f8 rfl rfl rfl rfl rfl rfl rfl ⟨rfl, rfl, rfl, rfl, rfl⟩ rfl rfl rfl rfl rfl (by kernel_rfl) Try.func8 (by kernel_rfl)
    (of_decide_eq_true (by kernel_rfl)) (by unfold Func.isWrapper; first | (rw [if_pos (by decide +kernel)]; kernel_rfl) | (rw [if_neg (by decide +kernel)]; exact ⟨rfl, rfl⟩))
    (fun os started H enc _ => fnSendGet_lifted os started H enc)
end Go.Proofs.Ytanakfeaifggoaa

