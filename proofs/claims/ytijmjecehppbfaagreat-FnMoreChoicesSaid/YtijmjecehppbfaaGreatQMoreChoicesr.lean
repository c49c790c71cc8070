/- FnMoreChoices: called with any arguments it returns true. No condition. -/
import Derived.Test.YtijmjecehppbfaaGreatRows
import Derived.Test.YtijmjecehppbfaaGreatQMoreChoicesq
namespace Go.Proofs.YtijmjecehppbfaaGreat
set_option maxRecDepth 100000
set_option maxHeartbeats 100000000
open Go Go.Sx Go.RowKit Go.ChangeShapes Go.WideShapes
theorem qN (os : Os) (started : os.Started) (H : Type) (enc : TypeId × Value → H) :
    ReturnsInHanded {} Tryz.checked os 3 .any (Rows.fnMoreChoicesSpec.pre6 enc Tryz.checked.prog Tryz.f3 Rows.fnMoreChoicesRow.domain false) (Rows.fnMoreChoicesSpec.post enc Tryz.checked.prog Tryz.f3 false true false false) :=
  bM0 Tryz.func3 (by kernel_rfl) rfl rfl rfl (fun _ _ => rfl) uV os started H enc
    (ChangeSpec.witness6 (enc := enc) (C := Tryz.checked) false ⟨#[], #[.slice none 0 0], []⟩ 8 (by kernel_rfl) (by kernel_rfl) (by kernel_rfl) (by kernel_rfl))
theorem fnMoreChoices_holds : Rows.FnMoreChoicesSaid :=
  OpenClaim.holds_of_wide 3 Tryz.f3 rfl rfl rfl rfl rfl rfl rfl ⟨rfl, rfl, rfl, rfl, rfl⟩ rfl rfl rfl rfl rfl (by kernel_rfl) Tryz.func3 (by kernel_rfl)
    (of_decide_eq_true (by kernel_rfl)) (by unfold Func.isWrapper; first | (rw [if_pos (by decide +kernel)]; kernel_rfl) | (rw [if_neg (by decide +kernel)]; exact ⟨rfl, rfl⟩))
    (fun os started H enc _ => qN os started H enc)
end Go.Proofs.YtijmjecehppbfaaGreat
