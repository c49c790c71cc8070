/- FnChoicesZero: called with any arguments it returns true. No condition. -/
import Derived.Test.YtijmjecehppbfaaGreatRows
import Derived.Test.YtijmjecehppbfaaGreatQChoicesZeroq
namespace Go.Proofs.YtijmjecehppbfaaGreat
set_option maxRecDepth 100000
set_option maxHeartbeats 100000000
open Go Go.Sx Go.RowKit Go.ChangeShapes Go.WideShapes
theorem qM (os : Os) (started : os.Started) (H : Type) (enc : TypeId × Value → H) :
    ReturnsInHanded {} Tryz.checked os 4 .any (Rows.fnChoicesZeroSpec.pre6 enc Tryz.checked.prog Tryz.f4 Rows.fnChoicesZeroRow.domain false) (Rows.fnChoicesZeroSpec.post enc Tryz.checked.prog Tryz.f4 false true false false) :=
  bP0 Tryz.func4 (by kernel_rfl) rfl rfl rfl (fun _ _ => rfl) uX os started H enc
    (ChangeSpec.witness6 (enc := enc) (C := Tryz.checked) false ⟨#[], #[.slice none 0 0], []⟩ 8 (by kernel_rfl) (by kernel_rfl) (by kernel_rfl) (by kernel_rfl))
theorem fnChoicesZero_holds : Rows.FnChoicesZeroSaid :=
  OpenClaim.holds_of_wide 4 Tryz.f4 rfl rfl rfl rfl rfl rfl rfl ⟨rfl, rfl, rfl, rfl, rfl⟩ rfl rfl rfl rfl rfl (by kernel_rfl) Tryz.func4 (by kernel_rfl)
    (of_decide_eq_true (by kernel_rfl)) (by unfold Func.isWrapper; first | (rw [if_pos (by decide +kernel)]; kernel_rfl) | (rw [if_neg (by decide +kernel)]; exact ⟨rfl, rfl⟩))
    (fun os started H enc _ => qM os started H enc)
end Go.Proofs.YtijmjecehppbfaaGreat
