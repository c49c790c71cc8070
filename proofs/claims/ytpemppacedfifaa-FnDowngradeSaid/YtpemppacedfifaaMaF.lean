/- FnDowngrade: called with any bytes it returns true. No condition. -/
import Derived.Test.YtpemppacedfifaaRows
import Derived.Test.YtpemppacedfifaaMa
import Derived.Test.YtpemppacedfifaaLo
namespace Go.Proofs.Ytpemppacedfifaa
open Go Go.Sx Go.RowKit Go.ChangeShapes Go.WideShapes

set_option maxRecDepth 100000 in
theorem fnDowngrade_lifted (os : Os) (started : os.Started) (H : Type) (enc : TypeId × Value → H) :
    ReturnsInHanded {} Try.checked os 6 .any (Rows.fnDowngradeSpec.pre6 enc Try.checked.prog Try.f6 Rows.fnDowngradeRow.domain false) (Rows.fnDowngradeSpec.post enc Try.checked.prog Try.f6 false true false false) :=
  bytes_lifted Try.func6 (by kernel_rfl) rfl rfl rfl (fun _ _ => rfl) lawDown_c os started H enc
    (ChangeSpec.witness6 (enc := enc) (C := Try.checked) false ⟨#[], #[.slice none 0 0], []⟩ 8 (by kernel_rfl) (by kernel_rfl) (by kernel_rfl) (by kernel_rfl))

theorem fnDowngrade_holds : Rows.FnDowngradeSaid :=
  OpenClaim.holds_of_wide 6 Try.f6 rfl rfl rfl rfl rfl rfl rfl ⟨rfl, rfl, rfl, rfl, rfl⟩ rfl rfl rfl rfl rfl (by kernel_rfl) Try.func6 (by kernel_rfl)
    (of_decide_eq_true (by kernel_rfl)) (by unfold Func.isWrapper; first | (rw [if_pos (by decide +kernel)]; kernel_rfl) | (rw [if_neg (by decide +kernel)]; exact ⟨rfl, rfl⟩))
    (fun os started H enc _ => fnDowngrade_lifted os started H enc)
end Go.Proofs.Ytpemppacedfifaa

