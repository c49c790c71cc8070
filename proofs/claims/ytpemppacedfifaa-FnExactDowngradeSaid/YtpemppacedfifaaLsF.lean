/- FnExactDowngrade: called with any arguments it returns true. No condition. -/
import Derived.Test.YtpemppacedfifaaRows
import Derived.Test.YtpemppacedfifaaLs
import Derived.Test.YtpemppacedfifaaLp
namespace Go.Proofs.Ytpemppacedfifaa
open Go Go.Sx Go.RowKit Go.ChangeShapes Go.WideShapes

set_option maxRecDepth 100000 in
theorem fnExactDowngrade_lifted (os : Os) (started : os.Started) (H : Type) (enc : TypeId × Value → H) :
    ReturnsInHanded {} Try.checked os 8 .any (Rows.fnExactDowngradeSpec.pre6 enc Try.checked.prog Try.f8 Rows.fnExactDowngradeRow.domain false) (Rows.fnExactDowngradeSpec.post enc Try.checked.prog Try.f8 false true false false) :=
  exact2_lifted Try.func8 (by kernel_rfl) rfl rfl rfl (fun _ _ _ => rfl) exactDown_c os started H enc
    (ChangeSpec.witness6 (enc := enc) (C := Try.checked) false ⟨#[], #[.agg #[.slice none 0 0, .int .i64 0, .slice none 0 0], .int .i64 0], []⟩ 8 (by kernel_rfl) (by kernel_rfl) (by kernel_rfl) (by kernel_rfl))

theorem fnExactDowngrade_holds : Rows.FnExactDowngradeSaid :=
  OpenClaim.holds_of_wide 8 Try.f8 rfl rfl rfl rfl rfl rfl rfl ⟨rfl, rfl, rfl, rfl, rfl⟩ rfl rfl rfl rfl rfl (by kernel_rfl) Try.func8 (by kernel_rfl)
    (of_decide_eq_true (by kernel_rfl)) (by unfold Func.isWrapper; first | (rw [if_pos (by decide +kernel)]; kernel_rfl) | (rw [if_neg (by decide +kernel)]; exact ⟨rfl, rfl⟩))
    (fun os started H enc _ => fnExactDowngrade_lifted os started H enc)
end Go.Proofs.Ytpemppacedfifaa

