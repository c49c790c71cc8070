/- FnExactLockFor: called with any arguments it returns true. No condition. -/
import Derived.Test.YtpemppacedfifaaRows
import Derived.Test.YtpemppacedfifaaLq
import Derived.Test.YtpemppacedfifaaLp
namespace Go.Proofs.Ytpemppacedfifaa
open Go Go.Sx Go.RowKit Go.ChangeShapes Go.WideShapes

set_option maxRecDepth 100000 in
theorem fnExactLockFor_lifted (os : Os) (started : os.Started) (H : Type) (enc : TypeId × Value → H) :
    ReturnsInHanded {} Try.checked os 13 .any (Rows.fnExactLockForSpec.pre6 enc Try.checked.prog Try.f13 Rows.fnExactLockForRow.domain false) (Rows.fnExactLockForSpec.post enc Try.checked.prog Try.f13 false true false false) :=
  exact3_lifted Try.func13 (by kernel_rfl) rfl rfl rfl (fun _ _ _ _ => rfl) exactLockFor_c os started H enc
    (ChangeSpec.witness6 (enc := enc) (C := Try.checked) false ⟨#[], #[.agg #[.slice none 0 0, .int .i64 0, .slice none 0 0], .int .i64 0, .bool false], []⟩ 8 (by kernel_rfl) (by kernel_rfl) (by kernel_rfl) (by kernel_rfl))

theorem fnExactLockFor_holds : Rows.FnExactLockForSaid :=
  OpenClaim.holds_of_wide 13 Try.f13 rfl rfl rfl rfl rfl rfl rfl ⟨rfl, rfl, rfl, rfl, rfl⟩ rfl rfl rfl rfl rfl (by kernel_rfl) Try.func13 (by kernel_rfl)
    (of_decide_eq_true (by kernel_rfl)) (by unfold Func.isWrapper; first | (rw [if_pos (by decide +kernel)]; kernel_rfl) | (rw [if_neg (by decide +kernel)]; exact ⟨rfl, rfl⟩))
    (fun os started H enc _ => fnExactLockFor_lifted os started H enc)
end Go.Proofs.Ytpemppacedfifaa

