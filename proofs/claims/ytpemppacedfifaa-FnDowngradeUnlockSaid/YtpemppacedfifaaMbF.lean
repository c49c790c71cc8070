/- FnDowngradeUnlock: called with any bytes it returns true. No condition. -/
import Derived.Test.YtpemppacedfifaaRows
import Derived.Test.YtpemppacedfifaaMb
import Derived.Test.YtpemppacedfifaaLo
namespace Go.Proofs.Ytpemppacedfifaa
open Go Go.Sx Go.RowKit Go.ChangeShapes Go.WideShapes

set_option maxRecDepth 100000 in
theorem fnDowngradeUnlock_lifted (os : Os) (started : os.Started) (H : Type) (enc : TypeId × Value → H) :
    ReturnsInHanded {} Try.checked os 12 .any (Rows.fnDowngradeUnlockSpec.pre6 enc Try.checked.prog Try.f12 Rows.fnDowngradeUnlockRow.domain false) (Rows.fnDowngradeUnlockSpec.post enc Try.checked.prog Try.f12 false true false false) :=
  bytes_lifted Try.func12 (by kernel_rfl) rfl rfl rfl (fun _ _ => rfl) downUnlock_c os started H enc
    (ChangeSpec.witness6 (enc := enc) (C := Try.checked) false ⟨#[], #[.slice none 0 0], []⟩ 8 (by kernel_rfl) (by kernel_rfl) (by kernel_rfl) (by kernel_rfl))

theorem fnDowngradeUnlock_holds : Rows.FnDowngradeUnlockSaid :=
  OpenClaim.holds_of_wide 12 Try.f12 rfl rfl rfl rfl rfl rfl rfl ⟨rfl, rfl, rfl, rfl, rfl⟩ rfl rfl rfl rfl rfl (by kernel_rfl) Try.func12 (by kernel_rfl)
    (of_decide_eq_true (by kernel_rfl)) (by unfold Func.isWrapper; first | (rw [if_pos (by decide +kernel)]; kernel_rfl) | (rw [if_neg (by decide +kernel)]; exact ⟨rfl, rfl⟩))
    (fun os started H enc _ => fnDowngradeUnlock_lifted os started H enc)
end Go.Proofs.Ytpemppacedfifaa

