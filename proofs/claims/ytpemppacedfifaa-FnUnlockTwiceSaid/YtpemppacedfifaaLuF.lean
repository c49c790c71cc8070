/- FnUnlockTwice: called with any bytes it returns true. No condition. -/
import Derived.Test.YtpemppacedfifaaRows
import Derived.Test.YtpemppacedfifaaLu
import Derived.Test.YtpemppacedfifaaLo
namespace Go.Proofs.Ytpemppacedfifaa
open Go Go.Sx Go.RowKit Go.ChangeShapes Go.WideShapes

set_option maxRecDepth 100000 in
theorem fnUnlockTwice_lifted (os : Os) (started : os.Started) (H : Type) (enc : TypeId × Value → H) :
    ReturnsInHanded {} Try.checked os 11 .any (Rows.fnUnlockTwiceSpec.pre6 enc Try.checked.prog Try.f11 Rows.fnUnlockTwiceRow.domain false) (Rows.fnUnlockTwiceSpec.post enc Try.checked.prog Try.f11 false true false false) :=
  bytes_lifted Try.func11 (by kernel_rfl) rfl rfl rfl (fun _ _ => rfl) unlockTwice_c os started H enc
    (ChangeSpec.witness6 (enc := enc) (C := Try.checked) false ⟨#[], #[.slice none 0 0], []⟩ 8 (by kernel_rfl) (by kernel_rfl) (by kernel_rfl) (by kernel_rfl))

theorem fnUnlockTwice_holds : Rows.FnUnlockTwiceSaid :=
  OpenClaim.holds_of_wide 11 Try.f11 rfl rfl rfl rfl rfl rfl rfl ⟨rfl, rfl, rfl, rfl, rfl⟩ rfl rfl rfl rfl rfl (by kernel_rfl) Try.func11 (by kernel_rfl)
    (of_decide_eq_true (by kernel_rfl)) (by unfold Func.isWrapper; first | (rw [if_pos (by decide +kernel)]; kernel_rfl) | (rw [if_neg (by decide +kernel)]; exact ⟨rfl, rfl⟩))
    (fun os started H enc _ => fnUnlockTwice_lifted os started H enc)
end Go.Proofs.Ytpemppacedfifaa

