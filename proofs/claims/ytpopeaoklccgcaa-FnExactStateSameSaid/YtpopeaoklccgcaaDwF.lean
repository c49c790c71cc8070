/- FnExactStateSame: called with any arguments it returns true. No condition. -/
import Derived.Test.YtpopeaoklccgcaaRows
import Derived.Test.YtpopeaoklccgcaaDw
import Derived.Test.YtpopeaoklccgcaaDv
namespace Go.Proofs.Ytpopeaoklccgcaa

open Go Go.Sx Go.RowKit Go.ChangeShapes Go.WideShapes

set_option maxRecDepth 100000 in
theorem fnExactStateSame_lifted (os : Os) (started : os.Started) (H : Type) (enc : TypeId × Value → H) :
    ReturnsInHanded {} Try.checked os 3 .any (Rows.fnExactStateSameSpec.pre6 enc Try.checked.prog Try.f3 Rows.fnExactStateSameRow.domain false) (Rows.fnExactStateSameSpec.post enc Try.checked.prog Try.f3 false true false false) :=
  lifted_SS Try.func3 (by kernel_rfl) rfl rfl rfl (fun _ _ _ => rfl) exactStateSame_c os started H enc
    (ChangeSpec.witness6 (enc := enc) (C := Try.checked) false ⟨#[], #[.agg #[.slice none 0 0, .slice none 0 0, .slice none 0 0, .slice none 0 0, .slice none 0 0, .slice none 0 0, .slice none 0 0, .slice none 0 0, .int .i64 0], .agg #[.slice none 0 0, .slice none 0 0, .slice none 0 0, .slice none 0 0, .slice none 0 0, .slice none 0 0, .slice none 0 0, .slice none 0 0, .int .i64 0]], []⟩ 8 (by kernel_rfl) (by kernel_rfl) (by kernel_rfl) (by kernel_rfl))

theorem fnExactStateSame_holds : Rows.FnExactStateSameSaid :=
  OpenClaim.holds_of_wide 3 Try.f3 rfl rfl rfl rfl rfl rfl rfl ⟨rfl, rfl, rfl, rfl, rfl⟩ rfl rfl rfl rfl rfl (by kernel_rfl) Try.func3 (by kernel_rfl)
    (of_decide_eq_true (by kernel_rfl)) (by unfold Func.isWrapper; first | (rw [if_pos (by decide +kernel)]; kernel_rfl) | (rw [if_neg (by decide +kernel)]; exact ⟨rfl, rfl⟩))
    (fun os started H enc _ => fnExactStateSame_lifted os started H enc)

end Go.Proofs.Ytpopeaoklccgcaa
