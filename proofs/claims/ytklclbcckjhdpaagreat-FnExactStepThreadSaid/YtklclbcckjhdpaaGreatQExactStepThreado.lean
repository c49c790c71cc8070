/- FnExactStepThread: called with any arguments it returns true. No condition. -/
import Derived.Test.YtklclbcckjhdpaaGreatRows
import Derived.Test.YtklclbcckjhdpaaGreatQExactStepThreadn
namespace Go.Proofs.YtklclbcckjhdpaaGreat

open Go Go.Sx Go.RowKit Go.ChangeShapes Go.WideShapes

set_option maxRecDepth 100000 in
theorem fnExactStepThread_lifted (os : Os) (started : os.Started) (H : Type) (enc : TypeId × Value → H) :
    ReturnsInHanded {} Tryz.checked os 3 .any (Rows.fnExactStepThreadSpec.pre6 enc Tryz.checked.prog Tryz.f3 Rows.fnExactStepThreadRow.domain false) (Rows.fnExactStepThreadSpec.post enc Tryz.checked.prog Tryz.f3 false true false false) :=
  lifted_PSi Tryz.func3 (by kernel_rfl) rfl rfl rfl (fun _ _ _ _ => rfl) exactStepThread_c os started H enc
    (ChangeSpec.witness6 (enc := enc) (C := Tryz.checked) false ⟨#[], #[.agg #[.slice none 0 0, .slice none 0 0, .slice none 0 0, .slice none 0 0, .slice none 0 0], .agg #[.slice none 0 0, .slice none 0 0, .slice none 0 0, .slice none 0 0, .slice none 0 0, .slice none 0 0, .slice none 0 0, .slice none 0 0, .int .i64 0], .int .i64 0], []⟩ 8 (by kernel_rfl) (by kernel_rfl) (by kernel_rfl) (by kernel_rfl))

theorem fnExactStepThread_holds : Rows.FnExactStepThreadSaid :=
  OpenClaim.holds_of_wide 3 Tryz.f3 rfl rfl rfl rfl rfl rfl rfl ⟨rfl, rfl, rfl, rfl, rfl⟩ rfl rfl rfl rfl rfl (by kernel_rfl) Tryz.func3 (by kernel_rfl)
    (of_decide_eq_true (by kernel_rfl)) (by unfold Func.isWrapper; first | (rw [if_pos (by decide +kernel)]; kernel_rfl) | (rw [if_neg (by decide +kernel)]; exact ⟨rfl, rfl⟩))
    (fun os started H enc _ => fnExactStepThread_lifted os started H enc)

end Go.Proofs.YtklclbcckjhdpaaGreat
