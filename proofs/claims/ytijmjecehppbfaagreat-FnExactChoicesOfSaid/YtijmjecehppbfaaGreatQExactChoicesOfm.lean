/- FnExactChoicesOf: called with any arguments it returns true. No condition. -/
import Derived.Test.YtijmjecehppbfaaGreatRows
import Derived.Test.YtijmjecehppbfaaGreatQExactChoicesOfl
namespace Go.Proofs.YtijmjecehppbfaaGreat
open Go Go.Sx Go.RowKit Go.ChangeShapes Go.WideShapes
set_option maxRecDepth 100000 in
theorem fnExactChoicesOf_lifted (os : Os) (started : os.Started) (H : Type) (enc : TypeId × Value → H) :
    ReturnsInHanded {} Tryz.checked os 5 .any (Rows.fnExactChoicesOfSpec.pre6 enc Tryz.checked.prog Tryz.f5 Rows.fnExactChoicesOfRow.domain false) (Rows.fnExactChoicesOfSpec.post enc Tryz.checked.prog Tryz.f5 false true false false) :=
  lifted_PI Tryz.func5 (by kernel_rfl) rfl rfl rfl (fun _ _ _ => rfl) exactChoicesOf_c os started H enc
    (ChangeSpec.witness6 (enc := enc) (C := Tryz.checked) false ⟨#[], #[.agg #[.slice none 0 0, .slice none 0 0, .slice none 0 0, .slice none 0 0, .slice none 0 0], .slice none 0 0], []⟩ 8 (by kernel_rfl) (by kernel_rfl) (by kernel_rfl) (by kernel_rfl))
theorem fnExactChoicesOf_holds : Rows.FnExactChoicesOfSaid :=
  OpenClaim.holds_of_wide 5 Tryz.f5 rfl rfl rfl rfl rfl rfl rfl ⟨rfl, rfl, rfl, rfl, rfl⟩ rfl rfl rfl rfl rfl (by kernel_rfl) Tryz.func5 (by kernel_rfl)
    (of_decide_eq_true (by kernel_rfl)) (by unfold Func.isWrapper; first | (rw [if_pos (by decide +kernel)]; kernel_rfl) | (rw [if_neg (by decide +kernel)]; exact ⟨rfl, rfl⟩))
    (fun os started H enc _ => fnExactChoicesOf_lifted os started H enc)
end Go.Proofs.YtijmjecehppbfaaGreat
