/- FnExactLeaveChan: called with any arguments it returns true. No condition. -/
import Derived.Test.YtanakfeaifggoaaRows
import Derived.Test.YtanakfeaifggoaaClh
import Derived.Test.YtanakfeaifggoaaClo
namespace Go.Proofs.Ytanakfeaifggoaa
open Go Go.Sx Go.RowKit Go.ChangeShapes Go.WideShapes

set_option maxRecDepth 100000 in
theorem fnExactLeaveChan_lifted (os : Os) (started : os.Started) (H : Type) (enc : TypeId × Value → H) :
    ReturnsInHanded {} Try.checked os 13 .any (Rows.fnExactLeaveChanSpec.pre6 enc Try.checked.prog Try.f13 Rows.fnExactLeaveChanRow.domain false) (Rows.fnExactLeaveChanSpec.post enc Try.checked.prog Try.f13 false true false false) :=
  exact2_lifted Try.func13 (by kernel_rfl) rfl rfl rfl (fun _ _ _ => rfl) exactLeave_c os started H enc
    (ChangeSpec.witness6 (enc := enc) (C := Try.checked) false ⟨#[], #[.agg #[.int .i64 0, .slice none 0 0, .slice none 0 0, .slice none 0 0, .bool false], .int .i64 0], []⟩ 8 (by kernel_rfl) (by kernel_rfl) (by kernel_rfl) (by kernel_rfl))

theorem fnExactLeaveChan_holds : Rows.FnExactLeaveChanSaid :=
  OpenClaim.holds_of_wide 13 Try.f13 rfl rfl rfl rfl rfl rfl rfl ⟨rfl, rfl, rfl, rfl, rfl⟩ rfl rfl rfl rfl rfl (by kernel_rfl) Try.func13 (by kernel_rfl)
    (of_decide_eq_true (by kernel_rfl)) (by unfold Func.isWrapper; first | (rw [if_pos (by decide +kernel)]; kernel_rfl) | (rw [if_neg (by decide +kernel)]; exact ⟨rfl, rfl⟩))
    (fun os started H enc _ => fnExactLeaveChan_lifted os started H enc)
end Go.Proofs.Ytanakfeaifggoaa

