/- FnExactGetChan: called with any arguments it returns true. No condition. -/
import Derived.Test.YtanakfeaifggoaaRows
import Derived.Test.YtanakfeaifggoaaClg
import Derived.Test.YtanakfeaifggoaaClo
namespace Go.Proofs.Ytanakfeaifggoaa
open Go Go.Sx Go.RowKit Go.ChangeShapes Go.WideShapes

set_option maxRecDepth 100000 in
theorem fnExactGetChan_lifted (os : Os) (started : os.Started) (H : Type) (enc : TypeId × Value → H) :
    ReturnsInHanded {} Try.checked os 12 .any (Rows.fnExactGetChanSpec.pre6 enc Try.checked.prog Try.f12 Rows.fnExactGetChanRow.domain false) (Rows.fnExactGetChanSpec.post enc Try.checked.prog Try.f12 false true false false) :=
  exact2_lifted Try.func12 (by kernel_rfl) rfl rfl rfl (fun _ _ _ => rfl) exactGet_c os started H enc
    (ChangeSpec.witness6 (enc := enc) (C := Try.checked) false ⟨#[], #[.agg #[.int .i64 0, .slice none 0 0, .slice none 0 0, .slice none 0 0, .bool false], .int .i64 0], []⟩ 8 (by kernel_rfl) (by kernel_rfl) (by kernel_rfl) (by kernel_rfl))

theorem fnExactGetChan_holds : Rows.FnExactGetChanSaid :=
  OpenClaim.holds_of_wide 12 Try.f12 rfl rfl rfl rfl rfl rfl rfl ⟨rfl, rfl, rfl, rfl, rfl⟩ rfl rfl rfl rfl rfl (by kernel_rfl) Try.func12 (by kernel_rfl)
    (of_decide_eq_true (by kernel_rfl)) (by unfold Func.isWrapper; first | (rw [if_pos (by decide +kernel)]; kernel_rfl) | (rw [if_neg (by decide +kernel)]; exact ⟨rfl, rfl⟩))
    (fun os started H enc _ => fnExactGetChan_lifted os started H enc)
end Go.Proofs.Ytanakfeaifggoaa

