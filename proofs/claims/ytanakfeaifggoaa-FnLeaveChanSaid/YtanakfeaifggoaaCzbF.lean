/- FnLeaveChan: called with any bytes it returns true. No condition. -/
import Derived.Test.YtanakfeaifggoaaRows
import Derived.Test.YtanakfeaifggoaaCzb
import Derived.Test.YtanakfeaifggoaaChs
namespace Go.Proofs.Ytanakfeaifggoaa
open Go Go.Sx Go.RowKit Go.ChangeShapes Go.WideShapes

set_option maxRecDepth 100000 in
theorem fnLeaveChan_lifted (os : Os) (started : os.Started) (H : Type) (enc : TypeId × Value → H) :
    ReturnsInHanded {} Try.checked os 9 .any (Rows.fnLeaveChanSpec.pre6 enc Try.checked.prog Try.f9 Rows.fnLeaveChanRow.domain false) (Rows.fnLeaveChanSpec.post enc Try.checked.prog Try.f9 false true false false) :=
  bytes_lifted Try.func9 (by kernel_rfl) rfl rfl rfl (fun _ _ => rfl) leaveChan_c os started H enc
    (ChangeSpec.witness6 (enc := enc) (C := Try.checked) false ⟨#[], #[.slice none 0 0], []⟩ 8 (by kernel_rfl) (by kernel_rfl) (by kernel_rfl) (by kernel_rfl))

theorem fnLeaveChan_holds : Rows.FnLeaveChanSaid :=
  OpenClaim.holds_of_wide 9 Try.f9 rfl rfl rfl rfl rfl rfl rfl ⟨rfl, rfl, rfl, rfl, rfl⟩ rfl rfl rfl rfl rfl (by kernel_rfl) Try.func9 (by kernel_rfl)
    (of_decide_eq_true (by kernel_rfl)) (by unfold Func.isWrapper; first | (rw [if_pos (by decide +kernel)]; kernel_rfl) | (rw [if_neg (by decide +kernel)]; exact ⟨rfl, rfl⟩))
    (fun os started H enc _ => fnLeaveChan_lifted os started H enc)
end Go.Proofs.Ytanakfeaifggoaa

