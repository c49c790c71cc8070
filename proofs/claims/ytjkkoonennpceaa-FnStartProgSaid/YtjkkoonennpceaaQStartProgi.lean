/- FnStartProg: called with any arguments it returns true. No condition. -/
import Derived.Test.YtjkkoonennpceaaRows
import Derived.Test.YtjkkoonennpceaaQStartProgh
namespace Go.Proofs.Ytjkkoonennpceaa

open Go Go.Sx Go.RowKit Go.ChangeShapes Go.WideShapes

set_option maxRecDepth 100000 in
theorem fnStartProg_lifted (os : Os) (started : os.Started) (H : Type) (enc : TypeId × Value → H) :
    ReturnsInHanded {} Try.checked os 3 .any (Rows.fnStartProgSpec.pre6 enc Try.checked.prog Try.f3 Rows.fnStartProgRow.domain false) (Rows.fnStartProgSpec.post enc Try.checked.prog Try.f3 false true false false) :=
  bytes_lifted Try.func3 (by kernel_rfl) rfl rfl rfl (fun _ _ => rfl) lawStartProg_c os started H enc
    (ChangeSpec.witness6 (enc := enc) (C := Try.checked) false ⟨#[], #[.slice none 0 0], []⟩ 8 (by kernel_rfl) (by kernel_rfl) (by kernel_rfl) (by kernel_rfl))

theorem fnStartProg_holds : Rows.FnStartProgSaid :=
  OpenClaim.holds_of_wide 3 Try.f3 rfl rfl rfl rfl rfl rfl rfl ⟨rfl, rfl, rfl, rfl, rfl⟩ rfl rfl rfl rfl rfl (by kernel_rfl) Try.func3 (by kernel_rfl)
    (of_decide_eq_true (by kernel_rfl)) (by unfold Func.isWrapper; first | (rw [if_pos (by decide +kernel)]; kernel_rfl) | (rw [if_neg (by decide +kernel)]; exact ⟨rfl, rfl⟩))
    (fun os started H enc _ => fnStartProg_lifted os started H enc)

end Go.Proofs.Ytjkkoonennpceaa
