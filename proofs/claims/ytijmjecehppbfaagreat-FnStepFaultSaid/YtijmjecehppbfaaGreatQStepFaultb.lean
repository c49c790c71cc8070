/- FnStepFault: called with any arguments it returns true. No condition. -/
import Derived.Test.YtijmjecehppbfaaGreatQStepFaulta
namespace Go.Proofs.YtijmjecehppbfaaGreat

open Go Go.Sx Go.RowKit Go.ChangeShapes Go.WideShapes

set_option maxRecDepth 100000 in
theorem fnStepFault_lifted (os : Os) (started : os.Started) (H : Type) (enc : TypeId × Value → H) :
    ReturnsInHanded {} Tryz.checked os 6 .any (Rows.fnStepFaultSpec.pre6 enc Tryz.checked.prog Tryz.f6 Rows.fnStepFaultRow.domain false) (Rows.fnStepFaultSpec.post enc Tryz.checked.prog Tryz.f6 false true false false) :=
  bytes_lifted Tryz.func6 (by kernel_rfl) rfl rfl rfl (fun _ _ => rfl) lawStepFault_c os started H enc
    (ChangeSpec.witness6 (enc := enc) (C := Tryz.checked) false ⟨#[], #[.slice none 0 0], []⟩ 8 (by kernel_rfl) (by kernel_rfl) (by kernel_rfl) (by kernel_rfl))

theorem fnStepFault_holds : Rows.FnStepFaultSaid :=
  OpenClaim.holds_of_wide 6 Tryz.f6 rfl rfl rfl rfl rfl rfl rfl ⟨rfl, rfl, rfl, rfl, rfl⟩ rfl rfl rfl rfl rfl (by kernel_rfl) Tryz.func6 (by kernel_rfl)
    (of_decide_eq_true (by kernel_rfl)) (by unfold Func.isWrapper; first | (rw [if_pos (by decide +kernel)]; kernel_rfl) | (rw [if_neg (by decide +kernel)]; exact ⟨rfl, rfl⟩))
    (fun os started H enc _ => fnStepFault_lifted os started H enc)

end Go.Proofs.YtijmjecehppbfaaGreat
