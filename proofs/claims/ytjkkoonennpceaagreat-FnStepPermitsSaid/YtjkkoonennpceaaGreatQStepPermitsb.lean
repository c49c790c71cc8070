/- FnStepPermits: called with any arguments it returns true. No condition. -/
import Derived.Test.YtjkkoonennpceaaGreatQStepPermitsa
namespace Go.Proofs.YtjkkoonennpceaaGreat
open Go Go.Sx Go.RowKit Go.ChangeShapes Go.WideShapes
set_option maxRecDepth 100000 in
theorem fnStepPermits_lifted (os : Os) (started : os.Started) (H : Type) (enc : TypeId × Value → H) :
   ReturnsInHanded {} Tryz.checked os 10 .any (Rows.fnStepPermitsSpec.pre6 enc Tryz.checked.prog Tryz.f10 Rows.fnStepPermitsRow.domain false) (Rows.fnStepPermitsSpec.post enc Tryz.checked.prog Tryz.f10 false true false false) :=
 bytes_lifted Tryz.func10 (by kernel_rfl) rfl rfl rfl (fun _ _ => rfl) lawStepPermits_c os started H enc
   (ChangeSpec.witness6 (enc := enc) (C := Tryz.checked) false ⟨#[], #[.slice none 0 0], []⟩ 8 (by kernel_rfl) (by kernel_rfl) (by kernel_rfl) (by kernel_rfl))
theorem fnStepPermits_holds : Rows.FnStepPermitsSaid :=
 OpenClaim.holds_of_wide 10 Tryz.f10 rfl rfl rfl rfl rfl rfl rfl ⟨rfl, rfl, rfl, rfl, rfl⟩ rfl rfl rfl rfl rfl (by kernel_rfl) Tryz.func10 (by kernel_rfl)
   (of_decide_eq_true (by kernel_rfl)) (by unfold Func.isWrapper; first | (rw [if_pos (by decide +kernel)]; kernel_rfl) | (rw [if_neg (by decide +kernel)]; exact ⟨rfl, rfl⟩))
   (fun os started H enc _ => fnStepPermits_lifted os started H enc)
end Go.Proofs.YtjkkoonennpceaaGreat
