/- FnFormatState: texts that its proof stands on, part 13. -/
import Derived.Test.YtchkcjeeknfchaaGreatDoorRows
import Derived.OpenShut
import Derived.LaidMore
import Derived.Lay
import Derived.Stop.Joined
import Derived.Test.YtchkcjeeknfchaaGreatDoorQFormatStatel
namespace Go.Proofs.YtchkcjeeknfchaaGreatDoor
set_option maxRecDepth 100000
set_option maxHeartbeats 100000000
open Go Go.Sx Go.RowKit Go.ChangeShapes Go.WideShapes
theorem pH (os : Os) (started : os.Started) (H : Type) (enc : TypeId × Value → H) :
   ReturnsInHanded {} Tryz.checked os 4 .any (fun w args => (Rows.fnFormatStateSpec.pre enc Tryz.prog Tryz.f4 Rows.fnFormatStateRow.domain false w args ∧ laidMetH Tryz.prog Rows.fnFormatStateRow.laid w) ∧ sizedMet enc Tryz.prog Tryz.f4 (OpenSpec.ofChange Rows.fnFormatStateSpec) false w args) (Rows.fnFormatStateSpec.post enc Tryz.prog Tryz.f4 false true false false) :=
 wQ (X := fun w _ => laidMetH Tryz.prog Rows.fnFormatStateRow.laid w) (fun _ _ _ hh h => h.of_heap hh) Tryz.func4 z88 rfl rfl rfl (fun _ _ => rfl) tE os started H enc
   (ChangeSpec.witness_shaped (enc := enc) (C := Tryz.checked) (os := os) (X := fun w _ => laidMetH Tryz.prog Rows.fnFormatStateRow.laid w) false (World.laidAll Tryz.prog os Rows.fnFormatStateRow.laid) #[.slice none 0 0] 8 (World.laidAll_os _ _ _)
     (World.shaped_of_ZipB z88 z88) z88 z88 z88
     (by rw [MakeChecks.laidMetH_plain _ _ _ z88]; exact laidMet_laidAll _ z88 z88))
theorem sL : Rows.FnFormatStateSaid :=
 OpenClaim.holds_of_wide 4 Tryz.f4 rfl rfl rfl rfl rfl rfl rfl ⟨rfl, rfl, rfl, rfl, rfl⟩ rfl rfl rfl rfl rfl z88 Tryz.func4 z88
   (of_decide_eq_true z88) (by unfold Func.isWrapper; first | (rw [if_pos (by decide +kernel)]; kernel_rfl) | (rw [if_neg (by decide +kernel)]; exact ⟨rfl, rfl⟩))
   (fun os started H enc _ => pH os started H enc)
end Go.Proofs.YtchkcjeeknfchaaGreatDoor
