/- FnExactFormatState: texts that its proof stands on, part 9. -/
import Derived.Test.YtchkcjeeknfchaaGreatDoorRows
import Derived.OpenShut
import Derived.LaidMore
import Derived.Lay
import Derived.Stop.Joined
import Derived.Test.YtchkcjeeknfchaaGreatDoorQExactFormatStateh
namespace Go.Proofs.YtchkcjeeknfchaaGreatDoor

open Go Go.Sx Go.RowKit Go.ChangeShapes Go.WideShapes

set_option maxRecDepth 100000 in
theorem fnExactFormatState_lifted (os : Os) (started : os.Started) (H : Type) (enc : TypeId × Value → H) :
    ReturnsInHanded {} Tryz.checked os 3 .any (fun w args => (Rows.fnExactFormatStateSpec.pre enc Tryz.prog Tryz.f3 Rows.fnExactFormatStateRow.domain false w args ∧ laidMetH Tryz.prog Rows.fnExactFormatStateRow.laid w) ∧ sizedMet enc Tryz.prog Tryz.f3 (OpenSpec.ofChange Rows.fnExactFormatStateSpec) false w args) (Rows.fnExactFormatStateSpec.post enc Tryz.prog Tryz.f3 false true false false) :=
  lifted_PSX (X := fun w _ => laidMetH Tryz.prog Rows.fnExactFormatStateRow.laid w) (fun _ _ _ hh h => h.of_heap hh) Tryz.func3 (by kernel_rfl) rfl rfl rfl (fun _ _ _ => rfl) exactFormatState_c os started H enc
    (ChangeSpec.witness_shaped (enc := enc) (C := Tryz.checked) (os := os) (X := fun w _ => laidMetH Tryz.prog Rows.fnExactFormatStateRow.laid w) false (World.laidAll Tryz.prog os Rows.fnExactFormatStateRow.laid) #[.agg #[.slice none 0 0, .slice none 0 0, .slice none 0 0, .slice none 0 0, .slice none 0 0], .agg #[.slice none 0 0, .slice none 0 0, .slice none 0 0, .slice none 0 0, .slice none 0 0, .slice none 0 0, .slice none 0 0, .slice none 0 0, .int .i64 0]] 8 (World.laidAll_os _ _ _)
      (World.shaped_of_ZipB (by kernel_rfl) (by kernel_rfl)) (by kernel_rfl) (by kernel_rfl) (by kernel_rfl)
      (by rw [MakeChecks.laidMetH_plain _ _ _ (by kernel_rfl)]; exact laidMet_laidAll _ (by kernel_rfl) (by kernel_rfl)))

theorem fnExactFormatState_row : Rows.FnExactFormatStateSaid :=
  OpenClaim.holds_of_wide 3 Tryz.f3 rfl rfl rfl rfl rfl rfl rfl ⟨rfl, rfl, rfl, rfl, rfl⟩ rfl rfl rfl rfl rfl (by kernel_rfl) Tryz.func3 (by kernel_rfl)
    (of_decide_eq_true (by kernel_rfl)) (by unfold Func.isWrapper; first | (rw [if_pos (by decide +kernel)]; kernel_rfl) | (rw [if_neg (by decide +kernel)]; exact ⟨rfl, rfl⟩))
    (fun os started H enc _ => fnExactFormatState_lifted os started H enc)

end Go.Proofs.YtchkcjeeknfchaaGreatDoor
