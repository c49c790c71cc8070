/- FnCountTurns: called with any arguments it returns true. No condition. -/
import Derived.Test.YtijmjecehppbfaaGreatRows
import Derived.Test.YtijmjecehppbfaaGreatQCountTurnsp
namespace Go.Proofs.YtijmjecehppbfaaGreat
set_option maxRecDepth 100000
set_option maxHeartbeats 100000000
open Go Go.Sx Go.RowKit Go.ChangeShapes Go.WideShapes
theorem rO (os : Os) (started : os.Started) (H : Type) (enc : TypeId × Value → H) :
    ReturnsInHanded {} Tryz.checked os 8 .any (Rows.fnCountTurnsSpec.pre6 enc Tryz.checked.prog Tryz.f8 Rows.fnCountTurnsRow.domain false) (Rows.fnCountTurnsSpec.post enc Tryz.checked.prog Tryz.f8 false true false false) :=
  bT0 Tryz.func8 (by kernel_rfl) rfl rfl rfl (fun _ _ => rfl) wE os started H enc
    (ChangeSpec.witness6 (enc := enc) (C := Tryz.checked) false ⟨#[], #[.slice none 0 0], []⟩ 8 (by kernel_rfl) (by kernel_rfl) (by kernel_rfl) (by kernel_rfl))
theorem fnCountTurns_holds : Rows.FnCountTurnsSaid :=
  OpenClaim.holds_of_wide 8 Tryz.f8 rfl rfl rfl rfl rfl rfl rfl ⟨rfl, rfl, rfl, rfl, rfl⟩ rfl rfl rfl rfl rfl (by kernel_rfl) Tryz.func8 (by kernel_rfl)
    (of_decide_eq_true (by kernel_rfl)) (by unfold Func.isWrapper; first | (rw [if_pos (by decide +kernel)]; kernel_rfl) | (rw [if_neg (by decide +kernel)]; exact ⟨rfl, rfl⟩))
    (fun os started H enc _ => rO os started H enc)
end Go.Proofs.YtijmjecehppbfaaGreat
