/- FnReadyThreads: called with any arguments it returns true. No condition. -/
import Derived.Test.YtjkkoonennpceaaGreatQReadyThreadsa
namespace Go.Proofs.YtjkkoonennpceaaGreat
open Go Go.Sx Go.RowKit Go.ChangeShapes Go.WideShapes
set_option maxRecDepth 100000 in
theorem fnReadyThreads_lifted (os : Os) (started : os.Started) (H : Type) (enc : TypeId × Value → H) :
   ReturnsInHanded {} Tryz.checked os 9 .any (Rows.fnReadyThreadsSpec.pre6 enc Tryz.checked.prog Tryz.f9 Rows.fnReadyThreadsRow.domain false) (Rows.fnReadyThreadsSpec.post enc Tryz.checked.prog Tryz.f9 false true false false) :=
 bytes_lifted Tryz.func9 (by kernel_rfl) rfl rfl rfl (fun _ _ => rfl) lawReadyThreads_c os started H enc
   (ChangeSpec.witness6 (enc := enc) (C := Tryz.checked) false ⟨#[], #[.slice none 0 0], []⟩ 8 (by kernel_rfl) (by kernel_rfl) (by kernel_rfl) (by kernel_rfl))
theorem fnReadyThreads_holds : Rows.FnReadyThreadsSaid :=
 OpenClaim.holds_of_wide 9 Tryz.f9 rfl rfl rfl rfl rfl rfl rfl ⟨rfl, rfl, rfl, rfl, rfl⟩ rfl rfl rfl rfl rfl (by kernel_rfl) Tryz.func9 (by kernel_rfl)
   (of_decide_eq_true (by kernel_rfl)) (by unfold Func.isWrapper; first | (rw [if_pos (by decide +kernel)]; kernel_rfl) | (rw [if_neg (by decide +kernel)]; exact ⟨rfl, rfl⟩))
   (fun os started H enc _ => fnReadyThreads_lifted os started H enc)
end Go.Proofs.YtjkkoonennpceaaGreat
