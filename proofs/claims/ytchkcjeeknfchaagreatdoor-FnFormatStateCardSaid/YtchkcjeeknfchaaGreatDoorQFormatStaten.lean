/- FnFormatState: called with any arguments it returns true. No condition. -/
import Derived.Test.YtchkcjeeknfchaaGreatDoorRows
import Derived.Test.YtchkcjeeknfchaaGreatDoorCards
import Derived.Test.YtchkcjeeknfchaaGreatDoorTie
import Derived.SevenTiedAt
import Derived.Test.YtchkcjeeknfchaaGreatDoorQFormatStatem
namespace Go.Proofs.YtchkcjeeknfchaaGreatDoor
open Go
theorem fnFormatState_holds : Rows.FnFormatStateCardSaid :=
  Claim7.holds_tied_plain_at .later [] [.data, .data, .data] true (true, "5d9c8bd3f61f66d1c121101cf27877310275150ecb6655063ada4ee2d2c32ba6") false
    sL (fun _ h => by cases h) (by kernel_rfl) (fun _ h => by cases h) fnFormatState_row_tie rfl ⟨rfl, rfl⟩ (by kernel_rfl) rfl
    (fun f fn hf hfn => by
      obtain rfl : f = 4 := Option.some.inj ((show Tryz.prog.funcNamed "loop.example/waitkit/laws.FnFormatState" = some 4 by kernel_rfl).symm.trans hf) |>.symm
      obtain rfl : fn = Tryz.f4 := (Option.some.inj (Tryz.func4.symm.trans hfn)).symm
      exact ⟨by kernel_rfl, fun j t ht => by
        rw [show Tryz.f4.params = #[51] from rfl] at ht
        have hm : t ∈ [51] := by simpa using Array.mem_of_getElem? ht
        have hall : ([51].all fun u => !Tryz.prog.wantsStandIn u) = true := by kernel_rfl
        exact (show Tryz.prog.wantsStandIn t = false by simpa using List.all_eq_true.1 hall t hm)⟩)
    (by kernel_rfl)
#print axioms fnFormatState_holds
end Go.Proofs.YtchkcjeeknfchaaGreatDoor
