/- FnExactFormatState: called with any arguments it returns true. No condition. -/
import Derived.Test.YtchkcjeeknfchaaGreatDoorRows
import Derived.Test.YtchkcjeeknfchaaGreatDoorCards
import Derived.Test.YtchkcjeeknfchaaGreatDoorTie
import Derived.SevenTiedAt
import Derived.Test.YtchkcjeeknfchaaGreatDoorQExactFormatStatei
namespace Go.Proofs.YtchkcjeeknfchaaGreatDoor

open Go

theorem fnExactFormatState_holds : Rows.FnExactFormatStateCardSaid :=
  Claim7.holds_tied_plain_at .later [] [.data, .data, .data] true (true, "5d9c8bd3f61f66d1c121101cf27877310275150ecb6655063ada4ee2d2c32ba6") false
    fnExactFormatState_row (fun _ h => by cases h) (by kernel_rfl) (fun _ h => by cases h) fnExactFormatState_row_tie rfl ⟨rfl, rfl⟩ (by kernel_rfl) rfl
    (fun f fn hf hfn => by
      obtain rfl : f = 3 := Option.some.inj ((show Tryz.prog.funcNamed "loop.example/waitkit/laws.FnExactFormatState" = some 3 by kernel_rfl).symm.trans hf) |>.symm
      obtain rfl : fn = Tryz.f3 := (Option.some.inj (Tryz.func3.symm.trans hfn)).symm
      exact ⟨by kernel_rfl, fun j t ht => by
        rw [show Tryz.f3.params = #[25, 32] from rfl] at ht
        have hm : t ∈ [25, 32] := by simpa using Array.mem_of_getElem? ht
        have hall : ([25, 32].all fun u => !Tryz.prog.wantsStandIn u) = true := by kernel_rfl
        exact (show Tryz.prog.wantsStandIn t = false by simpa using List.all_eq_true.1 hall t hm)⟩)
    (by kernel_rfl)
#print axioms fnExactFormatState_holds

end Go.Proofs.YtchkcjeeknfchaaGreatDoor
