/-
  DERIVED. GIVEN WITH THE SEED: THE CARDS: each row of YtchkcjeeknfchaaGreatDoorRows.lean that lists a variable, with what it lists TIED to the program's text (the seventh form; the later family's looks); each row that meets fmt, with fmt's text TOLD by the authors' own Lean function (tested against real Go, not proved from fmt's source: count such statements apart). THE CARD IS WHAT COUNTS. Prove the row's statement (the work); the ties are given (YtchkcjeeknfchaaGreatDoorTie.lean); close each card by the builder's one call (the guide's Derived/Test/ToyasCard.lean, 'card_holds'). Laid BY PROGRAM, IN A SANDBOX (cutbox-door.mjs). By AI agents, Wed Nov 11 2026. No macro, syntax, notation, axiom, sorry.
-/
import Derived.Test.YtchkcjeeknfchaaGreatDoorRows
import GoSem.ClaimSeven
namespace Go.Proofs.YtchkcjeeknfchaaGreatDoor
namespace Rows

/-- THE TIED CARD OF 'laws.FnExactFormatState'. -/
def fnExactFormatStateCard : Claim7 := { stood := { row := fnExactFormatStateRow, standIns := [], harness := (true, "5d9c8bd3f61f66d1c121101cf27877310275150ecb6655063ada4ee2d2c32ba6"), looks := false }, kinds := [], alts := [], laidByText := true, laidKinds := [.data, .data, .data], laidTests := true, laidLooks := .later }
def FnExactFormatStateCardSaid : Prop := Claim7.holds Tryz.pinned (.plain (OpenSpec.ofChange fnExactFormatStateSpec)) fnExactFormatStateCard

/-- THE TIED CARD OF 'laws.FnFormatState'. -/
def fnFormatStateCard : Claim7 := { stood := { row := fnFormatStateRow, standIns := [], harness := (true, "5d9c8bd3f61f66d1c121101cf27877310275150ecb6655063ada4ee2d2c32ba6"), looks := false }, kinds := [], alts := [], laidByText := true, laidKinds := [.data, .data, .data], laidTests := true, laidLooks := .later }
def FnFormatStateCardSaid : Prop := Claim7.holds Tryz.pinned (.plain (OpenSpec.ofChange fnFormatStateSpec)) fnFormatStateCard

/-- THE SECOND FORM's CARD OF 'laws.FnExactFormatState'. -/
def fnExactFormatStateUptoCard : Claim7 := { stood := { row := fnExactFormatStateUptoRow, standIns := [], harness := (true, "5d9c8bd3f61f66d1c121101cf27877310275150ecb6655063ada4ee2d2c32ba6"), looks := false }, kinds := [], alts := [], laidByText := true, laidKinds := [.data, .data, .data], laidTests := true, laidLooks := .later }
def FnExactFormatStateUptoCardSaid : Prop := Claim7.holds Tryz.pinned (.plain (OpenSpec.upto fnExactFormatStateSpec)) fnExactFormatStateUptoCard

/-- THE SECOND FORM's CARD OF 'laws.FnFormatState'. -/
def fnFormatStateUptoCard : Claim7 := { stood := { row := fnFormatStateUptoRow, standIns := [], harness := (true, "5d9c8bd3f61f66d1c121101cf27877310275150ecb6655063ada4ee2d2c32ba6"), looks := false }, kinds := [], alts := [], laidByText := true, laidKinds := [.data, .data, .data], laidTests := true, laidLooks := .later }
def FnFormatStateUptoCardSaid : Prop := Claim7.holds Tryz.pinned (.plain (OpenSpec.upto fnFormatStateSpec)) fnFormatStateUptoCard
end Rows
end Go.Proofs.YtchkcjeeknfchaaGreatDoor
