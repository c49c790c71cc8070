/-
  No cell of these rows narrows 'for every input' (looked for: loops, veiled, ifaces, maps, wideKeys, modest, calm, conditions, laid).
  DERIVED. THE GIVEN ROWS OF THIS SEAT. 12 by the template 'for every input the law returns true; each argument reads behind the call as it read before'; 0 by the template 'total and deterministic' (their statements: YtpemppacedfifaaTotals.lean).
  GIVEN WITH THE SEED: the statements are not yours to turn. If you find one false, say at which input.
  Laid BY PROGRAM, IN A SANDBOX (cutbox-rows.mjs): the forced cells as the released guide's own fill.sh prints them over the translation d75aa0975b61040d… (all of the seat's roots in one cut). By AI agents, Wed Nov 11 2026. No macro, syntax, notation, axiom, sorry.
-/
import Derived.Test.YtpemppacedfifaaChecked
import GoSem.Claim
import GoSem.ClaimJoined
import GoSem.ClaimMapViews
import Derived.JoinedTies
import Derived.KernelRfl
namespace Go.Proofs.Ytpemppacedfifaa
/- THE CELL 'sum', in the pinned program and in every row, IS THE sha256 OF THE DUMP (.gsa) THAT YtpemppacedfifaaProg.lean LOADS. Nothing in Lean hashes anything: it is a label: what it is worth is what the hold of that sum in a sandbox is worth. -/
noncomputable def Try.pinned : Pinned := { name := "ytpemppacedfifaa", sum := "d75aa0975b61040dd534e7cfbec86425ffb56066ef730b886c22bc1fde150245", checked := Try.checked }
namespace Rows
def none {H : Type} : Left H := { results := [], args := [] }

/-- 'laws.FnHoldsAll': WHATEVER THE INPUT: true; the input reads as it did. -/
def fnHoldsAllSpec : ChangeSpec := { name := "fnHoldsAll", fn := fun _ => fun
  | [d] => { results := [.lit (.bool true)], args := [d] }
  | _ => none }
def fnHoldsAllRow : OpenClaim := { program := "ytpemppacedfifaa", sum := "d75aa0975b61040dd534e7cfbec86425ffb56066ef730b886c22bc1fde150245", func := "loop.example/waitkit/laws.FnHoldsAll", spec := "fnHoldsAll", unfollowed := true, recurses := true, apart := false }
def FnHoldsAllSaid : Prop := fnHoldsAllRow.holds Try.pinned (OpenSpec.ofChange fnHoldsAllSpec)

/-- ITS FALSE NEIGHBOUR: 'it returns false'. Refute it at one input. -/
def fnHoldsAllWrong : ChangeSpec := { name := "fnHoldsAll", fn := fun _ => fun
  | [d] => { results := [.lit (.bool false)], args := [d] }
  | _ => none }
def FnHoldsAllWrongFalsely : Prop := fnHoldsAllRow.holds Try.pinned (OpenSpec.ofChange fnHoldsAllWrong)

/-- 'laws.FnReadersShare': WHATEVER THE INPUT: true; the input reads as it did. -/
def fnReadersShareSpec : ChangeSpec := { name := "fnReadersShare", fn := fun _ => fun
  | [d] => { results := [.lit (.bool true)], args := [d] }
  | _ => none }
def fnReadersShareRow : OpenClaim := { program := "ytpemppacedfifaa", sum := "d75aa0975b61040dd534e7cfbec86425ffb56066ef730b886c22bc1fde150245", func := "loop.example/waitkit/laws.FnReadersShare", spec := "fnReadersShare", unfollowed := true, recurses := true, apart := false }
def FnReadersShareSaid : Prop := fnReadersShareRow.holds Try.pinned (OpenSpec.ofChange fnReadersShareSpec)

/-- ITS FALSE NEIGHBOUR: 'it returns false'. Refute it at one input. -/
def fnReadersShareWrong : ChangeSpec := { name := "fnReadersShare", fn := fun _ => fun
  | [d] => { results := [.lit (.bool false)], args := [d] }
  | _ => none }
def FnReadersShareWrongFalsely : Prop := fnReadersShareRow.holds Try.pinned (OpenSpec.ofChange fnReadersShareWrong)

/-- 'laws.FnLockDrain': WHATEVER THE INPUT: true; the input reads as it did. -/
def fnLockDrainSpec : ChangeSpec := { name := "fnLockDrain", fn := fun _ => fun
  | [d] => { results := [.lit (.bool true)], args := [d] }
  | _ => none }
def fnLockDrainRow : OpenClaim := { program := "ytpemppacedfifaa", sum := "d75aa0975b61040dd534e7cfbec86425ffb56066ef730b886c22bc1fde150245", func := "loop.example/waitkit/laws.FnLockDrain", spec := "fnLockDrain", recurses := true, apart := false }
def FnLockDrainSaid : Prop := fnLockDrainRow.holds Try.pinned (OpenSpec.ofChange fnLockDrainSpec)

/-- ITS FALSE NEIGHBOUR: 'it returns false'. Refute it at one input. -/
def fnLockDrainWrong : ChangeSpec := { name := "fnLockDrain", fn := fun _ => fun
  | [d] => { results := [.lit (.bool false)], args := [d] }
  | _ => none }
def FnLockDrainWrongFalsely : Prop := fnLockDrainRow.holds Try.pinned (OpenSpec.ofChange fnLockDrainWrong)

/-- 'laws.FnDowngrade': WHATEVER THE INPUT: true; the input reads as it did. -/
def fnDowngradeSpec : ChangeSpec := { name := "fnDowngrade", fn := fun _ => fun
  | [d] => { results := [.lit (.bool true)], args := [d] }
  | _ => none }
def fnDowngradeRow : OpenClaim := { program := "ytpemppacedfifaa", sum := "d75aa0975b61040dd534e7cfbec86425ffb56066ef730b886c22bc1fde150245", func := "loop.example/waitkit/laws.FnDowngrade", spec := "fnDowngrade", recurses := true, apart := false }
def FnDowngradeSaid : Prop := fnDowngradeRow.holds Try.pinned (OpenSpec.ofChange fnDowngradeSpec)

/-- ITS FALSE NEIGHBOUR: 'it returns false'. Refute it at one input. -/
def fnDowngradeWrong : ChangeSpec := { name := "fnDowngrade", fn := fun _ => fun
  | [d] => { results := [.lit (.bool false)], args := [d] }
  | _ => none }
def FnDowngradeWrongFalsely : Prop := fnDowngradeRow.holds Try.pinned (OpenSpec.ofChange fnDowngradeWrong)

/-- 'laws.FnUnlock': WHATEVER THE INPUT: true; the input reads as it did. -/
def fnUnlockSpec : ChangeSpec := { name := "fnUnlock", fn := fun _ => fun
  | [d] => { results := [.lit (.bool true)], args := [d] }
  | _ => none }
def fnUnlockRow : OpenClaim := { program := "ytpemppacedfifaa", sum := "d75aa0975b61040dd534e7cfbec86425ffb56066ef730b886c22bc1fde150245", func := "loop.example/waitkit/laws.FnUnlock", spec := "fnUnlock", recurses := true, apart := false }
def FnUnlockSaid : Prop := fnUnlockRow.holds Try.pinned (OpenSpec.ofChange fnUnlockSpec)

/-- ITS FALSE NEIGHBOUR: 'it returns false'. Refute it at one input. -/
def fnUnlockWrong : ChangeSpec := { name := "fnUnlock", fn := fun _ => fun
  | [d] => { results := [.lit (.bool false)], args := [d] }
  | _ => none }
def FnUnlockWrongFalsely : Prop := fnUnlockRow.holds Try.pinned (OpenSpec.ofChange fnUnlockWrong)

/-- 'laws.FnExactDowngrade': WHATEVER THE INPUT: true; the input reads as it did. -/
def fnExactDowngradeSpec : ChangeSpec := { name := "fnExactDowngrade", fn := fun _ => fun
  | [d1, d2] => { results := [.lit (.bool true)], args := [d1, d2] }
  | _ => none }
def fnExactDowngradeRow : OpenClaim := { program := "ytpemppacedfifaa", sum := "d75aa0975b61040dd534e7cfbec86425ffb56066ef730b886c22bc1fde150245", func := "loop.example/waitkit/laws.FnExactDowngrade", spec := "fnExactDowngrade", recurses := true, apart := false }
def FnExactDowngradeSaid : Prop := fnExactDowngradeRow.holds Try.pinned (OpenSpec.ofChange fnExactDowngradeSpec)

/-- ITS FALSE NEIGHBOUR: 'it returns false'. Refute it at one input. -/
def fnExactDowngradeWrong : ChangeSpec := { name := "fnExactDowngrade", fn := fun _ => fun
  | [d1, d2] => { results := [.lit (.bool false)], args := [d1, d2] }
  | _ => none }
def FnExactDowngradeWrongFalsely : Prop := fnExactDowngradeRow.holds Try.pinned (OpenSpec.ofChange fnExactDowngradeWrong)

/-- 'laws.FnLockFor': WHATEVER THE INPUT: true; the input reads as it did. -/
def fnLockForSpec : ChangeSpec := { name := "fnLockFor", fn := fun _ => fun
  | [d] => { results := [.lit (.bool true)], args := [d] }
  | _ => none }
def fnLockForRow : OpenClaim := { program := "ytpemppacedfifaa", sum := "d75aa0975b61040dd534e7cfbec86425ffb56066ef730b886c22bc1fde150245", func := "loop.example/waitkit/laws.FnLockFor", spec := "fnLockFor", unfollowed := true, recurses := true, apart := false }
def FnLockForSaid : Prop := fnLockForRow.holds Try.pinned (OpenSpec.ofChange fnLockForSpec)

/-- ITS FALSE NEIGHBOUR: 'it returns false'. Refute it at one input. -/
def fnLockForWrong : ChangeSpec := { name := "fnLockFor", fn := fun _ => fun
  | [d] => { results := [.lit (.bool false)], args := [d] }
  | _ => none }
def FnLockForWrongFalsely : Prop := fnLockForRow.holds Try.pinned (OpenSpec.ofChange fnLockForWrong)

/-- 'laws.FnWritersWait': WHATEVER THE INPUT: true; the input reads as it did. -/
def fnWritersWaitSpec : ChangeSpec := { name := "fnWritersWait", fn := fun _ => fun
  | [d] => { results := [.lit (.bool true)], args := [d] }
  | _ => none }
def fnWritersWaitRow : OpenClaim := { program := "ytpemppacedfifaa", sum := "d75aa0975b61040dd534e7cfbec86425ffb56066ef730b886c22bc1fde150245", func := "loop.example/waitkit/laws.FnWritersWait", spec := "fnWritersWait", unfollowed := true, recurses := true, apart := false }
def FnWritersWaitSaid : Prop := fnWritersWaitRow.holds Try.pinned (OpenSpec.ofChange fnWritersWaitSpec)

/-- ITS FALSE NEIGHBOUR: 'it returns false'. Refute it at one input. -/
def fnWritersWaitWrong : ChangeSpec := { name := "fnWritersWait", fn := fun _ => fun
  | [d] => { results := [.lit (.bool false)], args := [d] }
  | _ => none }
def FnWritersWaitWrongFalsely : Prop := fnWritersWaitRow.holds Try.pinned (OpenSpec.ofChange fnWritersWaitWrong)

/-- 'laws.FnUnlockTwice': WHATEVER THE INPUT: true; the input reads as it did. -/
def fnUnlockTwiceSpec : ChangeSpec := { name := "fnUnlockTwice", fn := fun _ => fun
  | [d] => { results := [.lit (.bool true)], args := [d] }
  | _ => none }
def fnUnlockTwiceRow : OpenClaim := { program := "ytpemppacedfifaa", sum := "d75aa0975b61040dd534e7cfbec86425ffb56066ef730b886c22bc1fde150245", func := "loop.example/waitkit/laws.FnUnlockTwice", spec := "fnUnlockTwice", unfollowed := true, recurses := true, apart := false }
def FnUnlockTwiceSaid : Prop := fnUnlockTwiceRow.holds Try.pinned (OpenSpec.ofChange fnUnlockTwiceSpec)

/-- ITS FALSE NEIGHBOUR: 'it returns false'. Refute it at one input. -/
def fnUnlockTwiceWrong : ChangeSpec := { name := "fnUnlockTwice", fn := fun _ => fun
  | [d] => { results := [.lit (.bool false)], args := [d] }
  | _ => none }
def FnUnlockTwiceWrongFalsely : Prop := fnUnlockTwiceRow.holds Try.pinned (OpenSpec.ofChange fnUnlockTwiceWrong)

/-- 'laws.FnDowngradeUnlock': WHATEVER THE INPUT: true; the input reads as it did. -/
def fnDowngradeUnlockSpec : ChangeSpec := { name := "fnDowngradeUnlock", fn := fun _ => fun
  | [d] => { results := [.lit (.bool true)], args := [d] }
  | _ => none }
def fnDowngradeUnlockRow : OpenClaim := { program := "ytpemppacedfifaa", sum := "d75aa0975b61040dd534e7cfbec86425ffb56066ef730b886c22bc1fde150245", func := "loop.example/waitkit/laws.FnDowngradeUnlock", spec := "fnDowngradeUnlock", recurses := true, apart := false }
def FnDowngradeUnlockSaid : Prop := fnDowngradeUnlockRow.holds Try.pinned (OpenSpec.ofChange fnDowngradeUnlockSpec)

/-- ITS FALSE NEIGHBOUR: 'it returns false'. Refute it at one input. -/
def fnDowngradeUnlockWrong : ChangeSpec := { name := "fnDowngradeUnlock", fn := fun _ => fun
  | [d] => { results := [.lit (.bool false)], args := [d] }
  | _ => none }
def FnDowngradeUnlockWrongFalsely : Prop := fnDowngradeUnlockRow.holds Try.pinned (OpenSpec.ofChange fnDowngradeUnlockWrong)

/-- 'laws.FnExactLockFor': WHATEVER THE INPUT: true; the input reads as it did. -/
def fnExactLockForSpec : ChangeSpec := { name := "fnExactLockFor", fn := fun _ => fun
  | [d1, d2, d3] => { results := [.lit (.bool true)], args := [d1, d2, d3] }
  | _ => none }
def fnExactLockForRow : OpenClaim := { program := "ytpemppacedfifaa", sum := "d75aa0975b61040dd534e7cfbec86425ffb56066ef730b886c22bc1fde150245", func := "loop.example/waitkit/laws.FnExactLockFor", spec := "fnExactLockFor", unfollowed := true, recurses := true, apart := false }
def FnExactLockForSaid : Prop := fnExactLockForRow.holds Try.pinned (OpenSpec.ofChange fnExactLockForSpec)

/-- ITS FALSE NEIGHBOUR: 'it returns false'. Refute it at one input. -/
def fnExactLockForWrong : ChangeSpec := { name := "fnExactLockFor", fn := fun _ => fun
  | [d1, d2, d3] => { results := [.lit (.bool false)], args := [d1, d2, d3] }
  | _ => none }
def FnExactLockForWrongFalsely : Prop := fnExactLockForRow.holds Try.pinned (OpenSpec.ofChange fnExactLockForWrong)

/-- 'laws.FnExactUnlock': WHATEVER THE INPUT: true; the input reads as it did. -/
def fnExactUnlockSpec : ChangeSpec := { name := "fnExactUnlock", fn := fun _ => fun
  | [d1, d2] => { results := [.lit (.bool true)], args := [d1, d2] }
  | _ => none }
def fnExactUnlockRow : OpenClaim := { program := "ytpemppacedfifaa", sum := "d75aa0975b61040dd534e7cfbec86425ffb56066ef730b886c22bc1fde150245", func := "loop.example/waitkit/laws.FnExactUnlock", spec := "fnExactUnlock", recurses := true, apart := false }
def FnExactUnlockSaid : Prop := fnExactUnlockRow.holds Try.pinned (OpenSpec.ofChange fnExactUnlockSpec)

/-- ITS FALSE NEIGHBOUR: 'it returns false'. Refute it at one input. -/
def fnExactUnlockWrong : ChangeSpec := { name := "fnExactUnlock", fn := fun _ => fun
  | [d1, d2] => { results := [.lit (.bool false)], args := [d1, d2] }
  | _ => none }
def FnExactUnlockWrongFalsely : Prop := fnExactUnlockRow.holds Try.pinned (OpenSpec.ofChange fnExactUnlockWrong)

/- THE SECOND FORM. 'bulk': how many values and letters a reading holds, each counted each time it is reached (what is shared counts as often as it is met; a slice's spare places count too). A statement '..UptoSaid' is the law's where the arguments, and the package variables that the reading takes, are together of bulk at most 1048576: NARROWER than '..Said'. Prove '..Said' where nothing that the law and all that it calls make is longer than what came in: it says more and counts as full. Else prove '..UptoSaid'. A law counts once. -/
mutual
def uptoBulk {H : Type} : DataW H → Nat
  | .lit (.string bytes) => bytes.length + 1
  | .lit _ => 1
  | .nil => 1
  | .ptr d => uptoBulk d + 1
  | .slice elems spare => uptoBulkAll elems + uptoBulkAll spare + 1
  | .agg parts => uptoBulkAll parts + 1
  | .iface _ d => uptoBulk d + 1
  | .map entries => uptoBulkEntries entries + 1
  | .held _ => 1
def uptoBulkAll {H : Type} : List (DataW H) → Nat
  | [] => 0
  | d :: r => uptoBulk d + uptoBulkAll r
def uptoBulkEntries {H : Type} : List (Lit × DataW H) → Nat
  | [] => 0
  | x :: r => uptoBulkEntry x + uptoBulkEntries r
def uptoBulkEntry {H : Type} : Lit × DataW H → Nat
  | (.string bytes, d) => bytes.length + uptoBulk d + 1
  | (_, d) => uptoBulk d + 1
 end
def uptoSmall : (H : Type) → List (DataW H) → Bool := fun _ ds => decide (uptoBulkAll ds ≤ 1048576)
def OpenSpec.upto (s : _root_.Go.ChangeSpec) : _root_.Go.OpenSpec := { _root_.Go.OpenSpec.ofChange s with cond := some uptoSmall }

/-- 'laws.FnHoldsAll', WHERE WHAT IT READS IS OF BULK AT MOST 1048576: true; the input reads as it did. -/
def fnHoldsAllUptoRow : OpenClaim := { program := "ytpemppacedfifaa", sum := "d75aa0975b61040dd534e7cfbec86425ffb56066ef730b886c22bc1fde150245", func := "loop.example/waitkit/laws.FnHoldsAll", spec := "fnHoldsAll", unfollowed := true, recurses := true, apart := false, narrowed := true }
def FnHoldsAllUptoSaid : Prop := fnHoldsAllUptoRow.holds Try.pinned (OpenSpec.upto fnHoldsAllSpec)

/-- 'laws.FnReadersShare', WHERE WHAT IT READS IS OF BULK AT MOST 1048576: true; the input reads as it did. -/
def fnReadersShareUptoRow : OpenClaim := { program := "ytpemppacedfifaa", sum := "d75aa0975b61040dd534e7cfbec86425ffb56066ef730b886c22bc1fde150245", func := "loop.example/waitkit/laws.FnReadersShare", spec := "fnReadersShare", unfollowed := true, recurses := true, apart := false, narrowed := true }
def FnReadersShareUptoSaid : Prop := fnReadersShareUptoRow.holds Try.pinned (OpenSpec.upto fnReadersShareSpec)

/-- 'laws.FnLockDrain', WHERE WHAT IT READS IS OF BULK AT MOST 1048576: true; the input reads as it did. -/
def fnLockDrainUptoRow : OpenClaim := { program := "ytpemppacedfifaa", sum := "d75aa0975b61040dd534e7cfbec86425ffb56066ef730b886c22bc1fde150245", func := "loop.example/waitkit/laws.FnLockDrain", spec := "fnLockDrain", recurses := true, apart := false, narrowed := true }
def FnLockDrainUptoSaid : Prop := fnLockDrainUptoRow.holds Try.pinned (OpenSpec.upto fnLockDrainSpec)

/-- 'laws.FnDowngrade', WHERE WHAT IT READS IS OF BULK AT MOST 1048576: true; the input reads as it did. -/
def fnDowngradeUptoRow : OpenClaim := { program := "ytpemppacedfifaa", sum := "d75aa0975b61040dd534e7cfbec86425ffb56066ef730b886c22bc1fde150245", func := "loop.example/waitkit/laws.FnDowngrade", spec := "fnDowngrade", recurses := true, apart := false, narrowed := true }
def FnDowngradeUptoSaid : Prop := fnDowngradeUptoRow.holds Try.pinned (OpenSpec.upto fnDowngradeSpec)

/-- 'laws.FnUnlock', WHERE WHAT IT READS IS OF BULK AT MOST 1048576: true; the input reads as it did. -/
def fnUnlockUptoRow : OpenClaim := { program := "ytpemppacedfifaa", sum := "d75aa0975b61040dd534e7cfbec86425ffb56066ef730b886c22bc1fde150245", func := "loop.example/waitkit/laws.FnUnlock", spec := "fnUnlock", recurses := true, apart := false, narrowed := true }
def FnUnlockUptoSaid : Prop := fnUnlockUptoRow.holds Try.pinned (OpenSpec.upto fnUnlockSpec)

/-- 'laws.FnExactDowngrade', WHERE WHAT IT READS IS OF BULK AT MOST 1048576: true; the input reads as it did. -/
def fnExactDowngradeUptoRow : OpenClaim := { program := "ytpemppacedfifaa", sum := "d75aa0975b61040dd534e7cfbec86425ffb56066ef730b886c22bc1fde150245", func := "loop.example/waitkit/laws.FnExactDowngrade", spec := "fnExactDowngrade", recurses := true, apart := false, narrowed := true }
def FnExactDowngradeUptoSaid : Prop := fnExactDowngradeUptoRow.holds Try.pinned (OpenSpec.upto fnExactDowngradeSpec)

/-- 'laws.FnLockFor', WHERE WHAT IT READS IS OF BULK AT MOST 1048576: true; the input reads as it did. -/
def fnLockForUptoRow : OpenClaim := { program := "ytpemppacedfifaa", sum := "d75aa0975b61040dd534e7cfbec86425ffb56066ef730b886c22bc1fde150245", func := "loop.example/waitkit/laws.FnLockFor", spec := "fnLockFor", unfollowed := true, recurses := true, apart := false, narrowed := true }
def FnLockForUptoSaid : Prop := fnLockForUptoRow.holds Try.pinned (OpenSpec.upto fnLockForSpec)

/-- 'laws.FnWritersWait', WHERE WHAT IT READS IS OF BULK AT MOST 1048576: true; the input reads as it did. -/
def fnWritersWaitUptoRow : OpenClaim := { program := "ytpemppacedfifaa", sum := "d75aa0975b61040dd534e7cfbec86425ffb56066ef730b886c22bc1fde150245", func := "loop.example/waitkit/laws.FnWritersWait", spec := "fnWritersWait", unfollowed := true, recurses := true, apart := false, narrowed := true }
def FnWritersWaitUptoSaid : Prop := fnWritersWaitUptoRow.holds Try.pinned (OpenSpec.upto fnWritersWaitSpec)

/-- 'laws.FnUnlockTwice', WHERE WHAT IT READS IS OF BULK AT MOST 1048576: true; the input reads as it did. -/
def fnUnlockTwiceUptoRow : OpenClaim := { program := "ytpemppacedfifaa", sum := "d75aa0975b61040dd534e7cfbec86425ffb56066ef730b886c22bc1fde150245", func := "loop.example/waitkit/laws.FnUnlockTwice", spec := "fnUnlockTwice", unfollowed := true, recurses := true, apart := false, narrowed := true }
def FnUnlockTwiceUptoSaid : Prop := fnUnlockTwiceUptoRow.holds Try.pinned (OpenSpec.upto fnUnlockTwiceSpec)

/-- 'laws.FnDowngradeUnlock', WHERE WHAT IT READS IS OF BULK AT MOST 1048576: true; the input reads as it did. -/
def fnDowngradeUnlockUptoRow : OpenClaim := { program := "ytpemppacedfifaa", sum := "d75aa0975b61040dd534e7cfbec86425ffb56066ef730b886c22bc1fde150245", func := "loop.example/waitkit/laws.FnDowngradeUnlock", spec := "fnDowngradeUnlock", recurses := true, apart := false, narrowed := true }
def FnDowngradeUnlockUptoSaid : Prop := fnDowngradeUnlockUptoRow.holds Try.pinned (OpenSpec.upto fnDowngradeUnlockSpec)

/-- 'laws.FnExactLockFor', WHERE WHAT IT READS IS OF BULK AT MOST 1048576: true; the input reads as it did. -/
def fnExactLockForUptoRow : OpenClaim := { program := "ytpemppacedfifaa", sum := "d75aa0975b61040dd534e7cfbec86425ffb56066ef730b886c22bc1fde150245", func := "loop.example/waitkit/laws.FnExactLockFor", spec := "fnExactLockFor", unfollowed := true, recurses := true, apart := false, narrowed := true }
def FnExactLockForUptoSaid : Prop := fnExactLockForUptoRow.holds Try.pinned (OpenSpec.upto fnExactLockForSpec)

/-- 'laws.FnExactUnlock', WHERE WHAT IT READS IS OF BULK AT MOST 1048576: true; the input reads as it did. -/
def fnExactUnlockUptoRow : OpenClaim := { program := "ytpemppacedfifaa", sum := "d75aa0975b61040dd534e7cfbec86425ffb56066ef730b886c22bc1fde150245", func := "loop.example/waitkit/laws.FnExactUnlock", spec := "fnExactUnlock", recurses := true, apart := false, narrowed := true }
def FnExactUnlockUptoSaid : Prop := fnExactUnlockUptoRow.holds Try.pinned (OpenSpec.upto fnExactUnlockSpec)

end Rows
end Go.Proofs.Ytpemppacedfifaa
