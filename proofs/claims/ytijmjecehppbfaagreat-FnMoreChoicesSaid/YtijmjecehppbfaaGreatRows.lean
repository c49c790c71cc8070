/-
  No cell of these rows narrows 'for every input' (looked for: loops, veiled, ifaces, maps, wideKeys, modest, calm, conditions, laid).
  DERIVED. THE GIVEN ROWS OF THIS SEAT. 6 by the template 'for every input the law returns true; each argument reads behind the call as it read before'; 0 by the template 'total and deterministic' (their statements: YtijmjecehppbfaaGreatTotals.lean).
  GIVEN WITH THE SEED: the statements are not yours to turn. If you find one false, say at which input.
  Laid BY PROGRAM, IN A SANDBOX (cutbox-rows.mjs): the forced cells as the released guide's own fill.sh prints them over the translation eba40dba9698eabf… (all of the seat's roots in one cut). By AI agents, Wed Nov 11 2026. No macro, syntax, notation, axiom, sorry.
-/
import Derived.Test.YtijmjecehppbfaaGreatChecked
import GoSem.Claim
import GoSem.ClaimJoined
import GoSem.ClaimMapViews
import Derived.JoinedTies
import Derived.KernelRfl
namespace Go.Proofs.YtijmjecehppbfaaGreat
/- THE CELL 'sum', in the pinned program and in every row, IS THE sha256 OF THE DUMP (.gsa) THAT YtijmjecehppbfaaGreatProg.lean LOADS. Nothing in Lean hashes anything: it is a label: what it is worth is what the hold of that sum in a sandbox is worth. -/
noncomputable def Tryz.pinned : Pinned := { name := "ytijmjecehppbfaagreat", sum := "eba40dba9698eabf44827a167d02fafe888e6aecbc2650efd8127296f70b3dd4", checked := Tryz.checked }
namespace Rows
def none {H : Type} : Left H := { results := [], args := [] }

/-- 'laws.FnMoreChoices': WHATEVER THE INPUT: true; the input reads as it did. -/
def fnMoreChoicesSpec : ChangeSpec := { name := "fnMoreChoices", fn := fun _ => fun
  | [d] => { results := [.lit (.bool true)], args := [d] }
  | _ => none }
def fnMoreChoicesRow : OpenClaim := { program := "ytijmjecehppbfaagreat", sum := "eba40dba9698eabf44827a167d02fafe888e6aecbc2650efd8127296f70b3dd4", func := "loop.example/waitkit/laws.FnMoreChoices", spec := "fnMoreChoices", unfollowed := true, recurses := true, apart := false }
def FnMoreChoicesSaid : Prop := fnMoreChoicesRow.holds Tryz.pinned (OpenSpec.ofChange fnMoreChoicesSpec)

/-- ITS FALSE NEIGHBOUR: 'it returns false'. Refute it at one input. -/
def fnMoreChoicesWrong : ChangeSpec := { name := "fnMoreChoices", fn := fun _ => fun
  | [d] => { results := [.lit (.bool false)], args := [d] }
  | _ => none }
def FnMoreChoicesWrongFalsely : Prop := fnMoreChoicesRow.holds Tryz.pinned (OpenSpec.ofChange fnMoreChoicesWrong)

/-- 'laws.FnChoicesZero': WHATEVER THE INPUT: true; the input reads as it did. -/
def fnChoicesZeroSpec : ChangeSpec := { name := "fnChoicesZero", fn := fun _ => fun
  | [d] => { results := [.lit (.bool true)], args := [d] }
  | _ => none }
def fnChoicesZeroRow : OpenClaim := { program := "ytijmjecehppbfaagreat", sum := "eba40dba9698eabf44827a167d02fafe888e6aecbc2650efd8127296f70b3dd4", func := "loop.example/waitkit/laws.FnChoicesZero", spec := "fnChoicesZero", unfollowed := true, recurses := true, apart := false }
def FnChoicesZeroSaid : Prop := fnChoicesZeroRow.holds Tryz.pinned (OpenSpec.ofChange fnChoicesZeroSpec)

/-- ITS FALSE NEIGHBOUR: 'it returns false'. Refute it at one input. -/
def fnChoicesZeroWrong : ChangeSpec := { name := "fnChoicesZero", fn := fun _ => fun
  | [d] => { results := [.lit (.bool false)], args := [d] }
  | _ => none }
def FnChoicesZeroWrongFalsely : Prop := fnChoicesZeroRow.holds Tryz.pinned (OpenSpec.ofChange fnChoicesZeroWrong)

/-- 'laws.FnExactChoicesOf': WHATEVER THE INPUT: true; the input reads as it did. -/
def fnExactChoicesOfSpec : ChangeSpec := { name := "fnExactChoicesOf", fn := fun _ => fun
  | [d1, d2] => { results := [.lit (.bool true)], args := [d1, d2] }
  | _ => none }
def fnExactChoicesOfRow : OpenClaim := { program := "ytijmjecehppbfaagreat", sum := "eba40dba9698eabf44827a167d02fafe888e6aecbc2650efd8127296f70b3dd4", func := "loop.example/waitkit/laws.FnExactChoicesOf", spec := "fnExactChoicesOf", unfollowed := true, recurses := true, apart := false }
def FnExactChoicesOfSaid : Prop := fnExactChoicesOfRow.holds Tryz.pinned (OpenSpec.ofChange fnExactChoicesOfSpec)

/-- ITS FALSE NEIGHBOUR: 'it returns false'. Refute it at one input. -/
def fnExactChoicesOfWrong : ChangeSpec := { name := "fnExactChoicesOf", fn := fun _ => fun
  | [d1, d2] => { results := [.lit (.bool false)], args := [d1, d2] }
  | _ => none }
def FnExactChoicesOfWrongFalsely : Prop := fnExactChoicesOfRow.holds Tryz.pinned (OpenSpec.ofChange fnExactChoicesOfWrong)

/-- 'laws.FnStepFault': WHATEVER THE INPUT: true; the input reads as it did. -/
def fnStepFaultSpec : ChangeSpec := { name := "fnStepFault", fn := fun _ => fun
  | [d] => { results := [.lit (.bool true)], args := [d] }
  | _ => none }
def fnStepFaultRow : OpenClaim := { program := "ytijmjecehppbfaagreat", sum := "eba40dba9698eabf44827a167d02fafe888e6aecbc2650efd8127296f70b3dd4", func := "loop.example/waitkit/laws.FnStepFault", spec := "fnStepFault", unfollowed := true, recurses := true, apart := false }
def FnStepFaultSaid : Prop := fnStepFaultRow.holds Tryz.pinned (OpenSpec.ofChange fnStepFaultSpec)

/-- ITS FALSE NEIGHBOUR: 'it returns false'. Refute it at one input. -/
def fnStepFaultWrong : ChangeSpec := { name := "fnStepFault", fn := fun _ => fun
  | [d] => { results := [.lit (.bool false)], args := [d] }
  | _ => none }
def FnStepFaultWrongFalsely : Prop := fnStepFaultRow.holds Tryz.pinned (OpenSpec.ofChange fnStepFaultWrong)

/-- 'laws.FnStepWait': WHATEVER THE INPUT: true; the input reads as it did. -/
def fnStepWaitSpec : ChangeSpec := { name := "fnStepWait", fn := fun _ => fun
  | [d] => { results := [.lit (.bool true)], args := [d] }
  | _ => none }
def fnStepWaitRow : OpenClaim := { program := "ytijmjecehppbfaagreat", sum := "eba40dba9698eabf44827a167d02fafe888e6aecbc2650efd8127296f70b3dd4", func := "loop.example/waitkit/laws.FnStepWait", spec := "fnStepWait", unfollowed := true, recurses := true, apart := false }
def FnStepWaitSaid : Prop := fnStepWaitRow.holds Tryz.pinned (OpenSpec.ofChange fnStepWaitSpec)

/-- ITS FALSE NEIGHBOUR: 'it returns false'. Refute it at one input. -/
def fnStepWaitWrong : ChangeSpec := { name := "fnStepWait", fn := fun _ => fun
  | [d] => { results := [.lit (.bool false)], args := [d] }
  | _ => none }
def FnStepWaitWrongFalsely : Prop := fnStepWaitRow.holds Tryz.pinned (OpenSpec.ofChange fnStepWaitWrong)

/-- 'laws.FnCountTurns': WHATEVER THE INPUT: true; the input reads as it did. -/
def fnCountTurnsSpec : ChangeSpec := { name := "fnCountTurns", fn := fun _ => fun
  | [d] => { results := [.lit (.bool true)], args := [d] }
  | _ => none }
def fnCountTurnsRow : OpenClaim := { program := "ytijmjecehppbfaagreat", sum := "eba40dba9698eabf44827a167d02fafe888e6aecbc2650efd8127296f70b3dd4", func := "loop.example/waitkit/laws.FnCountTurns", spec := "fnCountTurns", unfollowed := true, recurses := true, apart := false }
def FnCountTurnsSaid : Prop := fnCountTurnsRow.holds Tryz.pinned (OpenSpec.ofChange fnCountTurnsSpec)

/-- ITS FALSE NEIGHBOUR: 'it returns false'. Refute it at one input. -/
def fnCountTurnsWrong : ChangeSpec := { name := "fnCountTurns", fn := fun _ => fun
  | [d] => { results := [.lit (.bool false)], args := [d] }
  | _ => none }
def FnCountTurnsWrongFalsely : Prop := fnCountTurnsRow.holds Tryz.pinned (OpenSpec.ofChange fnCountTurnsWrong)

/- THE SECOND FORM. 'bulk': how many values and letters a reading holds, each counted each time it is reached (what is shared counts as often as it is met; a slice's spare places count too). A statement '..UptoSaid' is the law's where the arguments, and the package variables that the reading takes, are together of bulk at most 1048576: NARROWER than '..Said'. Prove '..Said' where nothing that the law and all that it calls make is longer than what came in: it says more and counts as full. Else prove '..UptoSaid'. A law counts once. -/
mutual
def uptoBulk {H : Type} : DataW H → Nat
  | .lit (.string bytes) => bytes.length + 1
  | .lit _ => 1
  | .nil => 1
  | .ptr d => uptoBulk d + 1
  | .slice elems spare => uptoBulkAll elems + uptoBulkAll spare + 1
  | .agg parts => uptoBulkAll parts + 1
  | .iface _ d => uptoBulk d + 1
  | .map entries => uptoBulkEntries entries + 1
  | .held _ => 1
def uptoBulkAll {H : Type} : List (DataW H) → Nat
  | [] => 0
  | d :: r => uptoBulk d + uptoBulkAll r
def uptoBulkEntries {H : Type} : List (Lit × DataW H) → Nat
  | [] => 0
  | x :: r => uptoBulkEntry x + uptoBulkEntries r
def uptoBulkEntry {H : Type} : Lit × DataW H → Nat
  | (.string bytes, d) => bytes.length + uptoBulk d + 1
  | (_, d) => uptoBulk d + 1
 end
def uptoSmall : (H : Type) → List (DataW H) → Bool := fun _ ds => decide (uptoBulkAll ds ≤ 1048576)
def OpenSpec.upto (s : _root_.Go.ChangeSpec) : _root_.Go.OpenSpec := { _root_.Go.OpenSpec.ofChange s with cond := some uptoSmall }

/-- 'laws.FnMoreChoices', WHERE WHAT IT READS IS OF BULK AT MOST 1048576: true; the input reads as it did. -/
def fnMoreChoicesUptoRow : OpenClaim := { program := "ytijmjecehppbfaagreat", sum := "eba40dba9698eabf44827a167d02fafe888e6aecbc2650efd8127296f70b3dd4", func := "loop.example/waitkit/laws.FnMoreChoices", spec := "fnMoreChoices", unfollowed := true, recurses := true, apart := false, narrowed := true }
def FnMoreChoicesUptoSaid : Prop := fnMoreChoicesUptoRow.holds Tryz.pinned (OpenSpec.upto fnMoreChoicesSpec)

/-- 'laws.FnChoicesZero', WHERE WHAT IT READS IS OF BULK AT MOST 1048576: true; the input reads as it did. -/
def fnChoicesZeroUptoRow : OpenClaim := { program := "ytijmjecehppbfaagreat", sum := "eba40dba9698eabf44827a167d02fafe888e6aecbc2650efd8127296f70b3dd4", func := "loop.example/waitkit/laws.FnChoicesZero", spec := "fnChoicesZero", unfollowed := true, recurses := true, apart := false, narrowed := true }
def FnChoicesZeroUptoSaid : Prop := fnChoicesZeroUptoRow.holds Tryz.pinned (OpenSpec.upto fnChoicesZeroSpec)

/-- 'laws.FnExactChoicesOf', WHERE WHAT IT READS IS OF BULK AT MOST 1048576: true; the input reads as it did. -/
def fnExactChoicesOfUptoRow : OpenClaim := { program := "ytijmjecehppbfaagreat", sum := "eba40dba9698eabf44827a167d02fafe888e6aecbc2650efd8127296f70b3dd4", func := "loop.example/waitkit/laws.FnExactChoicesOf", spec := "fnExactChoicesOf", unfollowed := true, recurses := true, apart := false, narrowed := true }
def FnExactChoicesOfUptoSaid : Prop := fnExactChoicesOfUptoRow.holds Tryz.pinned (OpenSpec.upto fnExactChoicesOfSpec)

/-- 'laws.FnStepFault', WHERE WHAT IT READS IS OF BULK AT MOST 1048576: true; the input reads as it did. -/
def fnStepFaultUptoRow : OpenClaim := { program := "ytijmjecehppbfaagreat", sum := "eba40dba9698eabf44827a167d02fafe888e6aecbc2650efd8127296f70b3dd4", func := "loop.example/waitkit/laws.FnStepFault", spec := "fnStepFault", unfollowed := true, recurses := true, apart := false, narrowed := true }
def FnStepFaultUptoSaid : Prop := fnStepFaultUptoRow.holds Tryz.pinned (OpenSpec.upto fnStepFaultSpec)

/-- 'laws.FnStepWait', WHERE WHAT IT READS IS OF BULK AT MOST 1048576: true; the input reads as it did. -/
def fnStepWaitUptoRow : OpenClaim := { program := "ytijmjecehppbfaagreat", sum := "eba40dba9698eabf44827a167d02fafe888e6aecbc2650efd8127296f70b3dd4", func := "loop.example/waitkit/laws.FnStepWait", spec := "fnStepWait", unfollowed := true, recurses := true, apart := false, narrowed := true }
def FnStepWaitUptoSaid : Prop := fnStepWaitUptoRow.holds Tryz.pinned (OpenSpec.upto fnStepWaitSpec)

/-- 'laws.FnCountTurns', WHERE WHAT IT READS IS OF BULK AT MOST 1048576: true; the input reads as it did. -/
def fnCountTurnsUptoRow : OpenClaim := { program := "ytijmjecehppbfaagreat", sum := "eba40dba9698eabf44827a167d02fafe888e6aecbc2650efd8127296f70b3dd4", func := "loop.example/waitkit/laws.FnCountTurns", spec := "fnCountTurns", unfollowed := true, recurses := true, apart := false, narrowed := true }
def FnCountTurnsUptoSaid : Prop := fnCountTurnsUptoRow.holds Tryz.pinned (OpenSpec.upto fnCountTurnsSpec)

end Rows
end Go.Proofs.YtijmjecehppbfaaGreat
