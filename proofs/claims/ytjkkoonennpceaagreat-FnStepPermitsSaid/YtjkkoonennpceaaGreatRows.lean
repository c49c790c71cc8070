/-
  No cell of these rows narrows 'for every input' (looked for: loops, veiled, ifaces, maps, wideKeys, modest, calm, conditions, laid).
  DERIVED. THE GIVEN ROWS OF THIS SEAT. 11 by the template 'for every input the law returns true; each argument reads behind the call as it read before'; 0 by the template 'total and deterministic' (their statements: YtjkkoonennpceaaGreatTotals.lean).
  GIVEN WITH THE SEED: the statements are not yours to turn. If you find one false, say at which input.
  Laid BY PROGRAM, IN A SANDBOX (cutbox-rows.mjs): the forced cells as the released guide's own fill.sh prints them over the translation 34c0cd69050cd607… (all of the seat's roots in one cut). By AI agents, Wed Nov 11 2026. No macro, syntax, notation, axiom, sorry.
-/
import Derived.Test.YtjkkoonennpceaaGreatChecked
import GoSem.Claim
import GoSem.ClaimJoined
import GoSem.ClaimMapViews
import Derived.JoinedTies
import Derived.KernelRfl
namespace Go.Proofs.YtjkkoonennpceaaGreat
/- THE CELL 'sum', in the pinned program and in every row, IS THE sha256 OF THE DUMP (.gsa) THAT YtjkkoonennpceaaGreatProg.lean LOADS. Nothing in Lean hashes anything: it is a label: what it is worth is what the hold of that sum in a sandbox is worth. -/
noncomputable def Tryz.pinned : Pinned := { name := "ytjkkoonennpceaagreat", sum := "34c0cd69050cd607dd527f148b4ce3a43749ffbf23f384c6a6afe83a59ab14e1", checked := Tryz.checked }
namespace Rows
def none {H : Type} : Left H := { results := [], args := [] }

/-- 'laws.FnStateSame': WHATEVER THE INPUT: true; the input reads as it did. -/
def fnStateSameSpec : ChangeSpec := { name := "fnStateSame", fn := fun _ => fun
  | [d] => { results := [.lit (.bool true)], args := [d] }
  | _ => none }
def fnStateSameRow : OpenClaim := { program := "ytjkkoonennpceaagreat", sum := "34c0cd69050cd607dd527f148b4ce3a43749ffbf23f384c6a6afe83a59ab14e1", func := "loop.example/waitkit/laws.FnStateSame", spec := "fnStateSame", unfollowed := true, recurses := true, apart := false }
def FnStateSameSaid : Prop := fnStateSameRow.holds Tryz.pinned (OpenSpec.ofChange fnStateSameSpec)

/-- ITS FALSE NEIGHBOUR: 'it returns false'. Refute it at one input. -/
def fnStateSameWrong : ChangeSpec := { name := "fnStateSame", fn := fun _ => fun
  | [d] => { results := [.lit (.bool false)], args := [d] }
  | _ => none }
def FnStateSameWrongFalsely : Prop := fnStateSameRow.holds Tryz.pinned (OpenSpec.ofChange fnStateSameWrong)

/-- 'laws.FnStateMoved': WHATEVER THE INPUT: true; the input reads as it did. -/
def fnStateMovedSpec : ChangeSpec := { name := "fnStateMoved", fn := fun _ => fun
  | [d] => { results := [.lit (.bool true)], args := [d] }
  | _ => none }
def fnStateMovedRow : OpenClaim := { program := "ytjkkoonennpceaagreat", sum := "34c0cd69050cd607dd527f148b4ce3a43749ffbf23f384c6a6afe83a59ab14e1", func := "loop.example/waitkit/laws.FnStateMoved", spec := "fnStateMoved", unfollowed := true, recurses := true, apart := false }
def FnStateMovedSaid : Prop := fnStateMovedRow.holds Tryz.pinned (OpenSpec.ofChange fnStateMovedSpec)

/-- ITS FALSE NEIGHBOUR: 'it returns false'. Refute it at one input. -/
def fnStateMovedWrong : ChangeSpec := { name := "fnStateMoved", fn := fun _ => fun
  | [d] => { results := [.lit (.bool false)], args := [d] }
  | _ => none }
def FnStateMovedWrongFalsely : Prop := fnStateMovedRow.holds Tryz.pinned (OpenSpec.ofChange fnStateMovedWrong)

/-- 'laws.FnWaitsFor': WHATEVER THE INPUT: true; the input reads as it did. -/
def fnWaitsForSpec : ChangeSpec := { name := "fnWaitsFor", fn := fun _ => fun
  | [d] => { results := [.lit (.bool true)], args := [d] }
  | _ => none }
def fnWaitsForRow : OpenClaim := { program := "ytjkkoonennpceaagreat", sum := "34c0cd69050cd607dd527f148b4ce3a43749ffbf23f384c6a6afe83a59ab14e1", func := "loop.example/waitkit/laws.FnWaitsFor", spec := "fnWaitsFor", unfollowed := true, recurses := true, apart := false }
def FnWaitsForSaid : Prop := fnWaitsForRow.holds Tryz.pinned (OpenSpec.ofChange fnWaitsForSpec)

/-- ITS FALSE NEIGHBOUR: 'it returns false'. Refute it at one input. -/
def fnWaitsForWrong : ChangeSpec := { name := "fnWaitsFor", fn := fun _ => fun
  | [d] => { results := [.lit (.bool false)], args := [d] }
  | _ => none }
def FnWaitsForWrongFalsely : Prop := fnWaitsForRow.holds Tryz.pinned (OpenSpec.ofChange fnWaitsForWrong)

/-- 'laws.FnIsOver': WHATEVER THE INPUT: true; the input reads as it did. -/
def fnIsOverSpec : ChangeSpec := { name := "fnIsOver", fn := fun _ => fun
  | [d] => { results := [.lit (.bool true)], args := [d] }
  | _ => none }
def fnIsOverRow : OpenClaim := { program := "ytjkkoonennpceaagreat", sum := "34c0cd69050cd607dd527f148b4ce3a43749ffbf23f384c6a6afe83a59ab14e1", func := "loop.example/waitkit/laws.FnIsOver", spec := "fnIsOver", unfollowed := true, recurses := true, apart := false }
def FnIsOverSaid : Prop := fnIsOverRow.holds Tryz.pinned (OpenSpec.ofChange fnIsOverSpec)

/-- ITS FALSE NEIGHBOUR: 'it returns false'. Refute it at one input. -/
def fnIsOverWrong : ChangeSpec := { name := "fnIsOver", fn := fun _ => fun
  | [d] => { results := [.lit (.bool false)], args := [d] }
  | _ => none }
def FnIsOverWrongFalsely : Prop := fnIsOverRow.holds Tryz.pinned (OpenSpec.ofChange fnIsOverWrong)

/-- 'laws.FnReadyStart': WHATEVER THE INPUT: true; the input reads as it did. -/
def fnReadyStartSpec : ChangeSpec := { name := "fnReadyStart", fn := fun _ => fun
  | [d] => { results := [.lit (.bool true)], args := [d] }
  | _ => none }
def fnReadyStartRow : OpenClaim := { program := "ytjkkoonennpceaagreat", sum := "34c0cd69050cd607dd527f148b4ce3a43749ffbf23f384c6a6afe83a59ab14e1", func := "loop.example/waitkit/laws.FnReadyStart", spec := "fnReadyStart", unfollowed := true, recurses := true, apart := false }
def FnReadyStartSaid : Prop := fnReadyStartRow.holds Tryz.pinned (OpenSpec.ofChange fnReadyStartSpec)

/-- ITS FALSE NEIGHBOUR: 'it returns false'. Refute it at one input. -/
def fnReadyStartWrong : ChangeSpec := { name := "fnReadyStart", fn := fun _ => fun
  | [d] => { results := [.lit (.bool false)], args := [d] }
  | _ => none }
def FnReadyStartWrongFalsely : Prop := fnReadyStartRow.holds Tryz.pinned (OpenSpec.ofChange fnReadyStartWrong)

/-- 'laws.FnEndOf': WHATEVER THE INPUT: true; the input reads as it did. -/
def fnEndOfSpec : ChangeSpec := { name := "fnEndOf", fn := fun _ => fun
  | [d] => { results := [.lit (.bool true)], args := [d] }
  | _ => none }
def fnEndOfRow : OpenClaim := { program := "ytjkkoonennpceaagreat", sum := "34c0cd69050cd607dd527f148b4ce3a43749ffbf23f384c6a6afe83a59ab14e1", func := "loop.example/waitkit/laws.FnEndOf", spec := "fnEndOf", unfollowed := true, recurses := true, apart := false }
def FnEndOfSaid : Prop := fnEndOfRow.holds Tryz.pinned (OpenSpec.ofChange fnEndOfSpec)

/-- ITS FALSE NEIGHBOUR: 'it returns false'. Refute it at one input. -/
def fnEndOfWrong : ChangeSpec := { name := "fnEndOf", fn := fun _ => fun
  | [d] => { results := [.lit (.bool false)], args := [d] }
  | _ => none }
def FnEndOfWrongFalsely : Prop := fnEndOfRow.holds Tryz.pinned (OpenSpec.ofChange fnEndOfWrong)

/-- 'laws.FnReadyThreads': WHATEVER THE INPUT: true; the input reads as it did. -/
def fnReadyThreadsSpec : ChangeSpec := { name := "fnReadyThreads", fn := fun _ => fun
  | [d] => { results := [.lit (.bool true)], args := [d] }
  | _ => none }
def fnReadyThreadsRow : OpenClaim := { program := "ytjkkoonennpceaagreat", sum := "34c0cd69050cd607dd527f148b4ce3a43749ffbf23f384c6a6afe83a59ab14e1", func := "loop.example/waitkit/laws.FnReadyThreads", spec := "fnReadyThreads", unfollowed := true, recurses := true, apart := false }
def FnReadyThreadsSaid : Prop := fnReadyThreadsRow.holds Tryz.pinned (OpenSpec.ofChange fnReadyThreadsSpec)

/-- ITS FALSE NEIGHBOUR: 'it returns false'. Refute it at one input. -/
def fnReadyThreadsWrong : ChangeSpec := { name := "fnReadyThreads", fn := fun _ => fun
  | [d] => { results := [.lit (.bool false)], args := [d] }
  | _ => none }
def FnReadyThreadsWrongFalsely : Prop := fnReadyThreadsRow.holds Tryz.pinned (OpenSpec.ofChange fnReadyThreadsWrong)

/-- 'laws.FnStepPermits': WHATEVER THE INPUT: true; the input reads as it did. -/
def fnStepPermitsSpec : ChangeSpec := { name := "fnStepPermits", fn := fun _ => fun
  | [d] => { results := [.lit (.bool true)], args := [d] }
  | _ => none }
def fnStepPermitsRow : OpenClaim := { program := "ytjkkoonennpceaagreat", sum := "34c0cd69050cd607dd527f148b4ce3a43749ffbf23f384c6a6afe83a59ab14e1", func := "loop.example/waitkit/laws.FnStepPermits", spec := "fnStepPermits", unfollowed := true, recurses := true, apart := false }
def FnStepPermitsSaid : Prop := fnStepPermitsRow.holds Tryz.pinned (OpenSpec.ofChange fnStepPermitsSpec)

/-- ITS FALSE NEIGHBOUR: 'it returns false'. Refute it at one input. -/
def fnStepPermitsWrong : ChangeSpec := { name := "fnStepPermits", fn := fun _ => fun
  | [d] => { results := [.lit (.bool false)], args := [d] }
  | _ => none }
def FnStepPermitsWrongFalsely : Prop := fnStepPermitsRow.holds Tryz.pinned (OpenSpec.ofChange fnStepPermitsWrong)

/-- 'laws.FnStepSaid': WHATEVER THE INPUT: true; the input reads as it did. -/
def fnStepSaidSpec : ChangeSpec := { name := "fnStepSaid", fn := fun _ => fun
  | [d] => { results := [.lit (.bool true)], args := [d] }
  | _ => none }
def fnStepSaidRow : OpenClaim := { program := "ytjkkoonennpceaagreat", sum := "34c0cd69050cd607dd527f148b4ce3a43749ffbf23f384c6a6afe83a59ab14e1", func := "loop.example/waitkit/laws.FnStepSaid", spec := "fnStepSaid", unfollowed := true, recurses := true, apart := false }
def FnStepSaidSaid : Prop := fnStepSaidRow.holds Tryz.pinned (OpenSpec.ofChange fnStepSaidSpec)

/-- ITS FALSE NEIGHBOUR: 'it returns false'. Refute it at one input. -/
def fnStepSaidWrong : ChangeSpec := { name := "fnStepSaid", fn := fun _ => fun
  | [d] => { results := [.lit (.bool false)], args := [d] }
  | _ => none }
def FnStepSaidWrongFalsely : Prop := fnStepSaidRow.holds Tryz.pinned (OpenSpec.ofChange fnStepSaidWrong)

/-- 'laws.FnStepThread': WHATEVER THE INPUT: true; the input reads as it did. -/
def fnStepThreadSpec : ChangeSpec := { name := "fnStepThread", fn := fun _ => fun
  | [d] => { results := [.lit (.bool true)], args := [d] }
  | _ => none }
def fnStepThreadRow : OpenClaim := { program := "ytjkkoonennpceaagreat", sum := "34c0cd69050cd607dd527f148b4ce3a43749ffbf23f384c6a6afe83a59ab14e1", func := "loop.example/waitkit/laws.FnStepThread", spec := "fnStepThread", unfollowed := true, recurses := true, apart := false }
def FnStepThreadSaid : Prop := fnStepThreadRow.holds Tryz.pinned (OpenSpec.ofChange fnStepThreadSpec)

/-- ITS FALSE NEIGHBOUR: 'it returns false'. Refute it at one input. -/
def fnStepThreadWrong : ChangeSpec := { name := "fnStepThread", fn := fun _ => fun
  | [d] => { results := [.lit (.bool false)], args := [d] }
  | _ => none }
def FnStepThreadWrongFalsely : Prop := fnStepThreadRow.holds Tryz.pinned (OpenSpec.ofChange fnStepThreadWrong)

/-- 'laws.FnStepOthers': WHATEVER THE INPUT: true; the input reads as it did. -/
def fnStepOthersSpec : ChangeSpec := { name := "fnStepOthers", fn := fun _ => fun
  | [d] => { results := [.lit (.bool true)], args := [d] }
  | _ => none }
def fnStepOthersRow : OpenClaim := { program := "ytjkkoonennpceaagreat", sum := "34c0cd69050cd607dd527f148b4ce3a43749ffbf23f384c6a6afe83a59ab14e1", func := "loop.example/waitkit/laws.FnStepOthers", spec := "fnStepOthers", unfollowed := true, recurses := true, apart := false }
def FnStepOthersSaid : Prop := fnStepOthersRow.holds Tryz.pinned (OpenSpec.ofChange fnStepOthersSpec)

/-- ITS FALSE NEIGHBOUR: 'it returns false'. Refute it at one input. -/
def fnStepOthersWrong : ChangeSpec := { name := "fnStepOthers", fn := fun _ => fun
  | [d] => { results := [.lit (.bool false)], args := [d] }
  | _ => none }
def FnStepOthersWrongFalsely : Prop := fnStepOthersRow.holds Tryz.pinned (OpenSpec.ofChange fnStepOthersWrong)

/- THE SECOND FORM. 'bulk': how many values and letters a reading holds, each counted each time it is reached (what is shared counts as often as it is met; a slice's spare places count too). A statement '..UptoSaid' is the law's where the arguments, and the package variables that the reading takes, are together of bulk at most 1048576: NARROWER than '..Said'. Prove '..Said' where nothing that the law and all that it calls make is longer than what came in: it says more and counts as full. Else prove '..UptoSaid'. A law counts once. -/
mutual
def uptoBulk {H : Type} : DataW H → Nat
  | .lit (.string bytes) => bytes.length + 1
  | .lit _ => 1
  | .nil => 1
  | .ptr d => uptoBulk d + 1
  | .slice elems spare => uptoBulkAll elems + uptoBulkAll spare + 1
  | .agg parts => uptoBulkAll parts + 1
  | .iface _ d => uptoBulk d + 1
  | .map entries => uptoBulkEntries entries + 1
  | .held _ => 1
def uptoBulkAll {H : Type} : List (DataW H) → Nat
  | [] => 0
  | d :: r => uptoBulk d + uptoBulkAll r
def uptoBulkEntries {H : Type} : List (Lit × DataW H) → Nat
  | [] => 0
  | x :: r => uptoBulkEntry x + uptoBulkEntries r
def uptoBulkEntry {H : Type} : Lit × DataW H → Nat
  | (.string bytes, d) => bytes.length + uptoBulk d + 1
  | (_, d) => uptoBulk d + 1
 end
def uptoSmall : (H : Type) → List (DataW H) → Bool := fun _ ds => decide (uptoBulkAll ds ≤ 1048576)
def OpenSpec.upto (s : _root_.Go.ChangeSpec) : _root_.Go.OpenSpec := { _root_.Go.OpenSpec.ofChange s with cond := some uptoSmall }

/-- 'laws.FnStateSame', WHERE WHAT IT READS IS OF BULK AT MOST 1048576: true; the input reads as it did. -/
def fnStateSameUptoRow : OpenClaim := { program := "ytjkkoonennpceaagreat", sum := "34c0cd69050cd607dd527f148b4ce3a43749ffbf23f384c6a6afe83a59ab14e1", func := "loop.example/waitkit/laws.FnStateSame", spec := "fnStateSame", unfollowed := true, recurses := true, apart := false, narrowed := true }
def FnStateSameUptoSaid : Prop := fnStateSameUptoRow.holds Tryz.pinned (OpenSpec.upto fnStateSameSpec)

/-- 'laws.FnStateMoved', WHERE WHAT IT READS IS OF BULK AT MOST 1048576: true; the input reads as it did. -/
def fnStateMovedUptoRow : OpenClaim := { program := "ytjkkoonennpceaagreat", sum := "34c0cd69050cd607dd527f148b4ce3a43749ffbf23f384c6a6afe83a59ab14e1", func := "loop.example/waitkit/laws.FnStateMoved", spec := "fnStateMoved", unfollowed := true, recurses := true, apart := false, narrowed := true }
def FnStateMovedUptoSaid : Prop := fnStateMovedUptoRow.holds Tryz.pinned (OpenSpec.upto fnStateMovedSpec)

/-- 'laws.FnWaitsFor', WHERE WHAT IT READS IS OF BULK AT MOST 1048576: true; the input reads as it did. -/
def fnWaitsForUptoRow : OpenClaim := { program := "ytjkkoonennpceaagreat", sum := "34c0cd69050cd607dd527f148b4ce3a43749ffbf23f384c6a6afe83a59ab14e1", func := "loop.example/waitkit/laws.FnWaitsFor", spec := "fnWaitsFor", unfollowed := true, recurses := true, apart := false, narrowed := true }
def FnWaitsForUptoSaid : Prop := fnWaitsForUptoRow.holds Tryz.pinned (OpenSpec.upto fnWaitsForSpec)

/-- 'laws.FnIsOver', WHERE WHAT IT READS IS OF BULK AT MOST 1048576: true; the input reads as it did. -/
def fnIsOverUptoRow : OpenClaim := { program := "ytjkkoonennpceaagreat", sum := "34c0cd69050cd607dd527f148b4ce3a43749ffbf23f384c6a6afe83a59ab14e1", func := "loop.example/waitkit/laws.FnIsOver", spec := "fnIsOver", unfollowed := true, recurses := true, apart := false, narrowed := true }
def FnIsOverUptoSaid : Prop := fnIsOverUptoRow.holds Tryz.pinned (OpenSpec.upto fnIsOverSpec)

/-- 'laws.FnReadyStart', WHERE WHAT IT READS IS OF BULK AT MOST 1048576: true; the input reads as it did. -/
def fnReadyStartUptoRow : OpenClaim := { program := "ytjkkoonennpceaagreat", sum := "34c0cd69050cd607dd527f148b4ce3a43749ffbf23f384c6a6afe83a59ab14e1", func := "loop.example/waitkit/laws.FnReadyStart", spec := "fnReadyStart", unfollowed := true, recurses := true, apart := false, narrowed := true }
def FnReadyStartUptoSaid : Prop := fnReadyStartUptoRow.holds Tryz.pinned (OpenSpec.upto fnReadyStartSpec)

/-- 'laws.FnEndOf', WHERE WHAT IT READS IS OF BULK AT MOST 1048576: true; the input reads as it did. -/
def fnEndOfUptoRow : OpenClaim := { program := "ytjkkoonennpceaagreat", sum := "34c0cd69050cd607dd527f148b4ce3a43749ffbf23f384c6a6afe83a59ab14e1", func := "loop.example/waitkit/laws.FnEndOf", spec := "fnEndOf", unfollowed := true, recurses := true, apart := false, narrowed := true }
def FnEndOfUptoSaid : Prop := fnEndOfUptoRow.holds Tryz.pinned (OpenSpec.upto fnEndOfSpec)

/-- 'laws.FnReadyThreads', WHERE WHAT IT READS IS OF BULK AT MOST 1048576: true; the input reads as it did. -/
def fnReadyThreadsUptoRow : OpenClaim := { program := "ytjkkoonennpceaagreat", sum := "34c0cd69050cd607dd527f148b4ce3a43749ffbf23f384c6a6afe83a59ab14e1", func := "loop.example/waitkit/laws.FnReadyThreads", spec := "fnReadyThreads", unfollowed := true, recurses := true, apart := false, narrowed := true }
def FnReadyThreadsUptoSaid : Prop := fnReadyThreadsUptoRow.holds Tryz.pinned (OpenSpec.upto fnReadyThreadsSpec)

/-- 'laws.FnStepPermits', WHERE WHAT IT READS IS OF BULK AT MOST 1048576: true; the input reads as it did. -/
def fnStepPermitsUptoRow : OpenClaim := { program := "ytjkkoonennpceaagreat", sum := "34c0cd69050cd607dd527f148b4ce3a43749ffbf23f384c6a6afe83a59ab14e1", func := "loop.example/waitkit/laws.FnStepPermits", spec := "fnStepPermits", unfollowed := true, recurses := true, apart := false, narrowed := true }
def FnStepPermitsUptoSaid : Prop := fnStepPermitsUptoRow.holds Tryz.pinned (OpenSpec.upto fnStepPermitsSpec)

/-- 'laws.FnStepSaid', WHERE WHAT IT READS IS OF BULK AT MOST 1048576: true; the input reads as it did. -/
def fnStepSaidUptoRow : OpenClaim := { program := "ytjkkoonennpceaagreat", sum := "34c0cd69050cd607dd527f148b4ce3a43749ffbf23f384c6a6afe83a59ab14e1", func := "loop.example/waitkit/laws.FnStepSaid", spec := "fnStepSaid", unfollowed := true, recurses := true, apart := false, narrowed := true }
def FnStepSaidUptoSaid : Prop := fnStepSaidUptoRow.holds Tryz.pinned (OpenSpec.upto fnStepSaidSpec)

/-- 'laws.FnStepThread', WHERE WHAT IT READS IS OF BULK AT MOST 1048576: true; the input reads as it did. -/
def fnStepThreadUptoRow : OpenClaim := { program := "ytjkkoonennpceaagreat", sum := "34c0cd69050cd607dd527f148b4ce3a43749ffbf23f384c6a6afe83a59ab14e1", func := "loop.example/waitkit/laws.FnStepThread", spec := "fnStepThread", unfollowed := true, recurses := true, apart := false, narrowed := true }
def FnStepThreadUptoSaid : Prop := fnStepThreadUptoRow.holds Tryz.pinned (OpenSpec.upto fnStepThreadSpec)

/-- 'laws.FnStepOthers', WHERE WHAT IT READS IS OF BULK AT MOST 1048576: true; the input reads as it did. -/
def fnStepOthersUptoRow : OpenClaim := { program := "ytjkkoonennpceaagreat", sum := "34c0cd69050cd607dd527f148b4ce3a43749ffbf23f384c6a6afe83a59ab14e1", func := "loop.example/waitkit/laws.FnStepOthers", spec := "fnStepOthers", unfollowed := true, recurses := true, apart := false, narrowed := true }
def FnStepOthersUptoSaid : Prop := fnStepOthersUptoRow.holds Tryz.pinned (OpenSpec.upto fnStepOthersSpec)

end Rows
end Go.Proofs.YtjkkoonennpceaaGreat
