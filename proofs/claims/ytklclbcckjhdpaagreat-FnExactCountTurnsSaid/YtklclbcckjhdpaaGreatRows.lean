/-
  No cell of these rows narrows 'for every input' (looked for: loops, veiled, ifaces, maps, wideKeys, modest, calm, conditions, laid).
  DERIVED. THE GIVEN ROWS OF THIS SEAT. 9 by the template 'for every input the law returns true; each argument reads behind the call as it read before'; 0 by the template 'total and deterministic' (their statements: YtklclbcckjhdpaaGreatTotals.lean).
  GIVEN WITH THE SEED: the statements are not yours to turn. If you find one false, say at which input.
  Laid BY PROGRAM, IN A SANDBOX (cutbox-rows.mjs): the forced cells as the released guide's own fill.sh prints them over the translation d101b53bd234ffa6… (all of the seat's roots in one cut). By AI agents, Wed Nov 11 2026. No macro, syntax, notation, axiom, sorry.
-/
import Derived.Test.YtklclbcckjhdpaaGreatChecked
import GoSem.Claim
import GoSem.ClaimJoined
import GoSem.ClaimMapViews
import Derived.JoinedTies
import Derived.KernelRfl
namespace Go.Proofs.YtklclbcckjhdpaaGreat
/- THE CELL 'sum', in the pinned program and in every row, IS THE sha256 OF THE DUMP (.gsa) THAT YtklclbcckjhdpaaGreatProg.lean LOADS. Nothing in Lean hashes anything: it is a label: what it is worth is what the hold of that sum in a sandbox is worth. -/
noncomputable def Tryz.pinned : Pinned := { name := "ytklclbcckjhdpaagreat", sum := "d101b53bd234ffa67afdca7581e8a99c6b455da9e40feb2ecc3a316fc340571e", checked := Tryz.checked }
namespace Rows
def none {H : Type} : Left H := { results := [], args := [] }

/-- 'laws.FnExactStepThread': WHATEVER THE INPUT: true; the input reads as it did. -/
def fnExactStepThreadSpec : ChangeSpec := { name := "fnExactStepThread", fn := fun _ => fun
  | [d1, d2, d3] => { results := [.lit (.bool true)], args := [d1, d2, d3] }
  | _ => none }
def fnExactStepThreadRow : OpenClaim := { program := "ytklclbcckjhdpaagreat", sum := "d101b53bd234ffa67afdca7581e8a99c6b455da9e40feb2ecc3a316fc340571e", func := "loop.example/waitkit/laws.FnExactStepThread", spec := "fnExactStepThread", unfollowed := true, recurses := true, apart := false }
def FnExactStepThreadSaid : Prop := fnExactStepThreadRow.holds Tryz.pinned (OpenSpec.ofChange fnExactStepThreadSpec)

/-- ITS FALSE NEIGHBOUR: 'it returns false'. Refute it at one input. -/
def fnExactStepThreadWrong : ChangeSpec := { name := "fnExactStepThread", fn := fun _ => fun
  | [d1, d2, d3] => { results := [.lit (.bool false)], args := [d1, d2, d3] }
  | _ => none }
def FnExactStepThreadWrongFalsely : Prop := fnExactStepThreadRow.holds Tryz.pinned (OpenSpec.ofChange fnExactStepThreadWrong)

/-- 'laws.FnExactStateFits': WHATEVER THE INPUT: true; the input reads as it did. -/
def fnExactStateFitsSpec : ChangeSpec := { name := "fnExactStateFits", fn := fun _ => fun
  | [d1, d2] => { results := [.lit (.bool true)], args := [d1, d2] }
  | _ => none }
def fnExactStateFitsRow : OpenClaim := { program := "ytklclbcckjhdpaagreat", sum := "d101b53bd234ffa67afdca7581e8a99c6b455da9e40feb2ecc3a316fc340571e", func := "loop.example/waitkit/laws.FnExactStateFits", spec := "fnExactStateFits", unfollowed := true, recurses := true, apart := false }
def FnExactStateFitsSaid : Prop := fnExactStateFitsRow.holds Tryz.pinned (OpenSpec.ofChange fnExactStateFitsSpec)

/-- ITS FALSE NEIGHBOUR: 'it returns false'. Refute it at one input. -/
def fnExactStateFitsWrong : ChangeSpec := { name := "fnExactStateFits", fn := fun _ => fun
  | [d1, d2] => { results := [.lit (.bool false)], args := [d1, d2] }
  | _ => none }
def FnExactStateFitsWrongFalsely : Prop := fnExactStateFitsRow.holds Tryz.pinned (OpenSpec.ofChange fnExactStateFitsWrong)

/-- 'laws.FnExactWaitsFor': WHATEVER THE INPUT: true; the input reads as it did. -/
def fnExactWaitsForSpec : ChangeSpec := { name := "fnExactWaitsFor", fn := fun _ => fun
  | [d1, d2, d3] => { results := [.lit (.bool true)], args := [d1, d2, d3] }
  | _ => none }
def fnExactWaitsForRow : OpenClaim := { program := "ytklclbcckjhdpaagreat", sum := "d101b53bd234ffa67afdca7581e8a99c6b455da9e40feb2ecc3a316fc340571e", func := "loop.example/waitkit/laws.FnExactWaitsFor", spec := "fnExactWaitsFor", unfollowed := true, recurses := true, apart := false }
def FnExactWaitsForSaid : Prop := fnExactWaitsForRow.holds Tryz.pinned (OpenSpec.ofChange fnExactWaitsForSpec)

/-- ITS FALSE NEIGHBOUR: 'it returns false'. Refute it at one input. -/
def fnExactWaitsForWrong : ChangeSpec := { name := "fnExactWaitsFor", fn := fun _ => fun
  | [d1, d2, d3] => { results := [.lit (.bool false)], args := [d1, d2, d3] }
  | _ => none }
def FnExactWaitsForWrongFalsely : Prop := fnExactWaitsForRow.holds Tryz.pinned (OpenSpec.ofChange fnExactWaitsForWrong)

/-- 'laws.FnExactIsOver': WHATEVER THE INPUT: true; the input reads as it did. -/
def fnExactIsOverSpec : ChangeSpec := { name := "fnExactIsOver", fn := fun _ => fun
  | [d1, d2] => { results := [.lit (.bool true)], args := [d1, d2] }
  | _ => none }
def fnExactIsOverRow : OpenClaim := { program := "ytklclbcckjhdpaagreat", sum := "d101b53bd234ffa67afdca7581e8a99c6b455da9e40feb2ecc3a316fc340571e", func := "loop.example/waitkit/laws.FnExactIsOver", spec := "fnExactIsOver", unfollowed := true, recurses := true, apart := false }
def FnExactIsOverSaid : Prop := fnExactIsOverRow.holds Tryz.pinned (OpenSpec.ofChange fnExactIsOverSpec)

/-- ITS FALSE NEIGHBOUR: 'it returns false'. Refute it at one input. -/
def fnExactIsOverWrong : ChangeSpec := { name := "fnExactIsOver", fn := fun _ => fun
  | [d1, d2] => { results := [.lit (.bool false)], args := [d1, d2] }
  | _ => none }
def FnExactIsOverWrongFalsely : Prop := fnExactIsOverRow.holds Tryz.pinned (OpenSpec.ofChange fnExactIsOverWrong)

/-- 'laws.FnExactIsStuck': WHATEVER THE INPUT: true; the input reads as it did. -/
def fnExactIsStuckSpec : ChangeSpec := { name := "fnExactIsStuck", fn := fun _ => fun
  | [d1, d2] => { results := [.lit (.bool true)], args := [d1, d2] }
  | _ => none }
def fnExactIsStuckRow : OpenClaim := { program := "ytklclbcckjhdpaagreat", sum := "d101b53bd234ffa67afdca7581e8a99c6b455da9e40feb2ecc3a316fc340571e", func := "loop.example/waitkit/laws.FnExactIsStuck", spec := "fnExactIsStuck", unfollowed := true, recurses := true, apart := false }
def FnExactIsStuckSaid : Prop := fnExactIsStuckRow.holds Tryz.pinned (OpenSpec.ofChange fnExactIsStuckSpec)

/-- ITS FALSE NEIGHBOUR: 'it returns false'. Refute it at one input. -/
def fnExactIsStuckWrong : ChangeSpec := { name := "fnExactIsStuck", fn := fun _ => fun
  | [d1, d2] => { results := [.lit (.bool false)], args := [d1, d2] }
  | _ => none }
def FnExactIsStuckWrongFalsely : Prop := fnExactIsStuckRow.holds Tryz.pinned (OpenSpec.ofChange fnExactIsStuckWrong)

/-- 'laws.FnExactEndOf': WHATEVER THE INPUT: true; the input reads as it did. -/
def fnExactEndOfSpec : ChangeSpec := { name := "fnExactEndOf", fn := fun _ => fun
  | [d1, d2] => { results := [.lit (.bool true)], args := [d1, d2] }
  | _ => none }
def fnExactEndOfRow : OpenClaim := { program := "ytklclbcckjhdpaagreat", sum := "d101b53bd234ffa67afdca7581e8a99c6b455da9e40feb2ecc3a316fc340571e", func := "loop.example/waitkit/laws.FnExactEndOf", spec := "fnExactEndOf", unfollowed := true, recurses := true, apart := false }
def FnExactEndOfSaid : Prop := fnExactEndOfRow.holds Tryz.pinned (OpenSpec.ofChange fnExactEndOfSpec)

/-- ITS FALSE NEIGHBOUR: 'it returns false'. Refute it at one input. -/
def fnExactEndOfWrong : ChangeSpec := { name := "fnExactEndOf", fn := fun _ => fun
  | [d1, d2] => { results := [.lit (.bool false)], args := [d1, d2] }
  | _ => none }
def FnExactEndOfWrongFalsely : Prop := fnExactEndOfRow.holds Tryz.pinned (OpenSpec.ofChange fnExactEndOfWrong)

/-- 'laws.FnExactReadyThreads': WHATEVER THE INPUT: true; the input reads as it did. -/
def fnExactReadyThreadsSpec : ChangeSpec := { name := "fnExactReadyThreads", fn := fun _ => fun
  | [d1, d2] => { results := [.lit (.bool true)], args := [d1, d2] }
  | _ => none }
def fnExactReadyThreadsRow : OpenClaim := { program := "ytklclbcckjhdpaagreat", sum := "d101b53bd234ffa67afdca7581e8a99c6b455da9e40feb2ecc3a316fc340571e", func := "loop.example/waitkit/laws.FnExactReadyThreads", spec := "fnExactReadyThreads", unfollowed := true, recurses := true, apart := false }
def FnExactReadyThreadsSaid : Prop := fnExactReadyThreadsRow.holds Tryz.pinned (OpenSpec.ofChange fnExactReadyThreadsSpec)

/-- ITS FALSE NEIGHBOUR: 'it returns false'. Refute it at one input. -/
def fnExactReadyThreadsWrong : ChangeSpec := { name := "fnExactReadyThreads", fn := fun _ => fun
  | [d1, d2] => { results := [.lit (.bool false)], args := [d1, d2] }
  | _ => none }
def FnExactReadyThreadsWrongFalsely : Prop := fnExactReadyThreadsRow.holds Tryz.pinned (OpenSpec.ofChange fnExactReadyThreadsWrong)

/-- 'laws.FnExactCountTurns': WHATEVER THE INPUT: true; the input reads as it did. -/
def fnExactCountTurnsSpec : ChangeSpec := { name := "fnExactCountTurns", fn := fun _ => fun
  | [d1, d2] => { results := [.lit (.bool true)], args := [d1, d2] }
  | _ => none }
def fnExactCountTurnsRow : OpenClaim := { program := "ytklclbcckjhdpaagreat", sum := "d101b53bd234ffa67afdca7581e8a99c6b455da9e40feb2ecc3a316fc340571e", func := "loop.example/waitkit/laws.FnExactCountTurns", spec := "fnExactCountTurns", unfollowed := true, recurses := true, apart := false }
def FnExactCountTurnsSaid : Prop := fnExactCountTurnsRow.holds Tryz.pinned (OpenSpec.ofChange fnExactCountTurnsSpec)

/-- ITS FALSE NEIGHBOUR: 'it returns false'. Refute it at one input. -/
def fnExactCountTurnsWrong : ChangeSpec := { name := "fnExactCountTurns", fn := fun _ => fun
  | [d1, d2] => { results := [.lit (.bool false)], args := [d1, d2] }
  | _ => none }
def FnExactCountTurnsWrongFalsely : Prop := fnExactCountTurnsRow.holds Tryz.pinned (OpenSpec.ofChange fnExactCountTurnsWrong)

/-- 'laws.FnExactChoicesOf': WHATEVER THE INPUT: true; the input reads as it did. -/
def fnExactChoicesOfSpec : ChangeSpec := { name := "fnExactChoicesOf", fn := fun _ => fun
  | [d1, d2] => { results := [.lit (.bool true)], args := [d1, d2] }
  | _ => none }
def fnExactChoicesOfRow : OpenClaim := { program := "ytklclbcckjhdpaagreat", sum := "d101b53bd234ffa67afdca7581e8a99c6b455da9e40feb2ecc3a316fc340571e", func := "loop.example/waitkit/laws.FnExactChoicesOf", spec := "fnExactChoicesOf", unfollowed := true, recurses := true, apart := false }
def FnExactChoicesOfSaid : Prop := fnExactChoicesOfRow.holds Tryz.pinned (OpenSpec.ofChange fnExactChoicesOfSpec)

/-- ITS FALSE NEIGHBOUR: 'it returns false'. Refute it at one input. -/
def fnExactChoicesOfWrong : ChangeSpec := { name := "fnExactChoicesOf", fn := fun _ => fun
  | [d1, d2] => { results := [.lit (.bool false)], args := [d1, d2] }
  | _ => none }
def FnExactChoicesOfWrongFalsely : Prop := fnExactChoicesOfRow.holds Tryz.pinned (OpenSpec.ofChange fnExactChoicesOfWrong)

/- THE SECOND FORM. 'bulk': how many values and letters a reading holds, each counted each time it is reached (what is shared counts as often as it is met; a slice's spare places count too). A statement '..UptoSaid' is the law's where the arguments, and the package variables that the reading takes, are together of bulk at most 1048576: NARROWER than '..Said'. Prove '..Said' where nothing that the law and all that it calls make is longer than what came in: it says more and counts as full. Else prove '..UptoSaid'. A law counts once. -/
mutual
def uptoBulk {H : Type} : DataW H → Nat
  | .lit (.string bytes) => bytes.length + 1
  | .lit _ => 1
  | .nil => 1
  | .ptr d => uptoBulk d + 1
  | .slice elems spare => uptoBulkAll elems + uptoBulkAll spare + 1
  | .agg parts => uptoBulkAll parts + 1
  | .iface _ d => uptoBulk d + 1
  | .map entries => uptoBulkEntries entries + 1
  | .held _ => 1
def uptoBulkAll {H : Type} : List (DataW H) → Nat
  | [] => 0
  | d :: r => uptoBulk d + uptoBulkAll r
def uptoBulkEntries {H : Type} : List (Lit × DataW H) → Nat
  | [] => 0
  | x :: r => uptoBulkEntry x + uptoBulkEntries r
def uptoBulkEntry {H : Type} : Lit × DataW H → Nat
  | (.string bytes, d) => bytes.length + uptoBulk d + 1
  | (_, d) => uptoBulk d + 1
 end
def uptoSmall : (H : Type) → List (DataW H) → Bool := fun _ ds => decide (uptoBulkAll ds ≤ 1048576)
def OpenSpec.upto (s : _root_.Go.ChangeSpec) : _root_.Go.OpenSpec := { _root_.Go.OpenSpec.ofChange s with cond := some uptoSmall }

/-- 'laws.FnExactStepThread', WHERE WHAT IT READS IS OF BULK AT MOST 1048576: true; the input reads as it did. -/
def fnExactStepThreadUptoRow : OpenClaim := { program := "ytklclbcckjhdpaagreat", sum := "d101b53bd234ffa67afdca7581e8a99c6b455da9e40feb2ecc3a316fc340571e", func := "loop.example/waitkit/laws.FnExactStepThread", spec := "fnExactStepThread", unfollowed := true, recurses := true, apart := false, narrowed := true }
def FnExactStepThreadUptoSaid : Prop := fnExactStepThreadUptoRow.holds Tryz.pinned (OpenSpec.upto fnExactStepThreadSpec)

/-- 'laws.FnExactStateFits', WHERE WHAT IT READS IS OF BULK AT MOST 1048576: true; the input reads as it did. -/
def fnExactStateFitsUptoRow : OpenClaim := { program := "ytklclbcckjhdpaagreat", sum := "d101b53bd234ffa67afdca7581e8a99c6b455da9e40feb2ecc3a316fc340571e", func := "loop.example/waitkit/laws.FnExactStateFits", spec := "fnExactStateFits", unfollowed := true, recurses := true, apart := false, narrowed := true }
def FnExactStateFitsUptoSaid : Prop := fnExactStateFitsUptoRow.holds Tryz.pinned (OpenSpec.upto fnExactStateFitsSpec)

/-- 'laws.FnExactWaitsFor', WHERE WHAT IT READS IS OF BULK AT MOST 1048576: true; the input reads as it did. -/
def fnExactWaitsForUptoRow : OpenClaim := { program := "ytklclbcckjhdpaagreat", sum := "d101b53bd234ffa67afdca7581e8a99c6b455da9e40feb2ecc3a316fc340571e", func := "loop.example/waitkit/laws.FnExactWaitsFor", spec := "fnExactWaitsFor", unfollowed := true, recurses := true, apart := false, narrowed := true }
def FnExactWaitsForUptoSaid : Prop := fnExactWaitsForUptoRow.holds Tryz.pinned (OpenSpec.upto fnExactWaitsForSpec)

/-- 'laws.FnExactIsOver', WHERE WHAT IT READS IS OF BULK AT MOST 1048576: true; the input reads as it did. -/
def fnExactIsOverUptoRow : OpenClaim := { program := "ytklclbcckjhdpaagreat", sum := "d101b53bd234ffa67afdca7581e8a99c6b455da9e40feb2ecc3a316fc340571e", func := "loop.example/waitkit/laws.FnExactIsOver", spec := "fnExactIsOver", unfollowed := true, recurses := true, apart := false, narrowed := true }
def FnExactIsOverUptoSaid : Prop := fnExactIsOverUptoRow.holds Tryz.pinned (OpenSpec.upto fnExactIsOverSpec)

/-- 'laws.FnExactIsStuck', WHERE WHAT IT READS IS OF BULK AT MOST 1048576: true; the input reads as it did. -/
def fnExactIsStuckUptoRow : OpenClaim := { program := "ytklclbcckjhdpaagreat", sum := "d101b53bd234ffa67afdca7581e8a99c6b455da9e40feb2ecc3a316fc340571e", func := "loop.example/waitkit/laws.FnExactIsStuck", spec := "fnExactIsStuck", unfollowed := true, recurses := true, apart := false, narrowed := true }
def FnExactIsStuckUptoSaid : Prop := fnExactIsStuckUptoRow.holds Tryz.pinned (OpenSpec.upto fnExactIsStuckSpec)

/-- 'laws.FnExactEndOf', WHERE WHAT IT READS IS OF BULK AT MOST 1048576: true; the input reads as it did. -/
def fnExactEndOfUptoRow : OpenClaim := { program := "ytklclbcckjhdpaagreat", sum := "d101b53bd234ffa67afdca7581e8a99c6b455da9e40feb2ecc3a316fc340571e", func := "loop.example/waitkit/laws.FnExactEndOf", spec := "fnExactEndOf", unfollowed := true, recurses := true, apart := false, narrowed := true }
def FnExactEndOfUptoSaid : Prop := fnExactEndOfUptoRow.holds Tryz.pinned (OpenSpec.upto fnExactEndOfSpec)

/-- 'laws.FnExactReadyThreads', WHERE WHAT IT READS IS OF BULK AT MOST 1048576: true; the input reads as it did. -/
def fnExactReadyThreadsUptoRow : OpenClaim := { program := "ytklclbcckjhdpaagreat", sum := "d101b53bd234ffa67afdca7581e8a99c6b455da9e40feb2ecc3a316fc340571e", func := "loop.example/waitkit/laws.FnExactReadyThreads", spec := "fnExactReadyThreads", unfollowed := true, recurses := true, apart := false, narrowed := true }
def FnExactReadyThreadsUptoSaid : Prop := fnExactReadyThreadsUptoRow.holds Tryz.pinned (OpenSpec.upto fnExactReadyThreadsSpec)

/-- 'laws.FnExactCountTurns', WHERE WHAT IT READS IS OF BULK AT MOST 1048576: true; the input reads as it did. -/
def fnExactCountTurnsUptoRow : OpenClaim := { program := "ytklclbcckjhdpaagreat", sum := "d101b53bd234ffa67afdca7581e8a99c6b455da9e40feb2ecc3a316fc340571e", func := "loop.example/waitkit/laws.FnExactCountTurns", spec := "fnExactCountTurns", unfollowed := true, recurses := true, apart := false, narrowed := true }
def FnExactCountTurnsUptoSaid : Prop := fnExactCountTurnsUptoRow.holds Tryz.pinned (OpenSpec.upto fnExactCountTurnsSpec)

/-- 'laws.FnExactChoicesOf', WHERE WHAT IT READS IS OF BULK AT MOST 1048576: true; the input reads as it did. -/
def fnExactChoicesOfUptoRow : OpenClaim := { program := "ytklclbcckjhdpaagreat", sum := "d101b53bd234ffa67afdca7581e8a99c6b455da9e40feb2ecc3a316fc340571e", func := "loop.example/waitkit/laws.FnExactChoicesOf", spec := "fnExactChoicesOf", unfollowed := true, recurses := true, apart := false, narrowed := true }
def FnExactChoicesOfUptoSaid : Prop := fnExactChoicesOfUptoRow.holds Tryz.pinned (OpenSpec.upto fnExactChoicesOfSpec)

end Rows
end Go.Proofs.YtklclbcckjhdpaaGreat
