/-
  No cell of these rows narrows 'for every input' (looked for: loops, veiled, ifaces, maps, wideKeys, modest, calm, conditions, laid).
  DERIVED. THE GIVEN ROWS OF THIS SEAT. 3 by the template 'for every input the law returns true; each argument reads behind the call as it read before'; 0 by the template 'total and deterministic' (their statements: YtpopeaoklccgcaaTotals.lean).
  GIVEN WITH THE SEED: the statements are not yours to turn. If you find one false, say at which input.
  Laid BY PROGRAM, IN A SANDBOX (cutbox-rows.mjs): the forced cells as the released guide's own fill.sh prints them over the translation e12fc3d9a626daf2… (all of the seat's roots in one cut). By AI agents, Wed Nov 11 2026. No macro, syntax, notation, axiom, sorry.
-/
import Derived.Test.YtpopeaoklccgcaaChecked
import GoSem.Claim
import GoSem.ClaimJoined
import GoSem.ClaimMapViews
import Derived.JoinedTies
import Derived.KernelRfl
namespace Go.Proofs.Ytpopeaoklccgcaa
/- THE CELL 'sum', in the pinned program and in every row, IS THE sha256 OF THE DUMP (.gsa) THAT YtpopeaoklccgcaaProg.lean LOADS. Nothing in Lean hashes anything: it is a label: what it is worth is what the hold of that sum in a sandbox is worth. -/
noncomputable def Try.pinned : Pinned := { name := "ytpopeaoklccgcaa", sum := "e12fc3d9a626daf2f85fbfc43e5a87f135e167d7053b67e34a28847c6ddd135f", checked := Try.checked }
namespace Rows
def none {H : Type} : Left H := { results := [], args := [] }

/-- 'laws.FnExactStateSame': WHATEVER THE INPUT: true; the input reads as it did. -/
def fnExactStateSameSpec : ChangeSpec := { name := "fnExactStateSame", fn := fun _ => fun
  | [d1, d2] => { results := [.lit (.bool true)], args := [d1, d2] }
  | _ => none }
def fnExactStateSameRow : OpenClaim := { program := "ytpopeaoklccgcaa", sum := "e12fc3d9a626daf2f85fbfc43e5a87f135e167d7053b67e34a28847c6ddd135f", func := "loop.example/waitkit/laws.FnExactStateSame", spec := "fnExactStateSame", unfollowed := true, recurses := true, apart := false }
def FnExactStateSameSaid : Prop := fnExactStateSameRow.holds Try.pinned (OpenSpec.ofChange fnExactStateSameSpec)

/-- ITS FALSE NEIGHBOUR: 'it returns false'. Refute it at one input. -/
def fnExactStateSameWrong : ChangeSpec := { name := "fnExactStateSame", fn := fun _ => fun
  | [d1, d2] => { results := [.lit (.bool false)], args := [d1, d2] }
  | _ => none }
def FnExactStateSameWrongFalsely : Prop := fnExactStateSameRow.holds Try.pinned (OpenSpec.ofChange fnExactStateSameWrong)

/-- 'laws.FnStartProg': WHATEVER THE INPUT: true; the input reads as it did. -/
def fnStartProgSpec : ChangeSpec := { name := "fnStartProg", fn := fun _ => fun
  | [d] => { results := [.lit (.bool true)], args := [d] }
  | _ => none }
def fnStartProgRow : OpenClaim := { program := "ytpopeaoklccgcaa", sum := "e12fc3d9a626daf2f85fbfc43e5a87f135e167d7053b67e34a28847c6ddd135f", func := "loop.example/waitkit/laws.FnStartProg", spec := "fnStartProg", unfollowed := true, recurses := true, apart := false }
def FnStartProgSaid : Prop := fnStartProgRow.holds Try.pinned (OpenSpec.ofChange fnStartProgSpec)

/-- ITS FALSE NEIGHBOUR: 'it returns false'. Refute it at one input. -/
def fnStartProgWrong : ChangeSpec := { name := "fnStartProg", fn := fun _ => fun
  | [d] => { results := [.lit (.bool false)], args := [d] }
  | _ => none }
def FnStartProgWrongFalsely : Prop := fnStartProgRow.holds Try.pinned (OpenSpec.ofChange fnStartProgWrong)

/-- 'laws.FnExactStartProg': WHATEVER THE INPUT: true; the input reads as it did. -/
def fnExactStartProgSpec : ChangeSpec := { name := "fnExactStartProg", fn := fun _ => fun
  | [d] => { results := [.lit (.bool true)], args := [d] }
  | _ => none }
def fnExactStartProgRow : OpenClaim := { program := "ytpopeaoklccgcaa", sum := "e12fc3d9a626daf2f85fbfc43e5a87f135e167d7053b67e34a28847c6ddd135f", func := "loop.example/waitkit/laws.FnExactStartProg", spec := "fnExactStartProg", unfollowed := true, recurses := true, apart := false }
def FnExactStartProgSaid : Prop := fnExactStartProgRow.holds Try.pinned (OpenSpec.ofChange fnExactStartProgSpec)

/-- ITS FALSE NEIGHBOUR: 'it returns false'. Refute it at one input. -/
def fnExactStartProgWrong : ChangeSpec := { name := "fnExactStartProg", fn := fun _ => fun
  | [d] => { results := [.lit (.bool false)], args := [d] }
  | _ => none }
def FnExactStartProgWrongFalsely : Prop := fnExactStartProgRow.holds Try.pinned (OpenSpec.ofChange fnExactStartProgWrong)

/- THE SECOND FORM. 'bulk': how many values and letters a reading holds, each counted each time it is reached (what is shared counts as often as it is met; a slice's spare places count too). A statement '..UptoSaid' is the law's where the arguments, and the package variables that the reading takes, are together of bulk at most 1048576: NARROWER than '..Said'. Prove '..Said' where nothing that the law and all that it calls make is longer than what came in: it says more and counts as full. Else prove '..UptoSaid'. A law counts once. -/
mutual
def uptoBulk {H : Type} : DataW H → Nat
  | .lit (.string bytes) => bytes.length + 1
  | .lit _ => 1
  | .nil => 1
  | .ptr d => uptoBulk d + 1
  | .slice elems spare => uptoBulkAll elems + uptoBulkAll spare + 1
  | .agg parts => uptoBulkAll parts + 1
  | .iface _ d => uptoBulk d + 1
  | .map entries => uptoBulkEntries entries + 1
  | .held _ => 1
def uptoBulkAll {H : Type} : List (DataW H) → Nat
  | [] => 0
  | d :: r => uptoBulk d + uptoBulkAll r
def uptoBulkEntries {H : Type} : List (Lit × DataW H) → Nat
  | [] => 0
  | x :: r => uptoBulkEntry x + uptoBulkEntries r
def uptoBulkEntry {H : Type} : Lit × DataW H → Nat
  | (.string bytes, d) => bytes.length + uptoBulk d + 1
  | (_, d) => uptoBulk d + 1
 end
def uptoSmall : (H : Type) → List (DataW H) → Bool := fun _ ds => decide (uptoBulkAll ds ≤ 1048576)
def OpenSpec.upto (s : _root_.Go.ChangeSpec) : _root_.Go.OpenSpec := { _root_.Go.OpenSpec.ofChange s with cond := some uptoSmall }

/-- 'laws.FnExactStateSame', WHERE WHAT IT READS IS OF BULK AT MOST 1048576: true; the input reads as it did. -/
def fnExactStateSameUptoRow : OpenClaim := { program := "ytpopeaoklccgcaa", sum := "e12fc3d9a626daf2f85fbfc43e5a87f135e167d7053b67e34a28847c6ddd135f", func := "loop.example/waitkit/laws.FnExactStateSame", spec := "fnExactStateSame", unfollowed := true, recurses := true, apart := false, narrowed := true }
def FnExactStateSameUptoSaid : Prop := fnExactStateSameUptoRow.holds Try.pinned (OpenSpec.upto fnExactStateSameSpec)

/-- 'laws.FnStartProg', WHERE WHAT IT READS IS OF BULK AT MOST 1048576: true; the input reads as it did. -/
def fnStartProgUptoRow : OpenClaim := { program := "ytpopeaoklccgcaa", sum := "e12fc3d9a626daf2f85fbfc43e5a87f135e167d7053b67e34a28847c6ddd135f", func := "loop.example/waitkit/laws.FnStartProg", spec := "fnStartProg", unfollowed := true, recurses := true, apart := false, narrowed := true }
def FnStartProgUptoSaid : Prop := fnStartProgUptoRow.holds Try.pinned (OpenSpec.upto fnStartProgSpec)

/-- 'laws.FnExactStartProg', WHERE WHAT IT READS IS OF BULK AT MOST 1048576: true; the input reads as it did. -/
def fnExactStartProgUptoRow : OpenClaim := { program := "ytpopeaoklccgcaa", sum := "e12fc3d9a626daf2f85fbfc43e5a87f135e167d7053b67e34a28847c6ddd135f", func := "loop.example/waitkit/laws.FnExactStartProg", spec := "fnExactStartProg", unfollowed := true, recurses := true, apart := false, narrowed := true }
def FnExactStartProgUptoSaid : Prop := fnExactStartProgUptoRow.holds Try.pinned (OpenSpec.upto fnExactStartProgSpec)

end Rows
end Go.Proofs.Ytpopeaoklccgcaa
