/-
  No cell of these rows narrows 'for every input' (looked for: loops, veiled, ifaces, maps, wideKeys, modest, calm, conditions, laid).
  DERIVED. THE GIVEN ROWS OF THIS SEAT. 11 by the template 'for every input the law returns true; each argument reads behind the call as it read before'; 0 by the template 'total and deterministic' (their statements: YtanakfeaifggoaaTotals.lean).
  GIVEN WITH THE SEED: the statements are not yours to turn. If you find one false, say at which input.
  Laid BY PROGRAM, IN A SANDBOX (cutbox-rows.mjs): the forced cells as the released guide's own fill.sh prints them over the translation f3a1b017e4806d41… (all of the seat's roots in one cut). By AI agents, Wed Nov 11 2026. No macro, syntax, notation, axiom, sorry.
-/
import Derived.Test.YtanakfeaifggoaaChecked
import GoSem.Claim
import GoSem.ClaimJoined
import GoSem.ClaimMapViews
import Derived.JoinedTies
import Derived.KernelRfl
namespace Go.Proofs.Ytanakfeaifggoaa
/- THE CELL 'sum', in the pinned program and in every row, IS THE sha256 OF THE DUMP (.gsa) THAT YtanakfeaifggoaaProg.lean LOADS. Nothing in Lean hashes anything: it is a label: what it is worth is what the hold of that sum in a sandbox is worth. -/
noncomputable def Try.pinned : Pinned := { name := "ytanakfeaifggoaa", sum := "f3a1b017e4806d41d9ac04e672e6292efd99309bbfe2e23f6c257301c6c19236", checked := Try.checked }
namespace Rows
def none {H : Type} : Left H := { results := [], args := [] }

/-- 'laws.FnSendOrder': WHATEVER THE INPUT: true; the input reads as it did. -/
def fnSendOrderSpec : ChangeSpec := { name := "fnSendOrder", fn := fun _ => fun
  | [d] => { results := [.lit (.bool true)], args := [d] }
  | _ => none }
def fnSendOrderRow : OpenClaim := { program := "ytanakfeaifggoaa", sum := "f3a1b017e4806d41d9ac04e672e6292efd99309bbfe2e23f6c257301c6c19236", func := "loop.example/waitkit/laws.FnSendOrder", spec := "fnSendOrder", apart := false }
def FnSendOrderSaid : Prop := fnSendOrderRow.holds Try.pinned (OpenSpec.ofChange fnSendOrderSpec)

/-- ITS FALSE NEIGHBOUR: 'it returns false'. Refute it at one input. -/
def fnSendOrderWrong : ChangeSpec := { name := "fnSendOrder", fn := fun _ => fun
  | [d] => { results := [.lit (.bool false)], args := [d] }
  | _ => none }
def FnSendOrderWrongFalsely : Prop := fnSendOrderRow.holds Try.pinned (OpenSpec.ofChange fnSendOrderWrong)

/-- 'laws.FnPendingOf': WHATEVER THE INPUT: true; the input reads as it did. -/
def fnPendingOfSpec : ChangeSpec := { name := "fnPendingOf", fn := fun _ => fun
  | [d] => { results := [.lit (.bool true)], args := [d] }
  | _ => none }
def fnPendingOfRow : OpenClaim := { program := "ytanakfeaifggoaa", sum := "f3a1b017e4806d41d9ac04e672e6292efd99309bbfe2e23f6c257301c6c19236", func := "loop.example/waitkit/laws.FnPendingOf", spec := "fnPendingOf", apart := false }
def FnPendingOfSaid : Prop := fnPendingOfRow.holds Try.pinned (OpenSpec.ofChange fnPendingOfSpec)

/-- ITS FALSE NEIGHBOUR: 'it returns false'. Refute it at one input. -/
def fnPendingOfWrong : ChangeSpec := { name := "fnPendingOf", fn := fun _ => fun
  | [d] => { results := [.lit (.bool false)], args := [d] }
  | _ => none }
def FnPendingOfWrongFalsely : Prop := fnPendingOfRow.holds Try.pinned (OpenSpec.ofChange fnPendingOfWrong)

/-- 'laws.FnGetChan': WHATEVER THE INPUT: true; the input reads as it did. -/
def fnGetChanSpec : ChangeSpec := { name := "fnGetChan", fn := fun _ => fun
  | [d] => { results := [.lit (.bool true)], args := [d] }
  | _ => none }
def fnGetChanRow : OpenClaim := { program := "ytanakfeaifggoaa", sum := "f3a1b017e4806d41d9ac04e672e6292efd99309bbfe2e23f6c257301c6c19236", func := "loop.example/waitkit/laws.FnGetChan", spec := "fnGetChan", apart := false }
def FnGetChanSaid : Prop := fnGetChanRow.holds Try.pinned (OpenSpec.ofChange fnGetChanSpec)

/-- ITS FALSE NEIGHBOUR: 'it returns false'. Refute it at one input. -/
def fnGetChanWrong : ChangeSpec := { name := "fnGetChan", fn := fun _ => fun
  | [d] => { results := [.lit (.bool false)], args := [d] }
  | _ => none }
def FnGetChanWrongFalsely : Prop := fnGetChanRow.holds Try.pinned (OpenSpec.ofChange fnGetChanWrong)

/-- 'laws.FnCloseChan': WHATEVER THE INPUT: true; the input reads as it did. -/
def fnCloseChanSpec : ChangeSpec := { name := "fnCloseChan", fn := fun _ => fun
  | [d] => { results := [.lit (.bool true)], args := [d] }
  | _ => none }
def fnCloseChanRow : OpenClaim := { program := "ytanakfeaifggoaa", sum := "f3a1b017e4806d41d9ac04e672e6292efd99309bbfe2e23f6c257301c6c19236", func := "loop.example/waitkit/laws.FnCloseChan", spec := "fnCloseChan", apart := false }
def FnCloseChanSaid : Prop := fnCloseChanRow.holds Try.pinned (OpenSpec.ofChange fnCloseChanSpec)

/-- ITS FALSE NEIGHBOUR: 'it returns false'. Refute it at one input. -/
def fnCloseChanWrong : ChangeSpec := { name := "fnCloseChan", fn := fun _ => fun
  | [d] => { results := [.lit (.bool false)], args := [d] }
  | _ => none }
def FnCloseChanWrongFalsely : Prop := fnCloseChanRow.holds Try.pinned (OpenSpec.ofChange fnCloseChanWrong)

/-- 'laws.FnCloseTwice': WHATEVER THE INPUT: true; the input reads as it did. -/
def fnCloseTwiceSpec : ChangeSpec := { name := "fnCloseTwice", fn := fun _ => fun
  | [d] => { results := [.lit (.bool true)], args := [d] }
  | _ => none }
def fnCloseTwiceRow : OpenClaim := { program := "ytanakfeaifggoaa", sum := "f3a1b017e4806d41d9ac04e672e6292efd99309bbfe2e23f6c257301c6c19236", func := "loop.example/waitkit/laws.FnCloseTwice", spec := "fnCloseTwice", apart := false }
def FnCloseTwiceSaid : Prop := fnCloseTwiceRow.holds Try.pinned (OpenSpec.ofChange fnCloseTwiceSpec)

/-- ITS FALSE NEIGHBOUR: 'it returns false'. Refute it at one input. -/
def fnCloseTwiceWrong : ChangeSpec := { name := "fnCloseTwice", fn := fun _ => fun
  | [d] => { results := [.lit (.bool false)], args := [d] }
  | _ => none }
def FnCloseTwiceWrongFalsely : Prop := fnCloseTwiceRow.holds Try.pinned (OpenSpec.ofChange fnCloseTwiceWrong)

/-- 'laws.FnSendGet': WHATEVER THE INPUT: true; the input reads as it did. -/
def fnSendGetSpec : ChangeSpec := { name := "fnSendGet", fn := fun _ => fun
  | [d] => { results := [.lit (.bool true)], args := [d] }
  | _ => none }
def fnSendGetRow : OpenClaim := { program := "ytanakfeaifggoaa", sum := "f3a1b017e4806d41d9ac04e672e6292efd99309bbfe2e23f6c257301c6c19236", func := "loop.example/waitkit/laws.FnSendGet", spec := "fnSendGet", apart := false }
def FnSendGetSaid : Prop := fnSendGetRow.holds Try.pinned (OpenSpec.ofChange fnSendGetSpec)

/-- ITS FALSE NEIGHBOUR: 'it returns false'. Refute it at one input. -/
def fnSendGetWrong : ChangeSpec := { name := "fnSendGet", fn := fun _ => fun
  | [d] => { results := [.lit (.bool false)], args := [d] }
  | _ => none }
def FnSendGetWrongFalsely : Prop := fnSendGetRow.holds Try.pinned (OpenSpec.ofChange fnSendGetWrong)

/-- 'laws.FnLeaveChan': WHATEVER THE INPUT: true; the input reads as it did. -/
def fnLeaveChanSpec : ChangeSpec := { name := "fnLeaveChan", fn := fun _ => fun
  | [d] => { results := [.lit (.bool true)], args := [d] }
  | _ => none }
def fnLeaveChanRow : OpenClaim := { program := "ytanakfeaifggoaa", sum := "f3a1b017e4806d41d9ac04e672e6292efd99309bbfe2e23f6c257301c6c19236", func := "loop.example/waitkit/laws.FnLeaveChan", spec := "fnLeaveChan", unfollowed := true, recurses := true, apart := false }
def FnLeaveChanSaid : Prop := fnLeaveChanRow.holds Try.pinned (OpenSpec.ofChange fnLeaveChanSpec)

/-- ITS FALSE NEIGHBOUR: 'it returns false'. Refute it at one input. -/
def fnLeaveChanWrong : ChangeSpec := { name := "fnLeaveChan", fn := fun _ => fun
  | [d] => { results := [.lit (.bool false)], args := [d] }
  | _ => none }
def FnLeaveChanWrongFalsely : Prop := fnLeaveChanRow.holds Try.pinned (OpenSpec.ofChange fnLeaveChanWrong)

/-- 'laws.FnExactSendChan': WHATEVER THE INPUT: true; the input reads as it did. -/
def fnExactSendChanSpec : ChangeSpec := { name := "fnExactSendChan", fn := fun _ => fun
  | [d1, d2, d3] => { results := [.lit (.bool true)], args := [d1, d2, d3] }
  | _ => none }
def fnExactSendChanRow : OpenClaim := { program := "ytanakfeaifggoaa", sum := "f3a1b017e4806d41d9ac04e672e6292efd99309bbfe2e23f6c257301c6c19236", func := "loop.example/waitkit/laws.FnExactSendChan", spec := "fnExactSendChan", apart := false }
def FnExactSendChanSaid : Prop := fnExactSendChanRow.holds Try.pinned (OpenSpec.ofChange fnExactSendChanSpec)

/-- ITS FALSE NEIGHBOUR: 'it returns false'. Refute it at one input. -/
def fnExactSendChanWrong : ChangeSpec := { name := "fnExactSendChan", fn := fun _ => fun
  | [d1, d2, d3] => { results := [.lit (.bool false)], args := [d1, d2, d3] }
  | _ => none }
def FnExactSendChanWrongFalsely : Prop := fnExactSendChanRow.holds Try.pinned (OpenSpec.ofChange fnExactSendChanWrong)

/-- 'laws.FnLeaveBack': WHATEVER THE INPUT: true; the input reads as it did. -/
def fnLeaveBackSpec : ChangeSpec := { name := "fnLeaveBack", fn := fun _ => fun
  | [d] => { results := [.lit (.bool true)], args := [d] }
  | _ => none }
def fnLeaveBackRow : OpenClaim := { program := "ytanakfeaifggoaa", sum := "f3a1b017e4806d41d9ac04e672e6292efd99309bbfe2e23f6c257301c6c19236", func := "loop.example/waitkit/laws.FnLeaveBack", spec := "fnLeaveBack", unfollowed := true, recurses := true, apart := false }
def FnLeaveBackSaid : Prop := fnLeaveBackRow.holds Try.pinned (OpenSpec.ofChange fnLeaveBackSpec)

/-- ITS FALSE NEIGHBOUR: 'it returns false'. Refute it at one input. -/
def fnLeaveBackWrong : ChangeSpec := { name := "fnLeaveBack", fn := fun _ => fun
  | [d] => { results := [.lit (.bool false)], args := [d] }
  | _ => none }
def FnLeaveBackWrongFalsely : Prop := fnLeaveBackRow.holds Try.pinned (OpenSpec.ofChange fnLeaveBackWrong)

/-- 'laws.FnExactGetChan': WHATEVER THE INPUT: true; the input reads as it did. -/
def fnExactGetChanSpec : ChangeSpec := { name := "fnExactGetChan", fn := fun _ => fun
  | [d1, d2] => { results := [.lit (.bool true)], args := [d1, d2] }
  | _ => none }
def fnExactGetChanRow : OpenClaim := { program := "ytanakfeaifggoaa", sum := "f3a1b017e4806d41d9ac04e672e6292efd99309bbfe2e23f6c257301c6c19236", func := "loop.example/waitkit/laws.FnExactGetChan", spec := "fnExactGetChan", apart := false }
def FnExactGetChanSaid : Prop := fnExactGetChanRow.holds Try.pinned (OpenSpec.ofChange fnExactGetChanSpec)

/-- ITS FALSE NEIGHBOUR: 'it returns false'. Refute it at one input. -/
def fnExactGetChanWrong : ChangeSpec := { name := "fnExactGetChan", fn := fun _ => fun
  | [d1, d2] => { results := [.lit (.bool false)], args := [d1, d2] }
  | _ => none }
def FnExactGetChanWrongFalsely : Prop := fnExactGetChanRow.holds Try.pinned (OpenSpec.ofChange fnExactGetChanWrong)

/-- 'laws.FnExactLeaveChan': WHATEVER THE INPUT: true; the input reads as it did. -/
def fnExactLeaveChanSpec : ChangeSpec := { name := "fnExactLeaveChan", fn := fun _ => fun
  | [d1, d2] => { results := [.lit (.bool true)], args := [d1, d2] }
  | _ => none }
def fnExactLeaveChanRow : OpenClaim := { program := "ytanakfeaifggoaa", sum := "f3a1b017e4806d41d9ac04e672e6292efd99309bbfe2e23f6c257301c6c19236", func := "loop.example/waitkit/laws.FnExactLeaveChan", spec := "fnExactLeaveChan", unfollowed := true, recurses := true, apart := false }
def FnExactLeaveChanSaid : Prop := fnExactLeaveChanRow.holds Try.pinned (OpenSpec.ofChange fnExactLeaveChanSpec)

/-- ITS FALSE NEIGHBOUR: 'it returns false'. Refute it at one input. -/
def fnExactLeaveChanWrong : ChangeSpec := { name := "fnExactLeaveChan", fn := fun _ => fun
  | [d1, d2] => { results := [.lit (.bool false)], args := [d1, d2] }
  | _ => none }
def FnExactLeaveChanWrongFalsely : Prop := fnExactLeaveChanRow.holds Try.pinned (OpenSpec.ofChange fnExactLeaveChanWrong)

/- THE SECOND FORM. 'bulk': how many values and letters a reading holds, each counted each time it is reached (what is shared counts as often as it is met; a slice's spare places count too). A statement '..UptoSaid' is the law's where the arguments, and the package variables that the reading takes, are together of bulk at most 1048576: NARROWER than '..Said'. Prove '..Said' where nothing that the law and all that it calls make is longer than what came in: it says more and counts as full. Else prove '..UptoSaid'. A law counts once. -/
mutual
def uptoBulk {H : Type} : DataW H → Nat
  | .lit (.string bytes) => bytes.length + 1
  | .lit _ => 1
  | .nil => 1
  | .ptr d => uptoBulk d + 1
  | .slice elems spare => uptoBulkAll elems + uptoBulkAll spare + 1
  | .agg parts => uptoBulkAll parts + 1
  | .iface _ d => uptoBulk d + 1
  | .map entries => uptoBulkEntries entries + 1
  | .held _ => 1
def uptoBulkAll {H : Type} : List (DataW H) → Nat
  | [] => 0
  | d :: r => uptoBulk d + uptoBulkAll r
def uptoBulkEntries {H : Type} : List (Lit × DataW H) → Nat
  | [] => 0
  | x :: r => uptoBulkEntry x + uptoBulkEntries r
def uptoBulkEntry {H : Type} : Lit × DataW H → Nat
  | (.string bytes, d) => bytes.length + uptoBulk d + 1
  | (_, d) => uptoBulk d + 1
 end
def uptoSmall : (H : Type) → List (DataW H) → Bool := fun _ ds => decide (uptoBulkAll ds ≤ 1048576)
def OpenSpec.upto (s : _root_.Go.ChangeSpec) : _root_.Go.OpenSpec := { _root_.Go.OpenSpec.ofChange s with cond := some uptoSmall }

/-- 'laws.FnSendOrder', WHERE WHAT IT READS IS OF BULK AT MOST 1048576: true; the input reads as it did. -/
def fnSendOrderUptoRow : OpenClaim := { program := "ytanakfeaifggoaa", sum := "f3a1b017e4806d41d9ac04e672e6292efd99309bbfe2e23f6c257301c6c19236", func := "loop.example/waitkit/laws.FnSendOrder", spec := "fnSendOrder", apart := false, narrowed := true }
def FnSendOrderUptoSaid : Prop := fnSendOrderUptoRow.holds Try.pinned (OpenSpec.upto fnSendOrderSpec)

/-- 'laws.FnPendingOf', WHERE WHAT IT READS IS OF BULK AT MOST 1048576: true; the input reads as it did. -/
def fnPendingOfUptoRow : OpenClaim := { program := "ytanakfeaifggoaa", sum := "f3a1b017e4806d41d9ac04e672e6292efd99309bbfe2e23f6c257301c6c19236", func := "loop.example/waitkit/laws.FnPendingOf", spec := "fnPendingOf", apart := false, narrowed := true }
def FnPendingOfUptoSaid : Prop := fnPendingOfUptoRow.holds Try.pinned (OpenSpec.upto fnPendingOfSpec)

/-- 'laws.FnGetChan', WHERE WHAT IT READS IS OF BULK AT MOST 1048576: true; the input reads as it did. -/
def fnGetChanUptoRow : OpenClaim := { program := "ytanakfeaifggoaa", sum := "f3a1b017e4806d41d9ac04e672e6292efd99309bbfe2e23f6c257301c6c19236", func := "loop.example/waitkit/laws.FnGetChan", spec := "fnGetChan", apart := false, narrowed := true }
def FnGetChanUptoSaid : Prop := fnGetChanUptoRow.holds Try.pinned (OpenSpec.upto fnGetChanSpec)

/-- 'laws.FnCloseChan', WHERE WHAT IT READS IS OF BULK AT MOST 1048576: true; the input reads as it did. -/
def fnCloseChanUptoRow : OpenClaim := { program := "ytanakfeaifggoaa", sum := "f3a1b017e4806d41d9ac04e672e6292efd99309bbfe2e23f6c257301c6c19236", func := "loop.example/waitkit/laws.FnCloseChan", spec := "fnCloseChan", apart := false, narrowed := true }
def FnCloseChanUptoSaid : Prop := fnCloseChanUptoRow.holds Try.pinned (OpenSpec.upto fnCloseChanSpec)

/-- 'laws.FnCloseTwice', WHERE WHAT IT READS IS OF BULK AT MOST 1048576: true; the input reads as it did. -/
def fnCloseTwiceUptoRow : OpenClaim := { program := "ytanakfeaifggoaa", sum := "f3a1b017e4806d41d9ac04e672e6292efd99309bbfe2e23f6c257301c6c19236", func := "loop.example/waitkit/laws.FnCloseTwice", spec := "fnCloseTwice", apart := false, narrowed := true }
def FnCloseTwiceUptoSaid : Prop := fnCloseTwiceUptoRow.holds Try.pinned (OpenSpec.upto fnCloseTwiceSpec)

/-- 'laws.FnSendGet', WHERE WHAT IT READS IS OF BULK AT MOST 1048576: true; the input reads as it did. -/
def fnSendGetUptoRow : OpenClaim := { program := "ytanakfeaifggoaa", sum := "f3a1b017e4806d41d9ac04e672e6292efd99309bbfe2e23f6c257301c6c19236", func := "loop.example/waitkit/laws.FnSendGet", spec := "fnSendGet", apart := false, narrowed := true }
def FnSendGetUptoSaid : Prop := fnSendGetUptoRow.holds Try.pinned (OpenSpec.upto fnSendGetSpec)

/-- 'laws.FnLeaveChan', WHERE WHAT IT READS IS OF BULK AT MOST 1048576: true; the input reads as it did. -/
def fnLeaveChanUptoRow : OpenClaim := { program := "ytanakfeaifggoaa", sum := "f3a1b017e4806d41d9ac04e672e6292efd99309bbfe2e23f6c257301c6c19236", func := "loop.example/waitkit/laws.FnLeaveChan", spec := "fnLeaveChan", unfollowed := true, recurses := true, apart := false, narrowed := true }
def FnLeaveChanUptoSaid : Prop := fnLeaveChanUptoRow.holds Try.pinned (OpenSpec.upto fnLeaveChanSpec)

/-- 'laws.FnExactSendChan', WHERE WHAT IT READS IS OF BULK AT MOST 1048576: true; the input reads as it did. -/
def fnExactSendChanUptoRow : OpenClaim := { program := "ytanakfeaifggoaa", sum := "f3a1b017e4806d41d9ac04e672e6292efd99309bbfe2e23f6c257301c6c19236", func := "loop.example/waitkit/laws.FnExactSendChan", spec := "fnExactSendChan", apart := false, narrowed := true }
def FnExactSendChanUptoSaid : Prop := fnExactSendChanUptoRow.holds Try.pinned (OpenSpec.upto fnExactSendChanSpec)

/-- 'laws.FnLeaveBack', WHERE WHAT IT READS IS OF BULK AT MOST 1048576: true; the input reads as it did. -/
def fnLeaveBackUptoRow : OpenClaim := { program := "ytanakfeaifggoaa", sum := "f3a1b017e4806d41d9ac04e672e6292efd99309bbfe2e23f6c257301c6c19236", func := "loop.example/waitkit/laws.FnLeaveBack", spec := "fnLeaveBack", unfollowed := true, recurses := true, apart := false, narrowed := true }
def FnLeaveBackUptoSaid : Prop := fnLeaveBackUptoRow.holds Try.pinned (OpenSpec.upto fnLeaveBackSpec)

/-- 'laws.FnExactGetChan', WHERE WHAT IT READS IS OF BULK AT MOST 1048576: true; the input reads as it did. -/
def fnExactGetChanUptoRow : OpenClaim := { program := "ytanakfeaifggoaa", sum := "f3a1b017e4806d41d9ac04e672e6292efd99309bbfe2e23f6c257301c6c19236", func := "loop.example/waitkit/laws.FnExactGetChan", spec := "fnExactGetChan", apart := false, narrowed := true }
def FnExactGetChanUptoSaid : Prop := fnExactGetChanUptoRow.holds Try.pinned (OpenSpec.upto fnExactGetChanSpec)

/-- 'laws.FnExactLeaveChan', WHERE WHAT IT READS IS OF BULK AT MOST 1048576: true; the input reads as it did. -/
def fnExactLeaveChanUptoRow : OpenClaim := { program := "ytanakfeaifggoaa", sum := "f3a1b017e4806d41d9ac04e672e6292efd99309bbfe2e23f6c257301c6c19236", func := "loop.example/waitkit/laws.FnExactLeaveChan", spec := "fnExactLeaveChan", unfollowed := true, recurses := true, apart := false, narrowed := true }
def FnExactLeaveChanUptoSaid : Prop := fnExactLeaveChanUptoRow.holds Try.pinned (OpenSpec.upto fnExactLeaveChanSpec)

end Rows
end Go.Proofs.Ytanakfeaifggoaa
