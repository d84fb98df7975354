/-
  No cell of these rows narrows 'for every input' (looked for: loops, veiled, ifaces, maps, wideKeys, modest, calm, conditions, laid).
  DERIVED. THE GIVEN ROWS OF THIS SEAT. 12 by the template 'for every input the law returns true; each argument reads behind the call as it read before'; 0 by the template 'total and deterministic' (their statements: YtmmkfmmcmjpcgaaTotals.lean).
  GIVEN WITH THE SEED: the statements are not yours to turn. If you find one false, say at which input.
  Laid BY PROGRAM, IN A SANDBOX (cutbox-rows.mjs): the forced cells as the released guide's own fill.sh prints them over the translation 2d36609459abdae5… (all of the seat's roots in one cut). By AI agents, Wed Nov 11 2026. No macro, syntax, notation, axiom, sorry.
-/
import Derived.Test.YtmmkfmmcmjpcgaaChecked
import GoSem.Claim
import GoSem.ClaimJoined
import GoSem.ClaimMapViews
import Derived.JoinedTies
import Derived.KernelRfl
namespace Go.Proofs.Ytmmkfmmcmjpcgaa
/- THE CELL 'sum', in the pinned program and in every row, IS THE sha256 OF THE DUMP (.gsa) THAT YtmmkfmmcmjpcgaaProg.lean LOADS. Nothing in Lean hashes anything: it is a label: what it is worth is what the hold of that sum in a sandbox is worth. -/
noncomputable def Try.pinned : Pinned := { name := "ytmmkfmmcmjpcgaa", sum := "2d36609459abdae53f49803c8e0bb78442cf50ec210f2d5c91bbd9c6ba52917d", checked := Try.checked }
namespace Rows
def none {H : Type} : Left H := { results := [], args := [] }

/-- 'laws.FnValidHeapCircle': WHATEVER THE INPUT: true; the input reads as it did. -/
def fnValidHeapCircleSpec : ChangeSpec := { name := "fnValidHeapCircle", fn := fun _ => fun
  | [d] => { results := [.lit (.bool true)], args := [d] }
  | _ => none }
def fnValidHeapCircleRow : OpenClaim := { program := "ytmmkfmmcmjpcgaa", sum := "2d36609459abdae53f49803c8e0bb78442cf50ec210f2d5c91bbd9c6ba52917d", func := "loop.example/refcountml/laws.FnValidHeapCircle", spec := "fnValidHeapCircle", apart := false }
def FnValidHeapCircleSaid : Prop := fnValidHeapCircleRow.holds Try.pinned (OpenSpec.ofChange fnValidHeapCircleSpec)

/-- ITS FALSE NEIGHBOUR: 'it returns false'. Refute it at one input. -/
def fnValidHeapCircleWrong : ChangeSpec := { name := "fnValidHeapCircle", fn := fun _ => fun
  | [d] => { results := [.lit (.bool false)], args := [d] }
  | _ => none }
def FnValidHeapCircleWrongFalsely : Prop := fnValidHeapCircleRow.holds Try.pinned (OpenSpec.ofChange fnValidHeapCircleWrong)

/-- 'laws.FnReachOfEach': WHATEVER THE INPUT: true; the input reads as it did. -/
def fnReachOfEachSpec : ChangeSpec := { name := "fnReachOfEach", fn := fun _ => fun
  | [d] => { results := [.lit (.bool true)], args := [d] }
  | _ => none }
def fnReachOfEachRow : OpenClaim := { program := "ytmmkfmmcmjpcgaa", sum := "2d36609459abdae53f49803c8e0bb78442cf50ec210f2d5c91bbd9c6ba52917d", func := "loop.example/refcountml/laws.FnReachOfEach", spec := "fnReachOfEach", apart := false }
def FnReachOfEachSaid : Prop := fnReachOfEachRow.holds Try.pinned (OpenSpec.ofChange fnReachOfEachSpec)

/-- ITS FALSE NEIGHBOUR: 'it returns false'. Refute it at one input. -/
def fnReachOfEachWrong : ChangeSpec := { name := "fnReachOfEach", fn := fun _ => fun
  | [d] => { results := [.lit (.bool false)], args := [d] }
  | _ => none }
def FnReachOfEachWrongFalsely : Prop := fnReachOfEachRow.holds Try.pinned (OpenSpec.ofChange fnReachOfEachWrong)

/-- 'laws.FnExactLazyDrop': WHATEVER THE INPUT: true; the input reads as it did. -/
def fnExactLazyDropSpec : ChangeSpec := { name := "fnExactLazyDrop", fn := fun _ => fun
  | [d1, d2] => { results := [.lit (.bool true)], args := [d1, d2] }
  | _ => none }
def fnExactLazyDropRow : OpenClaim := { program := "ytmmkfmmcmjpcgaa", sum := "2d36609459abdae53f49803c8e0bb78442cf50ec210f2d5c91bbd9c6ba52917d", func := "loop.example/refcountml/laws.FnExactLazyDrop", spec := "fnExactLazyDrop", unfollowed := true, recurses := true, apart := false }
def FnExactLazyDropSaid : Prop := fnExactLazyDropRow.holds Try.pinned (OpenSpec.ofChange fnExactLazyDropSpec)

/-- ITS FALSE NEIGHBOUR: 'it returns false'. Refute it at one input. -/
def fnExactLazyDropWrong : ChangeSpec := { name := "fnExactLazyDrop", fn := fun _ => fun
  | [d1, d2] => { results := [.lit (.bool false)], args := [d1, d2] }
  | _ => none }
def FnExactLazyDropWrongFalsely : Prop := fnExactLazyDropRow.holds Try.pinned (OpenSpec.ofChange fnExactLazyDropWrong)

/-- 'laws.FnExactSettledHeap': WHATEVER THE INPUT: true; the input reads as it did. -/
def fnExactSettledHeapSpec : ChangeSpec := { name := "fnExactSettledHeap", fn := fun _ => fun
  | [d] => { results := [.lit (.bool true)], args := [d] }
  | _ => none }
def fnExactSettledHeapRow : OpenClaim := { program := "ytmmkfmmcmjpcgaa", sum := "2d36609459abdae53f49803c8e0bb78442cf50ec210f2d5c91bbd9c6ba52917d", func := "loop.example/refcountml/laws.FnExactSettledHeap", spec := "fnExactSettledHeap", unfollowed := true, recurses := true, apart := false }
def FnExactSettledHeapSaid : Prop := fnExactSettledHeapRow.holds Try.pinned (OpenSpec.ofChange fnExactSettledHeapSpec)

/-- ITS FALSE NEIGHBOUR: 'it returns false'. Refute it at one input. -/
def fnExactSettledHeapWrong : ChangeSpec := { name := "fnExactSettledHeap", fn := fun _ => fun
  | [d] => { results := [.lit (.bool false)], args := [d] }
  | _ => none }
def FnExactSettledHeapWrongFalsely : Prop := fnExactSettledHeapRow.holds Try.pinned (OpenSpec.ofChange fnExactSettledHeapWrong)

/-- 'laws.FnExactSettle': WHATEVER THE INPUT: true; the input reads as it did. -/
def fnExactSettleSpec : ChangeSpec := { name := "fnExactSettle", fn := fun _ => fun
  | [d1, d2] => { results := [.lit (.bool true)], args := [d1, d2] }
  | _ => none }
def fnExactSettleRow : OpenClaim := { program := "ytmmkfmmcmjpcgaa", sum := "2d36609459abdae53f49803c8e0bb78442cf50ec210f2d5c91bbd9c6ba52917d", func := "loop.example/refcountml/laws.FnExactSettle", spec := "fnExactSettle", unfollowed := true, recurses := true, apart := false }
def FnExactSettleSaid : Prop := fnExactSettleRow.holds Try.pinned (OpenSpec.ofChange fnExactSettleSpec)

/-- ITS FALSE NEIGHBOUR: 'it returns false'. Refute it at one input. -/
def fnExactSettleWrong : ChangeSpec := { name := "fnExactSettle", fn := fun _ => fun
  | [d1, d2] => { results := [.lit (.bool false)], args := [d1, d2] }
  | _ => none }
def FnExactSettleWrongFalsely : Prop := fnExactSettleRow.holds Try.pinned (OpenSpec.ofChange fnExactSettleWrong)

/-- 'laws.FnLazyDropCheap': WHATEVER THE INPUT: true; the input reads as it did. -/
def fnLazyDropCheapSpec : ChangeSpec := { name := "fnLazyDropCheap", fn := fun _ => fun
  | [d] => { results := [.lit (.bool true)], args := [d] }
  | _ => none }
def fnLazyDropCheapRow : OpenClaim := { program := "ytmmkfmmcmjpcgaa", sum := "2d36609459abdae53f49803c8e0bb78442cf50ec210f2d5c91bbd9c6ba52917d", func := "loop.example/refcountml/laws.FnLazyDropCheap", spec := "fnLazyDropCheap", unfollowed := true, recurses := true, apart := false }
def FnLazyDropCheapSaid : Prop := fnLazyDropCheapRow.holds Try.pinned (OpenSpec.ofChange fnLazyDropCheapSpec)

/-- ITS FALSE NEIGHBOUR: 'it returns false'. Refute it at one input. -/
def fnLazyDropCheapWrong : ChangeSpec := { name := "fnLazyDropCheap", fn := fun _ => fun
  | [d] => { results := [.lit (.bool false)], args := [d] }
  | _ => none }
def FnLazyDropCheapWrongFalsely : Prop := fnLazyDropCheapRow.holds Try.pinned (OpenSpec.ofChange fnLazyDropCheapWrong)

/-- 'laws.FnSettle': WHATEVER THE INPUT: true; the input reads as it did. -/
def fnSettleSpec : ChangeSpec := { name := "fnSettle", fn := fun _ => fun
  | [d] => { results := [.lit (.bool true)], args := [d] }
  | _ => none }
def fnSettleRow : OpenClaim := { program := "ytmmkfmmcmjpcgaa", sum := "2d36609459abdae53f49803c8e0bb78442cf50ec210f2d5c91bbd9c6ba52917d", func := "loop.example/refcountml/laws.FnSettle", spec := "fnSettle", unfollowed := true, recurses := true, apart := false }
def FnSettleSaid : Prop := fnSettleRow.holds Try.pinned (OpenSpec.ofChange fnSettleSpec)

/-- ITS FALSE NEIGHBOUR: 'it returns false'. Refute it at one input. -/
def fnSettleWrong : ChangeSpec := { name := "fnSettle", fn := fun _ => fun
  | [d] => { results := [.lit (.bool false)], args := [d] }
  | _ => none }
def FnSettleWrongFalsely : Prop := fnSettleRow.holds Try.pinned (OpenSpec.ofChange fnSettleWrong)

/-- 'laws.FnSettleEnd': WHATEVER THE INPUT: true; the input reads as it did. -/
def fnSettleEndSpec : ChangeSpec := { name := "fnSettleEnd", fn := fun _ => fun
  | [d] => { results := [.lit (.bool true)], args := [d] }
  | _ => none }
def fnSettleEndRow : OpenClaim := { program := "ytmmkfmmcmjpcgaa", sum := "2d36609459abdae53f49803c8e0bb78442cf50ec210f2d5c91bbd9c6ba52917d", func := "loop.example/refcountml/laws.FnSettleEnd", spec := "fnSettleEnd", unfollowed := true, recurses := true, apart := false }
def FnSettleEndSaid : Prop := fnSettleEndRow.holds Try.pinned (OpenSpec.ofChange fnSettleEndSpec)

/-- ITS FALSE NEIGHBOUR: 'it returns false'. Refute it at one input. -/
def fnSettleEndWrong : ChangeSpec := { name := "fnSettleEnd", fn := fun _ => fun
  | [d] => { results := [.lit (.bool false)], args := [d] }
  | _ => none }
def FnSettleEndWrongFalsely : Prop := fnSettleEndRow.holds Try.pinned (OpenSpec.ofChange fnSettleEndWrong)

/-- 'laws.FnSettleSame': WHATEVER THE INPUT: true; the input reads as it did. -/
def fnSettleSameSpec : ChangeSpec := { name := "fnSettleSame", fn := fun _ => fun
  | [d] => { results := [.lit (.bool true)], args := [d] }
  | _ => none }
def fnSettleSameRow : OpenClaim := { program := "ytmmkfmmcmjpcgaa", sum := "2d36609459abdae53f49803c8e0bb78442cf50ec210f2d5c91bbd9c6ba52917d", func := "loop.example/refcountml/laws.FnSettleSame", spec := "fnSettleSame", unfollowed := true, recurses := true, apart := false }
def FnSettleSameSaid : Prop := fnSettleSameRow.holds Try.pinned (OpenSpec.ofChange fnSettleSameSpec)

/-- ITS FALSE NEIGHBOUR: 'it returns false'. Refute it at one input. -/
def fnSettleSameWrong : ChangeSpec := { name := "fnSettleSame", fn := fun _ => fun
  | [d] => { results := [.lit (.bool false)], args := [d] }
  | _ => none }
def FnSettleSameWrongFalsely : Prop := fnSettleSameRow.holds Try.pinned (OpenSpec.ofChange fnSettleSameWrong)

/-- 'laws.FnSettleStep': WHATEVER THE INPUT: true; the input reads as it did. -/
def fnSettleStepSpec : ChangeSpec := { name := "fnSettleStep", fn := fun _ => fun
  | [d] => { results := [.lit (.bool true)], args := [d] }
  | _ => none }
def fnSettleStepRow : OpenClaim := { program := "ytmmkfmmcmjpcgaa", sum := "2d36609459abdae53f49803c8e0bb78442cf50ec210f2d5c91bbd9c6ba52917d", func := "loop.example/refcountml/laws.FnSettleStep", spec := "fnSettleStep", unfollowed := true, recurses := true, apart := false }
def FnSettleStepSaid : Prop := fnSettleStepRow.holds Try.pinned (OpenSpec.ofChange fnSettleStepSpec)

/-- ITS FALSE NEIGHBOUR: 'it returns false'. Refute it at one input. -/
def fnSettleStepWrong : ChangeSpec := { name := "fnSettleStep", fn := fun _ => fun
  | [d] => { results := [.lit (.bool false)], args := [d] }
  | _ => none }
def FnSettleStepWrongFalsely : Prop := fnSettleStepRow.holds Try.pinned (OpenSpec.ofChange fnSettleStepWrong)

/-- 'laws.FnExactLazyAlloc': WHATEVER THE INPUT: true; the input reads as it did. -/
def fnExactLazyAllocSpec : ChangeSpec := { name := "fnExactLazyAlloc", fn := fun _ => fun
  | [d1, d2, d3] => { results := [.lit (.bool true)], args := [d1, d2, d3] }
  | _ => none }
def fnExactLazyAllocRow : OpenClaim := { program := "ytmmkfmmcmjpcgaa", sum := "2d36609459abdae53f49803c8e0bb78442cf50ec210f2d5c91bbd9c6ba52917d", func := "loop.example/refcountml/laws.FnExactLazyAlloc", spec := "fnExactLazyAlloc", unfollowed := true, recurses := true, apart := false }
def FnExactLazyAllocSaid : Prop := fnExactLazyAllocRow.holds Try.pinned (OpenSpec.ofChange fnExactLazyAllocSpec)

/-- ITS FALSE NEIGHBOUR: 'it returns false'. Refute it at one input. -/
def fnExactLazyAllocWrong : ChangeSpec := { name := "fnExactLazyAlloc", fn := fun _ => fun
  | [d1, d2, d3] => { results := [.lit (.bool false)], args := [d1, d2, d3] }
  | _ => none }
def FnExactLazyAllocWrongFalsely : Prop := fnExactLazyAllocRow.holds Try.pinned (OpenSpec.ofChange fnExactLazyAllocWrong)

/-- 'laws.FnSettledHeap': WHATEVER THE INPUT: true; the input reads as it did. -/
def fnSettledHeapSpec : ChangeSpec := { name := "fnSettledHeap", fn := fun _ => fun
  | [d] => { results := [.lit (.bool true)], args := [d] }
  | _ => none }
def fnSettledHeapRow : OpenClaim := { program := "ytmmkfmmcmjpcgaa", sum := "2d36609459abdae53f49803c8e0bb78442cf50ec210f2d5c91bbd9c6ba52917d", func := "loop.example/refcountml/laws.FnSettledHeap", spec := "fnSettledHeap", unfollowed := true, recurses := true, apart := false }
def FnSettledHeapSaid : Prop := fnSettledHeapRow.holds Try.pinned (OpenSpec.ofChange fnSettledHeapSpec)

/-- ITS FALSE NEIGHBOUR: 'it returns false'. Refute it at one input. -/
def fnSettledHeapWrong : ChangeSpec := { name := "fnSettledHeap", fn := fun _ => fun
  | [d] => { results := [.lit (.bool false)], args := [d] }
  | _ => none }
def FnSettledHeapWrongFalsely : Prop := fnSettledHeapRow.holds Try.pinned (OpenSpec.ofChange fnSettledHeapWrong)

/- THE SECOND FORM. 'bulk': how many values and letters a reading holds, each counted each time it is reached (what is shared counts as often as it is met; a slice's spare places count too). A statement '..UptoSaid' is the law's where the arguments, and the package variables that the reading takes, are together of bulk at most 1048576: NARROWER than '..Said'. Prove '..Said' where nothing that the law and all that it calls make is longer than what came in: it says more and counts as full. Else prove '..UptoSaid'. A law counts once. -/
mutual
def uptoBulk {H : Type} : DataW H → Nat
  | .lit (.string bytes) => bytes.length + 1
  | .lit _ => 1
  | .nil => 1
  | .ptr d => uptoBulk d + 1
  | .slice elems spare => uptoBulkAll elems + uptoBulkAll spare + 1
  | .agg parts => uptoBulkAll parts + 1
  | .iface _ d => uptoBulk d + 1
  | .map entries => uptoBulkEntries entries + 1
  | .held _ => 1
def uptoBulkAll {H : Type} : List (DataW H) → Nat
  | [] => 0
  | d :: r => uptoBulk d + uptoBulkAll r
def uptoBulkEntries {H : Type} : List (Lit × DataW H) → Nat
  | [] => 0
  | x :: r => uptoBulkEntry x + uptoBulkEntries r
def uptoBulkEntry {H : Type} : Lit × DataW H → Nat
  | (.string bytes, d) => bytes.length + uptoBulk d + 1
  | (_, d) => uptoBulk d + 1
 end
def uptoSmall : (H : Type) → List (DataW H) → Bool := fun _ ds => decide (uptoBulkAll ds ≤ 1048576)
def OpenSpec.upto (s : _root_.Go.ChangeSpec) : _root_.Go.OpenSpec := { _root_.Go.OpenSpec.ofChange s with cond := some uptoSmall }

/-- 'laws.FnValidHeapCircle', WHERE WHAT IT READS IS OF BULK AT MOST 1048576: true; the input reads as it did. -/
def fnValidHeapCircleUptoRow : OpenClaim := { program := "ytmmkfmmcmjpcgaa", sum := "2d36609459abdae53f49803c8e0bb78442cf50ec210f2d5c91bbd9c6ba52917d", func := "loop.example/refcountml/laws.FnValidHeapCircle", spec := "fnValidHeapCircle", apart := false, narrowed := true }
def FnValidHeapCircleUptoSaid : Prop := fnValidHeapCircleUptoRow.holds Try.pinned (OpenSpec.upto fnValidHeapCircleSpec)

/-- 'laws.FnReachOfEach', WHERE WHAT IT READS IS OF BULK AT MOST 1048576: true; the input reads as it did. -/
def fnReachOfEachUptoRow : OpenClaim := { program := "ytmmkfmmcmjpcgaa", sum := "2d36609459abdae53f49803c8e0bb78442cf50ec210f2d5c91bbd9c6ba52917d", func := "loop.example/refcountml/laws.FnReachOfEach", spec := "fnReachOfEach", apart := false, narrowed := true }
def FnReachOfEachUptoSaid : Prop := fnReachOfEachUptoRow.holds Try.pinned (OpenSpec.upto fnReachOfEachSpec)

/-- 'laws.FnExactLazyDrop', WHERE WHAT IT READS IS OF BULK AT MOST 1048576: true; the input reads as it did. -/
def fnExactLazyDropUptoRow : OpenClaim := { program := "ytmmkfmmcmjpcgaa", sum := "2d36609459abdae53f49803c8e0bb78442cf50ec210f2d5c91bbd9c6ba52917d", func := "loop.example/refcountml/laws.FnExactLazyDrop", spec := "fnExactLazyDrop", unfollowed := true, recurses := true, apart := false, narrowed := true }
def FnExactLazyDropUptoSaid : Prop := fnExactLazyDropUptoRow.holds Try.pinned (OpenSpec.upto fnExactLazyDropSpec)

/-- 'laws.FnExactSettledHeap', WHERE WHAT IT READS IS OF BULK AT MOST 1048576: true; the input reads as it did. -/
def fnExactSettledHeapUptoRow : OpenClaim := { program := "ytmmkfmmcmjpcgaa", sum := "2d36609459abdae53f49803c8e0bb78442cf50ec210f2d5c91bbd9c6ba52917d", func := "loop.example/refcountml/laws.FnExactSettledHeap", spec := "fnExactSettledHeap", unfollowed := true, recurses := true, apart := false, narrowed := true }
def FnExactSettledHeapUptoSaid : Prop := fnExactSettledHeapUptoRow.holds Try.pinned (OpenSpec.upto fnExactSettledHeapSpec)

/-- 'laws.FnExactSettle', WHERE WHAT IT READS IS OF BULK AT MOST 1048576: true; the input reads as it did. -/
def fnExactSettleUptoRow : OpenClaim := { program := "ytmmkfmmcmjpcgaa", sum := "2d36609459abdae53f49803c8e0bb78442cf50ec210f2d5c91bbd9c6ba52917d", func := "loop.example/refcountml/laws.FnExactSettle", spec := "fnExactSettle", unfollowed := true, recurses := true, apart := false, narrowed := true }
def FnExactSettleUptoSaid : Prop := fnExactSettleUptoRow.holds Try.pinned (OpenSpec.upto fnExactSettleSpec)

/-- 'laws.FnLazyDropCheap', WHERE WHAT IT READS IS OF BULK AT MOST 1048576: true; the input reads as it did. -/
def fnLazyDropCheapUptoRow : OpenClaim := { program := "ytmmkfmmcmjpcgaa", sum := "2d36609459abdae53f49803c8e0bb78442cf50ec210f2d5c91bbd9c6ba52917d", func := "loop.example/refcountml/laws.FnLazyDropCheap", spec := "fnLazyDropCheap", unfollowed := true, recurses := true, apart := false, narrowed := true }
def FnLazyDropCheapUptoSaid : Prop := fnLazyDropCheapUptoRow.holds Try.pinned (OpenSpec.upto fnLazyDropCheapSpec)

/-- 'laws.FnSettle', WHERE WHAT IT READS IS OF BULK AT MOST 1048576: true; the input reads as it did. -/
def fnSettleUptoRow : OpenClaim := { program := "ytmmkfmmcmjpcgaa", sum := "2d36609459abdae53f49803c8e0bb78442cf50ec210f2d5c91bbd9c6ba52917d", func := "loop.example/refcountml/laws.FnSettle", spec := "fnSettle", unfollowed := true, recurses := true, apart := false, narrowed := true }
def FnSettleUptoSaid : Prop := fnSettleUptoRow.holds Try.pinned (OpenSpec.upto fnSettleSpec)

/-- 'laws.FnSettleEnd', WHERE WHAT IT READS IS OF BULK AT MOST 1048576: true; the input reads as it did. -/
def fnSettleEndUptoRow : OpenClaim := { program := "ytmmkfmmcmjpcgaa", sum := "2d36609459abdae53f49803c8e0bb78442cf50ec210f2d5c91bbd9c6ba52917d", func := "loop.example/refcountml/laws.FnSettleEnd", spec := "fnSettleEnd", unfollowed := true, recurses := true, apart := false, narrowed := true }
def FnSettleEndUptoSaid : Prop := fnSettleEndUptoRow.holds Try.pinned (OpenSpec.upto fnSettleEndSpec)

/-- 'laws.FnSettleSame', WHERE WHAT IT READS IS OF BULK AT MOST 1048576: true; the input reads as it did. -/
def fnSettleSameUptoRow : OpenClaim := { program := "ytmmkfmmcmjpcgaa", sum := "2d36609459abdae53f49803c8e0bb78442cf50ec210f2d5c91bbd9c6ba52917d", func := "loop.example/refcountml/laws.FnSettleSame", spec := "fnSettleSame", unfollowed := true, recurses := true, apart := false, narrowed := true }
def FnSettleSameUptoSaid : Prop := fnSettleSameUptoRow.holds Try.pinned (OpenSpec.upto fnSettleSameSpec)

/-- 'laws.FnSettleStep', WHERE WHAT IT READS IS OF BULK AT MOST 1048576: true; the input reads as it did. -/
def fnSettleStepUptoRow : OpenClaim := { program := "ytmmkfmmcmjpcgaa", sum := "2d36609459abdae53f49803c8e0bb78442cf50ec210f2d5c91bbd9c6ba52917d", func := "loop.example/refcountml/laws.FnSettleStep", spec := "fnSettleStep", unfollowed := true, recurses := true, apart := false, narrowed := true }
def FnSettleStepUptoSaid : Prop := fnSettleStepUptoRow.holds Try.pinned (OpenSpec.upto fnSettleStepSpec)

/-- 'laws.FnExactLazyAlloc', WHERE WHAT IT READS IS OF BULK AT MOST 1048576: true; the input reads as it did. -/
def fnExactLazyAllocUptoRow : OpenClaim := { program := "ytmmkfmmcmjpcgaa", sum := "2d36609459abdae53f49803c8e0bb78442cf50ec210f2d5c91bbd9c6ba52917d", func := "loop.example/refcountml/laws.FnExactLazyAlloc", spec := "fnExactLazyAlloc", unfollowed := true, recurses := true, apart := false, narrowed := true }
def FnExactLazyAllocUptoSaid : Prop := fnExactLazyAllocUptoRow.holds Try.pinned (OpenSpec.upto fnExactLazyAllocSpec)

/-- 'laws.FnSettledHeap', WHERE WHAT IT READS IS OF BULK AT MOST 1048576: true; the input reads as it did. -/
def fnSettledHeapUptoRow : OpenClaim := { program := "ytmmkfmmcmjpcgaa", sum := "2d36609459abdae53f49803c8e0bb78442cf50ec210f2d5c91bbd9c6ba52917d", func := "loop.example/refcountml/laws.FnSettledHeap", spec := "fnSettledHeap", unfollowed := true, recurses := true, apart := false, narrowed := true }
def FnSettledHeapUptoSaid : Prop := fnSettledHeapUptoRow.holds Try.pinned (OpenSpec.upto fnSettledHeapSpec)

end Rows
end Go.Proofs.Ytmmkfmmcmjpcgaa
