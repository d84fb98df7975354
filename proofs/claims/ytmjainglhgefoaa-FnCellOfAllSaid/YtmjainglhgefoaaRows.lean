/-
  No cell of these rows narrows 'for every input' (looked for: loops, veiled, ifaces, maps, wideKeys, modest, calm, conditions, laid).
  DERIVED. THE GIVEN ROWS OF THIS SEAT. 12 by the template 'for every input the law returns true; each argument reads behind the call as it read before'; 0 by the template 'total and deterministic' (their statements: YtmjainglhgefoaaTotals.lean).
  GIVEN WITH THE SEED: the statements are not yours to turn. If you find one false, say at which input.
  Laid BY PROGRAM, IN A SANDBOX (cutbox-rows.mjs): the forced cells as the released guide's own fill.sh prints them over the translation aa19dd7ce46a8952… (all of the seat's roots in one cut). By AI agents, Wed Nov 11 2026. No macro, syntax, notation, axiom, sorry.
-/
import Derived.Test.YtmjainglhgefoaaChecked
import GoSem.Claim
import GoSem.ClaimJoined
import GoSem.ClaimMapViews
import Derived.JoinedTies
import Derived.KernelRfl
namespace Go.Proofs.Ytmjainglhgefoaa
/- THE CELL 'sum', in the pinned program and in every row, IS THE sha256 OF THE DUMP (.gsa) THAT YtmjainglhgefoaaProg.lean LOADS. Nothing in Lean hashes anything: it is a label: what it is worth is what the hold of that sum in a sandbox is worth. -/
noncomputable def Try.pinned : Pinned := { name := "ytmjainglhgefoaa", sum := "aa19dd7ce46a89523cbc3522713babd31ebc688bee3eb04d33fd97aef8e58db7", checked := Try.checked }
namespace Rows
def none {H : Type} : Left H := { results := [], args := [] }

/-- 'laws.FnLazyAllocRoom': WHATEVER THE INPUT: true; the input reads as it did. -/
def fnLazyAllocRoomSpec : ChangeSpec := { name := "fnLazyAllocRoom", fn := fun _ => fun
  | [d] => { results := [.lit (.bool true)], args := [d] }
  | _ => none }
def fnLazyAllocRoomRow : OpenClaim := { program := "ytmjainglhgefoaa", sum := "aa19dd7ce46a89523cbc3522713babd31ebc688bee3eb04d33fd97aef8e58db7", func := "loop.example/refcountml/laws.FnLazyAllocRoom", spec := "fnLazyAllocRoom", unfollowed := true, recurses := true, apart := false }
def FnLazyAllocRoomSaid : Prop := fnLazyAllocRoomRow.holds Try.pinned (OpenSpec.ofChange fnLazyAllocRoomSpec)

/-- ITS FALSE NEIGHBOUR: 'it returns false'. Refute it at one input. -/
def fnLazyAllocRoomWrong : ChangeSpec := { name := "fnLazyAllocRoom", fn := fun _ => fun
  | [d] => { results := [.lit (.bool false)], args := [d] }
  | _ => none }
def FnLazyAllocRoomWrongFalsely : Prop := fnLazyAllocRoomRow.holds Try.pinned (OpenSpec.ofChange fnLazyAllocRoomWrong)

/-- 'laws.FnLazyDrop': WHATEVER THE INPUT: true; the input reads as it did. -/
def fnLazyDropSpec : ChangeSpec := { name := "fnLazyDrop", fn := fun _ => fun
  | [d] => { results := [.lit (.bool true)], args := [d] }
  | _ => none }
def fnLazyDropRow : OpenClaim := { program := "ytmjainglhgefoaa", sum := "aa19dd7ce46a89523cbc3522713babd31ebc688bee3eb04d33fd97aef8e58db7", func := "loop.example/refcountml/laws.FnLazyDrop", spec := "fnLazyDrop", unfollowed := true, recurses := true, apart := false }
def FnLazyDropSaid : Prop := fnLazyDropRow.holds Try.pinned (OpenSpec.ofChange fnLazyDropSpec)

/-- ITS FALSE NEIGHBOUR: 'it returns false'. Refute it at one input. -/
def fnLazyDropWrong : ChangeSpec := { name := "fnLazyDrop", fn := fun _ => fun
  | [d] => { results := [.lit (.bool false)], args := [d] }
  | _ => none }
def FnLazyDropWrongFalsely : Prop := fnLazyDropRow.holds Try.pinned (OpenSpec.ofChange fnLazyDropWrong)

/-- 'laws.FnLazyAlloc': WHATEVER THE INPUT: true; the input reads as it did. -/
def fnLazyAllocSpec : ChangeSpec := { name := "fnLazyAlloc", fn := fun _ => fun
  | [d] => { results := [.lit (.bool true)], args := [d] }
  | _ => none }
def fnLazyAllocRow : OpenClaim := { program := "ytmjainglhgefoaa", sum := "aa19dd7ce46a89523cbc3522713babd31ebc688bee3eb04d33fd97aef8e58db7", func := "loop.example/refcountml/laws.FnLazyAlloc", spec := "fnLazyAlloc", unfollowed := true, recurses := true, apart := false }
def FnLazyAllocSaid : Prop := fnLazyAllocRow.holds Try.pinned (OpenSpec.ofChange fnLazyAllocSpec)

/-- ITS FALSE NEIGHBOUR: 'it returns false'. Refute it at one input. -/
def fnLazyAllocWrong : ChangeSpec := { name := "fnLazyAlloc", fn := fun _ => fun
  | [d] => { results := [.lit (.bool false)], args := [d] }
  | _ => none }
def FnLazyAllocWrongFalsely : Prop := fnLazyAllocRow.holds Try.pinned (OpenSpec.ofChange fnLazyAllocWrong)

/-- 'laws.FnExactDupBlock': WHATEVER THE INPUT: true; the input reads as it did. -/
def fnExactDupBlockSpec : ChangeSpec := { name := "fnExactDupBlock", fn := fun _ => fun
  | [d1, d2] => { results := [.lit (.bool true)], args := [d1, d2] }
  | _ => none }
def fnExactDupBlockRow : OpenClaim := { program := "ytmjainglhgefoaa", sum := "aa19dd7ce46a89523cbc3522713babd31ebc688bee3eb04d33fd97aef8e58db7", func := "loop.example/refcountml/laws.FnExactDupBlock", spec := "fnExactDupBlock", unfollowed := true, recurses := true, apart := false }
def FnExactDupBlockSaid : Prop := fnExactDupBlockRow.holds Try.pinned (OpenSpec.ofChange fnExactDupBlockSpec)

/-- ITS FALSE NEIGHBOUR: 'it returns false'. Refute it at one input. -/
def fnExactDupBlockWrong : ChangeSpec := { name := "fnExactDupBlock", fn := fun _ => fun
  | [d1, d2] => { results := [.lit (.bool false)], args := [d1, d2] }
  | _ => none }
def FnExactDupBlockWrongFalsely : Prop := fnExactDupBlockRow.holds Try.pinned (OpenSpec.ofChange fnExactDupBlockWrong)

/-- 'laws.FnExactHeapOf': WHATEVER THE INPUT: true; the input reads as it did. -/
def fnExactHeapOfSpec : ChangeSpec := { name := "fnExactHeapOf", fn := fun _ => fun
  | [d] => { results := [.lit (.bool true)], args := [d] }
  | _ => none }
def fnExactHeapOfRow : OpenClaim := { program := "ytmjainglhgefoaa", sum := "aa19dd7ce46a89523cbc3522713babd31ebc688bee3eb04d33fd97aef8e58db7", func := "loop.example/refcountml/laws.FnExactHeapOf", spec := "fnExactHeapOf", unfollowed := true, recurses := true, apart := false }
def FnExactHeapOfSaid : Prop := fnExactHeapOfRow.holds Try.pinned (OpenSpec.ofChange fnExactHeapOfSpec)

/-- ITS FALSE NEIGHBOUR: 'it returns false'. Refute it at one input. -/
def fnExactHeapOfWrong : ChangeSpec := { name := "fnExactHeapOf", fn := fun _ => fun
  | [d] => { results := [.lit (.bool false)], args := [d] }
  | _ => none }
def FnExactHeapOfWrongFalsely : Prop := fnExactHeapOfRow.holds Try.pinned (OpenSpec.ofChange fnExactHeapOfWrong)

/-- 'laws.FnExactAllocBlock': WHATEVER THE INPUT: true; the input reads as it did. -/
def fnExactAllocBlockSpec : ChangeSpec := { name := "fnExactAllocBlock", fn := fun _ => fun
  | [d1, d2, d3] => { results := [.lit (.bool true)], args := [d1, d2, d3] }
  | _ => none }
def fnExactAllocBlockRow : OpenClaim := { program := "ytmjainglhgefoaa", sum := "aa19dd7ce46a89523cbc3522713babd31ebc688bee3eb04d33fd97aef8e58db7", func := "loop.example/refcountml/laws.FnExactAllocBlock", spec := "fnExactAllocBlock", unfollowed := true, recurses := true, apart := false }
def FnExactAllocBlockSaid : Prop := fnExactAllocBlockRow.holds Try.pinned (OpenSpec.ofChange fnExactAllocBlockSpec)

/-- ITS FALSE NEIGHBOUR: 'it returns false'. Refute it at one input. -/
def fnExactAllocBlockWrong : ChangeSpec := { name := "fnExactAllocBlock", fn := fun _ => fun
  | [d1, d2, d3] => { results := [.lit (.bool false)], args := [d1, d2, d3] }
  | _ => none }
def FnExactAllocBlockWrongFalsely : Prop := fnExactAllocBlockRow.holds Try.pinned (OpenSpec.ofChange fnExactAllocBlockWrong)

/-- 'laws.FnExactDropBlock': WHATEVER THE INPUT: true; the input reads as it did. -/
def fnExactDropBlockSpec : ChangeSpec := { name := "fnExactDropBlock", fn := fun _ => fun
  | [d1, d2] => { results := [.lit (.bool true)], args := [d1, d2] }
  | _ => none }
def fnExactDropBlockRow : OpenClaim := { program := "ytmjainglhgefoaa", sum := "aa19dd7ce46a89523cbc3522713babd31ebc688bee3eb04d33fd97aef8e58db7", func := "loop.example/refcountml/laws.FnExactDropBlock", spec := "fnExactDropBlock", unfollowed := true, recurses := true, apart := false }
def FnExactDropBlockSaid : Prop := fnExactDropBlockRow.holds Try.pinned (OpenSpec.ofChange fnExactDropBlockSpec)

/-- ITS FALSE NEIGHBOUR: 'it returns false'. Refute it at one input. -/
def fnExactDropBlockWrong : ChangeSpec := { name := "fnExactDropBlock", fn := fun _ => fun
  | [d1, d2] => { results := [.lit (.bool false)], args := [d1, d2] }
  | _ => none }
def FnExactDropBlockWrongFalsely : Prop := fnExactDropBlockRow.holds Try.pinned (OpenSpec.ofChange fnExactDropBlockWrong)

/-- 'laws.FnValidMemory': WHATEVER THE INPUT: true; the input reads as it did. -/
def fnValidMemorySpec : ChangeSpec := { name := "fnValidMemory", fn := fun _ => fun
  | [d] => { results := [.lit (.bool true)], args := [d] }
  | _ => none }
def fnValidMemoryRow : OpenClaim := { program := "ytmjainglhgefoaa", sum := "aa19dd7ce46a89523cbc3522713babd31ebc688bee3eb04d33fd97aef8e58db7", func := "loop.example/refcountml/laws.FnValidMemory", spec := "fnValidMemory", unfollowed := true, recurses := true, apart := false }
def FnValidMemorySaid : Prop := fnValidMemoryRow.holds Try.pinned (OpenSpec.ofChange fnValidMemorySpec)

/-- ITS FALSE NEIGHBOUR: 'it returns false'. Refute it at one input. -/
def fnValidMemoryWrong : ChangeSpec := { name := "fnValidMemory", fn := fun _ => fun
  | [d] => { results := [.lit (.bool false)], args := [d] }
  | _ => none }
def FnValidMemoryWrongFalsely : Prop := fnValidMemoryRow.holds Try.pinned (OpenSpec.ofChange fnValidMemoryWrong)

/-- 'laws.FnCellOf': WHATEVER THE INPUT: true; the input reads as it did. -/
def fnCellOfSpec : ChangeSpec := { name := "fnCellOf", fn := fun _ => fun
  | [d] => { results := [.lit (.bool true)], args := [d] }
  | _ => none }
def fnCellOfRow : OpenClaim := { program := "ytmjainglhgefoaa", sum := "aa19dd7ce46a89523cbc3522713babd31ebc688bee3eb04d33fd97aef8e58db7", func := "loop.example/refcountml/laws.FnCellOf", spec := "fnCellOf", unfollowed := true, recurses := true, apart := false }
def FnCellOfSaid : Prop := fnCellOfRow.holds Try.pinned (OpenSpec.ofChange fnCellOfSpec)

/-- ITS FALSE NEIGHBOUR: 'it returns false'. Refute it at one input. -/
def fnCellOfWrong : ChangeSpec := { name := "fnCellOf", fn := fun _ => fun
  | [d] => { results := [.lit (.bool false)], args := [d] }
  | _ => none }
def FnCellOfWrongFalsely : Prop := fnCellOfRow.holds Try.pinned (OpenSpec.ofChange fnCellOfWrong)

/-- 'laws.FnHeapOf': WHATEVER THE INPUT: true; the input reads as it did. -/
def fnHeapOfSpec : ChangeSpec := { name := "fnHeapOf", fn := fun _ => fun
  | [d] => { results := [.lit (.bool true)], args := [d] }
  | _ => none }
def fnHeapOfRow : OpenClaim := { program := "ytmjainglhgefoaa", sum := "aa19dd7ce46a89523cbc3522713babd31ebc688bee3eb04d33fd97aef8e58db7", func := "loop.example/refcountml/laws.FnHeapOf", spec := "fnHeapOf", unfollowed := true, recurses := true, apart := false }
def FnHeapOfSaid : Prop := fnHeapOfRow.holds Try.pinned (OpenSpec.ofChange fnHeapOfSpec)

/-- ITS FALSE NEIGHBOUR: 'it returns false'. Refute it at one input. -/
def fnHeapOfWrong : ChangeSpec := { name := "fnHeapOf", fn := fun _ => fun
  | [d] => { results := [.lit (.bool false)], args := [d] }
  | _ => none }
def FnHeapOfWrongFalsely : Prop := fnHeapOfRow.holds Try.pinned (OpenSpec.ofChange fnHeapOfWrong)

/-- 'laws.FnCellOfAll': WHATEVER THE INPUT: true; the input reads as it did. -/
def fnCellOfAllSpec : ChangeSpec := { name := "fnCellOfAll", fn := fun _ => fun
  | [d] => { results := [.lit (.bool true)], args := [d] }
  | _ => none }
def fnCellOfAllRow : OpenClaim := { program := "ytmjainglhgefoaa", sum := "aa19dd7ce46a89523cbc3522713babd31ebc688bee3eb04d33fd97aef8e58db7", func := "loop.example/refcountml/laws.FnCellOfAll", spec := "fnCellOfAll", unfollowed := true, recurses := true, apart := false }
def FnCellOfAllSaid : Prop := fnCellOfAllRow.holds Try.pinned (OpenSpec.ofChange fnCellOfAllSpec)

/-- ITS FALSE NEIGHBOUR: 'it returns false'. Refute it at one input. -/
def fnCellOfAllWrong : ChangeSpec := { name := "fnCellOfAll", fn := fun _ => fun
  | [d] => { results := [.lit (.bool false)], args := [d] }
  | _ => none }
def FnCellOfAllWrongFalsely : Prop := fnCellOfAllRow.holds Try.pinned (OpenSpec.ofChange fnCellOfAllWrong)

/-- 'laws.FnAllocBlockRoom': WHATEVER THE INPUT: true; the input reads as it did. -/
def fnAllocBlockRoomSpec : ChangeSpec := { name := "fnAllocBlockRoom", fn := fun _ => fun
  | [d] => { results := [.lit (.bool true)], args := [d] }
  | _ => none }
def fnAllocBlockRoomRow : OpenClaim := { program := "ytmjainglhgefoaa", sum := "aa19dd7ce46a89523cbc3522713babd31ebc688bee3eb04d33fd97aef8e58db7", func := "loop.example/refcountml/laws.FnAllocBlockRoom", spec := "fnAllocBlockRoom", unfollowed := true, recurses := true, apart := false }
def FnAllocBlockRoomSaid : Prop := fnAllocBlockRoomRow.holds Try.pinned (OpenSpec.ofChange fnAllocBlockRoomSpec)

/-- ITS FALSE NEIGHBOUR: 'it returns false'. Refute it at one input. -/
def fnAllocBlockRoomWrong : ChangeSpec := { name := "fnAllocBlockRoom", fn := fun _ => fun
  | [d] => { results := [.lit (.bool false)], args := [d] }
  | _ => none }
def FnAllocBlockRoomWrongFalsely : Prop := fnAllocBlockRoomRow.holds Try.pinned (OpenSpec.ofChange fnAllocBlockRoomWrong)

/- THE SECOND FORM. 'bulk': how many values and letters a reading holds, each counted each time it is reached (what is shared counts as often as it is met; a slice's spare places count too). A statement '..UptoSaid' is the law's where the arguments, and the package variables that the reading takes, are together of bulk at most 1048576: NARROWER than '..Said'. Prove '..Said' where nothing that the law and all that it calls make is longer than what came in: it says more and counts as full. Else prove '..UptoSaid'. A law counts once. -/
mutual
def uptoBulk {H : Type} : DataW H → Nat
  | .lit (.string bytes) => bytes.length + 1
  | .lit _ => 1
  | .nil => 1
  | .ptr d => uptoBulk d + 1
  | .slice elems spare => uptoBulkAll elems + uptoBulkAll spare + 1
  | .agg parts => uptoBulkAll parts + 1
  | .iface _ d => uptoBulk d + 1
  | .map entries => uptoBulkEntries entries + 1
  | .held _ => 1
def uptoBulkAll {H : Type} : List (DataW H) → Nat
  | [] => 0
  | d :: r => uptoBulk d + uptoBulkAll r
def uptoBulkEntries {H : Type} : List (Lit × DataW H) → Nat
  | [] => 0
  | x :: r => uptoBulkEntry x + uptoBulkEntries r
def uptoBulkEntry {H : Type} : Lit × DataW H → Nat
  | (.string bytes, d) => bytes.length + uptoBulk d + 1
  | (_, d) => uptoBulk d + 1
 end
def uptoSmall : (H : Type) → List (DataW H) → Bool := fun _ ds => decide (uptoBulkAll ds ≤ 1048576)
def OpenSpec.upto (s : _root_.Go.ChangeSpec) : _root_.Go.OpenSpec := { _root_.Go.OpenSpec.ofChange s with cond := some uptoSmall }

/-- 'laws.FnLazyAllocRoom', WHERE WHAT IT READS IS OF BULK AT MOST 1048576: true; the input reads as it did. -/
def fnLazyAllocRoomUptoRow : OpenClaim := { program := "ytmjainglhgefoaa", sum := "aa19dd7ce46a89523cbc3522713babd31ebc688bee3eb04d33fd97aef8e58db7", func := "loop.example/refcountml/laws.FnLazyAllocRoom", spec := "fnLazyAllocRoom", unfollowed := true, recurses := true, apart := false, narrowed := true }
def FnLazyAllocRoomUptoSaid : Prop := fnLazyAllocRoomUptoRow.holds Try.pinned (OpenSpec.upto fnLazyAllocRoomSpec)

/-- 'laws.FnLazyDrop', WHERE WHAT IT READS IS OF BULK AT MOST 1048576: true; the input reads as it did. -/
def fnLazyDropUptoRow : OpenClaim := { program := "ytmjainglhgefoaa", sum := "aa19dd7ce46a89523cbc3522713babd31ebc688bee3eb04d33fd97aef8e58db7", func := "loop.example/refcountml/laws.FnLazyDrop", spec := "fnLazyDrop", unfollowed := true, recurses := true, apart := false, narrowed := true }
def FnLazyDropUptoSaid : Prop := fnLazyDropUptoRow.holds Try.pinned (OpenSpec.upto fnLazyDropSpec)

/-- 'laws.FnLazyAlloc', WHERE WHAT IT READS IS OF BULK AT MOST 1048576: true; the input reads as it did. -/
def fnLazyAllocUptoRow : OpenClaim := { program := "ytmjainglhgefoaa", sum := "aa19dd7ce46a89523cbc3522713babd31ebc688bee3eb04d33fd97aef8e58db7", func := "loop.example/refcountml/laws.FnLazyAlloc", spec := "fnLazyAlloc", unfollowed := true, recurses := true, apart := false, narrowed := true }
def FnLazyAllocUptoSaid : Prop := fnLazyAllocUptoRow.holds Try.pinned (OpenSpec.upto fnLazyAllocSpec)

/-- 'laws.FnExactDupBlock', WHERE WHAT IT READS IS OF BULK AT MOST 1048576: true; the input reads as it did. -/
def fnExactDupBlockUptoRow : OpenClaim := { program := "ytmjainglhgefoaa", sum := "aa19dd7ce46a89523cbc3522713babd31ebc688bee3eb04d33fd97aef8e58db7", func := "loop.example/refcountml/laws.FnExactDupBlock", spec := "fnExactDupBlock", unfollowed := true, recurses := true, apart := false, narrowed := true }
def FnExactDupBlockUptoSaid : Prop := fnExactDupBlockUptoRow.holds Try.pinned (OpenSpec.upto fnExactDupBlockSpec)

/-- 'laws.FnExactHeapOf', WHERE WHAT IT READS IS OF BULK AT MOST 1048576: true; the input reads as it did. -/
def fnExactHeapOfUptoRow : OpenClaim := { program := "ytmjainglhgefoaa", sum := "aa19dd7ce46a89523cbc3522713babd31ebc688bee3eb04d33fd97aef8e58db7", func := "loop.example/refcountml/laws.FnExactHeapOf", spec := "fnExactHeapOf", unfollowed := true, recurses := true, apart := false, narrowed := true }
def FnExactHeapOfUptoSaid : Prop := fnExactHeapOfUptoRow.holds Try.pinned (OpenSpec.upto fnExactHeapOfSpec)

/-- 'laws.FnExactAllocBlock', WHERE WHAT IT READS IS OF BULK AT MOST 1048576: true; the input reads as it did. -/
def fnExactAllocBlockUptoRow : OpenClaim := { program := "ytmjainglhgefoaa", sum := "aa19dd7ce46a89523cbc3522713babd31ebc688bee3eb04d33fd97aef8e58db7", func := "loop.example/refcountml/laws.FnExactAllocBlock", spec := "fnExactAllocBlock", unfollowed := true, recurses := true, apart := false, narrowed := true }
def FnExactAllocBlockUptoSaid : Prop := fnExactAllocBlockUptoRow.holds Try.pinned (OpenSpec.upto fnExactAllocBlockSpec)

/-- 'laws.FnExactDropBlock', WHERE WHAT IT READS IS OF BULK AT MOST 1048576: true; the input reads as it did. -/
def fnExactDropBlockUptoRow : OpenClaim := { program := "ytmjainglhgefoaa", sum := "aa19dd7ce46a89523cbc3522713babd31ebc688bee3eb04d33fd97aef8e58db7", func := "loop.example/refcountml/laws.FnExactDropBlock", spec := "fnExactDropBlock", unfollowed := true, recurses := true, apart := false, narrowed := true }
def FnExactDropBlockUptoSaid : Prop := fnExactDropBlockUptoRow.holds Try.pinned (OpenSpec.upto fnExactDropBlockSpec)

/-- 'laws.FnValidMemory', WHERE WHAT IT READS IS OF BULK AT MOST 1048576: true; the input reads as it did. -/
def fnValidMemoryUptoRow : OpenClaim := { program := "ytmjainglhgefoaa", sum := "aa19dd7ce46a89523cbc3522713babd31ebc688bee3eb04d33fd97aef8e58db7", func := "loop.example/refcountml/laws.FnValidMemory", spec := "fnValidMemory", unfollowed := true, recurses := true, apart := false, narrowed := true }
def FnValidMemoryUptoSaid : Prop := fnValidMemoryUptoRow.holds Try.pinned (OpenSpec.upto fnValidMemorySpec)

/-- 'laws.FnCellOf', WHERE WHAT IT READS IS OF BULK AT MOST 1048576: true; the input reads as it did. -/
def fnCellOfUptoRow : OpenClaim := { program := "ytmjainglhgefoaa", sum := "aa19dd7ce46a89523cbc3522713babd31ebc688bee3eb04d33fd97aef8e58db7", func := "loop.example/refcountml/laws.FnCellOf", spec := "fnCellOf", unfollowed := true, recurses := true, apart := false, narrowed := true }
def FnCellOfUptoSaid : Prop := fnCellOfUptoRow.holds Try.pinned (OpenSpec.upto fnCellOfSpec)

/-- 'laws.FnHeapOf', WHERE WHAT IT READS IS OF BULK AT MOST 1048576: true; the input reads as it did. -/
def fnHeapOfUptoRow : OpenClaim := { program := "ytmjainglhgefoaa", sum := "aa19dd7ce46a89523cbc3522713babd31ebc688bee3eb04d33fd97aef8e58db7", func := "loop.example/refcountml/laws.FnHeapOf", spec := "fnHeapOf", unfollowed := true, recurses := true, apart := false, narrowed := true }
def FnHeapOfUptoSaid : Prop := fnHeapOfUptoRow.holds Try.pinned (OpenSpec.upto fnHeapOfSpec)

/-- 'laws.FnCellOfAll', WHERE WHAT IT READS IS OF BULK AT MOST 1048576: true; the input reads as it did. -/
def fnCellOfAllUptoRow : OpenClaim := { program := "ytmjainglhgefoaa", sum := "aa19dd7ce46a89523cbc3522713babd31ebc688bee3eb04d33fd97aef8e58db7", func := "loop.example/refcountml/laws.FnCellOfAll", spec := "fnCellOfAll", unfollowed := true, recurses := true, apart := false, narrowed := true }
def FnCellOfAllUptoSaid : Prop := fnCellOfAllUptoRow.holds Try.pinned (OpenSpec.upto fnCellOfAllSpec)

/-- 'laws.FnAllocBlockRoom', WHERE WHAT IT READS IS OF BULK AT MOST 1048576: true; the input reads as it did. -/
def fnAllocBlockRoomUptoRow : OpenClaim := { program := "ytmjainglhgefoaa", sum := "aa19dd7ce46a89523cbc3522713babd31ebc688bee3eb04d33fd97aef8e58db7", func := "loop.example/refcountml/laws.FnAllocBlockRoom", spec := "fnAllocBlockRoom", unfollowed := true, recurses := true, apart := false, narrowed := true }
def FnAllocBlockRoomUptoSaid : Prop := fnAllocBlockRoomUptoRow.holds Try.pinned (OpenSpec.upto fnAllocBlockRoomSpec)

end Rows
end Go.Proofs.Ytmjainglhgefoaa
