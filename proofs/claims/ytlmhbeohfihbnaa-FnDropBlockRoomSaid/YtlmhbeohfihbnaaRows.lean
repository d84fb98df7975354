/-
  No cell of these rows narrows 'for every input' (looked for: loops, veiled, ifaces, maps, wideKeys, modest, calm, conditions, laid).
  DERIVED. THE GIVEN ROWS OF THIS SEAT. 6 by the template 'for every input the law returns true; each argument reads behind the call as it read before'; 0 by the template 'total and deterministic' (their statements: YtlmhbeohfihbnaaTotals.lean).
  GIVEN WITH THE SEED: the statements are not yours to turn. If you find one false, say at which input.
  Laid BY PROGRAM, IN A SANDBOX (cutbox-rows.mjs): the forced cells as the released guide's own fill.sh prints them over the translation a2a72d2bf58451a3… (all of the seat's roots in one cut). By AI agents, Wed Nov 11 2026. No macro, syntax, notation, axiom, sorry.
-/
import Derived.Test.YtlmhbeohfihbnaaChecked
import GoSem.Claim
import GoSem.ClaimJoined
import GoSem.ClaimMapViews
import Derived.JoinedTies
import Derived.KernelRfl
namespace Go.Proofs.Ytlmhbeohfihbnaa
/- THE CELL 'sum', in the pinned program and in every row, IS THE sha256 OF THE DUMP (.gsa) THAT YtlmhbeohfihbnaaProg.lean LOADS. Nothing in Lean hashes anything: it is a label: what it is worth is what the hold of that sum in a sandbox is worth. -/
noncomputable def Try.pinned : Pinned := { name := "ytlmhbeohfihbnaa", sum := "a2a72d2bf58451a39f9c11acba84b77b0610807d1b2429da75be6d2cfdfc8890", checked := Try.checked }
namespace Rows
def none {H : Type} : Left H := { results := [], args := [] }

/-- 'laws.FnAllocBlock': WHATEVER THE INPUT: true; the input reads as it did. -/
def fnAllocBlockSpec : ChangeSpec := { name := "fnAllocBlock", fn := fun _ => fun
  | [d] => { results := [.lit (.bool true)], args := [d] }
  | _ => none }
def fnAllocBlockRow : OpenClaim := { program := "ytlmhbeohfihbnaa", sum := "a2a72d2bf58451a39f9c11acba84b77b0610807d1b2429da75be6d2cfdfc8890", func := "loop.example/refcountml/laws.FnAllocBlock", spec := "fnAllocBlock", unfollowed := true, recurses := true, apart := false }
def FnAllocBlockSaid : Prop := fnAllocBlockRow.holds Try.pinned (OpenSpec.ofChange fnAllocBlockSpec)

/-- ITS FALSE NEIGHBOUR: 'it returns false'. Refute it at one input. -/
def fnAllocBlockWrong : ChangeSpec := { name := "fnAllocBlock", fn := fun _ => fun
  | [d] => { results := [.lit (.bool false)], args := [d] }
  | _ => none }
def FnAllocBlockWrongFalsely : Prop := fnAllocBlockRow.holds Try.pinned (OpenSpec.ofChange fnAllocBlockWrong)

/-- 'laws.FnDupBlockDrop': WHATEVER THE INPUT: true; the input reads as it did. -/
def fnDupBlockDropSpec : ChangeSpec := { name := "fnDupBlockDrop", fn := fun _ => fun
  | [d] => { results := [.lit (.bool true)], args := [d] }
  | _ => none }
def fnDupBlockDropRow : OpenClaim := { program := "ytlmhbeohfihbnaa", sum := "a2a72d2bf58451a39f9c11acba84b77b0610807d1b2429da75be6d2cfdfc8890", func := "loop.example/refcountml/laws.FnDupBlockDrop", spec := "fnDupBlockDrop", unfollowed := true, recurses := true, apart := false }
def FnDupBlockDropSaid : Prop := fnDupBlockDropRow.holds Try.pinned (OpenSpec.ofChange fnDupBlockDropSpec)

/-- ITS FALSE NEIGHBOUR: 'it returns false'. Refute it at one input. -/
def fnDupBlockDropWrong : ChangeSpec := { name := "fnDupBlockDrop", fn := fun _ => fun
  | [d] => { results := [.lit (.bool false)], args := [d] }
  | _ => none }
def FnDupBlockDropWrongFalsely : Prop := fnDupBlockDropRow.holds Try.pinned (OpenSpec.ofChange fnDupBlockDropWrong)

/-- 'laws.FnDupBlock': WHATEVER THE INPUT: true; the input reads as it did. -/
def fnDupBlockSpec : ChangeSpec := { name := "fnDupBlock", fn := fun _ => fun
  | [d] => { results := [.lit (.bool true)], args := [d] }
  | _ => none }
def fnDupBlockRow : OpenClaim := { program := "ytlmhbeohfihbnaa", sum := "a2a72d2bf58451a39f9c11acba84b77b0610807d1b2429da75be6d2cfdfc8890", func := "loop.example/refcountml/laws.FnDupBlock", spec := "fnDupBlock", unfollowed := true, recurses := true, apart := false }
def FnDupBlockSaid : Prop := fnDupBlockRow.holds Try.pinned (OpenSpec.ofChange fnDupBlockSpec)

/-- ITS FALSE NEIGHBOUR: 'it returns false'. Refute it at one input. -/
def fnDupBlockWrong : ChangeSpec := { name := "fnDupBlock", fn := fun _ => fun
  | [d] => { results := [.lit (.bool false)], args := [d] }
  | _ => none }
def FnDupBlockWrongFalsely : Prop := fnDupBlockRow.holds Try.pinned (OpenSpec.ofChange fnDupBlockWrong)

/-- 'laws.FnDropBlockRoom': WHATEVER THE INPUT: true; the input reads as it did. -/
def fnDropBlockRoomSpec : ChangeSpec := { name := "fnDropBlockRoom", fn := fun _ => fun
  | [d] => { results := [.lit (.bool true)], args := [d] }
  | _ => none }
def fnDropBlockRoomRow : OpenClaim := { program := "ytlmhbeohfihbnaa", sum := "a2a72d2bf58451a39f9c11acba84b77b0610807d1b2429da75be6d2cfdfc8890", func := "loop.example/refcountml/laws.FnDropBlockRoom", spec := "fnDropBlockRoom", unfollowed := true, recurses := true, apart := false }
def FnDropBlockRoomSaid : Prop := fnDropBlockRoomRow.holds Try.pinned (OpenSpec.ofChange fnDropBlockRoomSpec)

/-- ITS FALSE NEIGHBOUR: 'it returns false'. Refute it at one input. -/
def fnDropBlockRoomWrong : ChangeSpec := { name := "fnDropBlockRoom", fn := fun _ => fun
  | [d] => { results := [.lit (.bool false)], args := [d] }
  | _ => none }
def FnDropBlockRoomWrongFalsely : Prop := fnDropBlockRoomRow.holds Try.pinned (OpenSpec.ofChange fnDropBlockRoomWrong)

/-- 'laws.FnAllocBlockDrop': WHATEVER THE INPUT: true; the input reads as it did. -/
def fnAllocBlockDropSpec : ChangeSpec := { name := "fnAllocBlockDrop", fn := fun _ => fun
  | [d] => { results := [.lit (.bool true)], args := [d] }
  | _ => none }
def fnAllocBlockDropRow : OpenClaim := { program := "ytlmhbeohfihbnaa", sum := "a2a72d2bf58451a39f9c11acba84b77b0610807d1b2429da75be6d2cfdfc8890", func := "loop.example/refcountml/laws.FnAllocBlockDrop", spec := "fnAllocBlockDrop", unfollowed := true, recurses := true, apart := false }
def FnAllocBlockDropSaid : Prop := fnAllocBlockDropRow.holds Try.pinned (OpenSpec.ofChange fnAllocBlockDropSpec)

/-- ITS FALSE NEIGHBOUR: 'it returns false'. Refute it at one input. -/
def fnAllocBlockDropWrong : ChangeSpec := { name := "fnAllocBlockDrop", fn := fun _ => fun
  | [d] => { results := [.lit (.bool false)], args := [d] }
  | _ => none }
def FnAllocBlockDropWrongFalsely : Prop := fnAllocBlockDropRow.holds Try.pinned (OpenSpec.ofChange fnAllocBlockDropWrong)

/-- 'laws.FnDropBlock': WHATEVER THE INPUT: true; the input reads as it did. -/
def fnDropBlockSpec : ChangeSpec := { name := "fnDropBlock", fn := fun _ => fun
  | [d] => { results := [.lit (.bool true)], args := [d] }
  | _ => none }
def fnDropBlockRow : OpenClaim := { program := "ytlmhbeohfihbnaa", sum := "a2a72d2bf58451a39f9c11acba84b77b0610807d1b2429da75be6d2cfdfc8890", func := "loop.example/refcountml/laws.FnDropBlock", spec := "fnDropBlock", unfollowed := true, recurses := true, apart := false }
def FnDropBlockSaid : Prop := fnDropBlockRow.holds Try.pinned (OpenSpec.ofChange fnDropBlockSpec)

/-- ITS FALSE NEIGHBOUR: 'it returns false'. Refute it at one input. -/
def fnDropBlockWrong : ChangeSpec := { name := "fnDropBlock", fn := fun _ => fun
  | [d] => { results := [.lit (.bool false)], args := [d] }
  | _ => none }
def FnDropBlockWrongFalsely : Prop := fnDropBlockRow.holds Try.pinned (OpenSpec.ofChange fnDropBlockWrong)

/- THE SECOND FORM. 'bulk': how many values and letters a reading holds, each counted each time it is reached (what is shared counts as often as it is met; a slice's spare places count too). A statement '..UptoSaid' is the law's where the arguments, and the package variables that the reading takes, are together of bulk at most 1048576: NARROWER than '..Said'. Prove '..Said' where nothing that the law and all that it calls make is longer than what came in: it says more and counts as full. Else prove '..UptoSaid'. A law counts once. -/
mutual
def uptoBulk {H : Type} : DataW H → Nat
  | .lit (.string bytes) => bytes.length + 1
  | .lit _ => 1
  | .nil => 1
  | .ptr d => uptoBulk d + 1
  | .slice elems spare => uptoBulkAll elems + uptoBulkAll spare + 1
  | .agg parts => uptoBulkAll parts + 1
  | .iface _ d => uptoBulk d + 1
  | .map entries => uptoBulkEntries entries + 1
  | .held _ => 1
def uptoBulkAll {H : Type} : List (DataW H) → Nat
  | [] => 0
  | d :: r => uptoBulk d + uptoBulkAll r
def uptoBulkEntries {H : Type} : List (Lit × DataW H) → Nat
  | [] => 0
  | x :: r => uptoBulkEntry x + uptoBulkEntries r
def uptoBulkEntry {H : Type} : Lit × DataW H → Nat
  | (.string bytes, d) => bytes.length + uptoBulk d + 1
  | (_, d) => uptoBulk d + 1
 end
def uptoSmall : (H : Type) → List (DataW H) → Bool := fun _ ds => decide (uptoBulkAll ds ≤ 1048576)
def OpenSpec.upto (s : _root_.Go.ChangeSpec) : _root_.Go.OpenSpec := { _root_.Go.OpenSpec.ofChange s with cond := some uptoSmall }

/-- 'laws.FnAllocBlock', WHERE WHAT IT READS IS OF BULK AT MOST 1048576: true; the input reads as it did. -/
def fnAllocBlockUptoRow : OpenClaim := { program := "ytlmhbeohfihbnaa", sum := "a2a72d2bf58451a39f9c11acba84b77b0610807d1b2429da75be6d2cfdfc8890", func := "loop.example/refcountml/laws.FnAllocBlock", spec := "fnAllocBlock", unfollowed := true, recurses := true, apart := false, narrowed := true }
def FnAllocBlockUptoSaid : Prop := fnAllocBlockUptoRow.holds Try.pinned (OpenSpec.upto fnAllocBlockSpec)

/-- 'laws.FnDupBlockDrop', WHERE WHAT IT READS IS OF BULK AT MOST 1048576: true; the input reads as it did. -/
def fnDupBlockDropUptoRow : OpenClaim := { program := "ytlmhbeohfihbnaa", sum := "a2a72d2bf58451a39f9c11acba84b77b0610807d1b2429da75be6d2cfdfc8890", func := "loop.example/refcountml/laws.FnDupBlockDrop", spec := "fnDupBlockDrop", unfollowed := true, recurses := true, apart := false, narrowed := true }
def FnDupBlockDropUptoSaid : Prop := fnDupBlockDropUptoRow.holds Try.pinned (OpenSpec.upto fnDupBlockDropSpec)

/-- 'laws.FnDupBlock', WHERE WHAT IT READS IS OF BULK AT MOST 1048576: true; the input reads as it did. -/
def fnDupBlockUptoRow : OpenClaim := { program := "ytlmhbeohfihbnaa", sum := "a2a72d2bf58451a39f9c11acba84b77b0610807d1b2429da75be6d2cfdfc8890", func := "loop.example/refcountml/laws.FnDupBlock", spec := "fnDupBlock", unfollowed := true, recurses := true, apart := false, narrowed := true }
def FnDupBlockUptoSaid : Prop := fnDupBlockUptoRow.holds Try.pinned (OpenSpec.upto fnDupBlockSpec)

/-- 'laws.FnDropBlockRoom', WHERE WHAT IT READS IS OF BULK AT MOST 1048576: true; the input reads as it did. -/
def fnDropBlockRoomUptoRow : OpenClaim := { program := "ytlmhbeohfihbnaa", sum := "a2a72d2bf58451a39f9c11acba84b77b0610807d1b2429da75be6d2cfdfc8890", func := "loop.example/refcountml/laws.FnDropBlockRoom", spec := "fnDropBlockRoom", unfollowed := true, recurses := true, apart := false, narrowed := true }
def FnDropBlockRoomUptoSaid : Prop := fnDropBlockRoomUptoRow.holds Try.pinned (OpenSpec.upto fnDropBlockRoomSpec)

/-- 'laws.FnAllocBlockDrop', WHERE WHAT IT READS IS OF BULK AT MOST 1048576: true; the input reads as it did. -/
def fnAllocBlockDropUptoRow : OpenClaim := { program := "ytlmhbeohfihbnaa", sum := "a2a72d2bf58451a39f9c11acba84b77b0610807d1b2429da75be6d2cfdfc8890", func := "loop.example/refcountml/laws.FnAllocBlockDrop", spec := "fnAllocBlockDrop", unfollowed := true, recurses := true, apart := false, narrowed := true }
def FnAllocBlockDropUptoSaid : Prop := fnAllocBlockDropUptoRow.holds Try.pinned (OpenSpec.upto fnAllocBlockDropSpec)

/-- 'laws.FnDropBlock', WHERE WHAT IT READS IS OF BULK AT MOST 1048576: true; the input reads as it did. -/
def fnDropBlockUptoRow : OpenClaim := { program := "ytlmhbeohfihbnaa", sum := "a2a72d2bf58451a39f9c11acba84b77b0610807d1b2429da75be6d2cfdfc8890", func := "loop.example/refcountml/laws.FnDropBlock", spec := "fnDropBlock", unfollowed := true, recurses := true, apart := false, narrowed := true }
def FnDropBlockUptoSaid : Prop := fnDropBlockUptoRow.holds Try.pinned (OpenSpec.upto fnDropBlockSpec)

end Rows
end Go.Proofs.Ytlmhbeohfihbnaa
