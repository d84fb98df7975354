/-
  No cell of these rows narrows 'for every input' (looked for: loops, veiled, ifaces, maps, wideKeys, modest, calm, conditions, laid).
  DERIVED. THE GIVEN ROWS OF THIS SEAT. 4 by the template 'for every input the law returns true; each argument reads behind the call as it read before'; 0 by the template 'total and deterministic' (their statements: YtjdgknhdphmgiaaTotals.lean).
  GIVEN WITH THE SEED: the statements are not yours to turn. If you find one false, say at which input.
  Laid BY PROGRAM, IN A SANDBOX (cutbox-rows.mjs): the forced cells as the released guide's own fill.sh prints them over the translation 7f409a2cf6063adc… (all of the seat's roots in one cut). By AI agents, Wed Nov 11 2026. No macro, syntax, notation, axiom, sorry.
-/
import Derived.Test.YtjdgknhdphmgiaaChecked
import GoSem.Claim
import GoSem.ClaimJoined
import GoSem.ClaimMapViews
import Derived.JoinedTies
import Derived.KernelRfl
namespace Go.Proofs.Ytjdgknhdphmgiaa
/- THE CELL 'sum', in the pinned program and in every row, IS THE sha256 OF THE DUMP (.gsa) THAT YtjdgknhdphmgiaaProg.lean LOADS. Nothing in Lean hashes anything: it is a label: what it is worth is what the hold of that sum in a sandbox is worth. -/
noncomputable def Try.pinned : Pinned := { name := "ytjdgknhdphmgiaa", sum := "7f409a2cf6063adc9d0f89b28d9a874b66c5935eeeef9db12ad319f70f1990be", checked := Try.checked }
namespace Rows
def none {H : Type} : Left H := { results := [], args := [] }

/-- 'laws.FnExactEncodedLength': WHATEVER THE INPUT: true; the input reads as it did. -/
def fnExactEncodedLengthSpec : ChangeSpec := { name := "fnExactEncodedLength", fn := fun _ => fun
  | [d] => { results := [.lit (.bool true)], args := [d] }
  | _ => none }
def fnExactEncodedLengthRow : OpenClaim := { program := "ytjdgknhdphmgiaa", sum := "7f409a2cf6063adc9d0f89b28d9a874b66c5935eeeef9db12ad319f70f1990be", func := "loop.example/refcountml/laws.FnExactEncodedLength", spec := "fnExactEncodedLength", unfollowed := true, recurses := true, apart := false }
def FnExactEncodedLengthSaid : Prop := fnExactEncodedLengthRow.holds Try.pinned (OpenSpec.ofChange fnExactEncodedLengthSpec)

/-- ITS FALSE NEIGHBOUR: 'it returns false'. Refute it at one input. -/
def fnExactEncodedLengthWrong : ChangeSpec := { name := "fnExactEncodedLength", fn := fun _ => fun
  | [d] => { results := [.lit (.bool false)], args := [d] }
  | _ => none }
def FnExactEncodedLengthWrongFalsely : Prop := fnExactEncodedLengthRow.holds Try.pinned (OpenSpec.ofChange fnExactEncodedLengthWrong)

/-- 'laws.FnExactEncodeImage': WHATEVER THE INPUT: true; the input reads as it did. -/
def fnExactEncodeImageSpec : ChangeSpec := { name := "fnExactEncodeImage", fn := fun _ => fun
  | [d] => { results := [.lit (.bool true)], args := [d] }
  | _ => none }
def fnExactEncodeImageRow : OpenClaim := { program := "ytjdgknhdphmgiaa", sum := "7f409a2cf6063adc9d0f89b28d9a874b66c5935eeeef9db12ad319f70f1990be", func := "loop.example/refcountml/laws.FnExactEncodeImage", spec := "fnExactEncodeImage", unfollowed := true, recurses := true, apart := false }
def FnExactEncodeImageSaid : Prop := fnExactEncodeImageRow.holds Try.pinned (OpenSpec.ofChange fnExactEncodeImageSpec)

/-- ITS FALSE NEIGHBOUR: 'it returns false'. Refute it at one input. -/
def fnExactEncodeImageWrong : ChangeSpec := { name := "fnExactEncodeImage", fn := fun _ => fun
  | [d] => { results := [.lit (.bool false)], args := [d] }
  | _ => none }
def FnExactEncodeImageWrongFalsely : Prop := fnExactEncodeImageRow.holds Try.pinned (OpenSpec.ofChange fnExactEncodeImageWrong)

/-- 'laws.FnExactDecodeImage': WHATEVER THE INPUT: true; the input reads as it did. -/
def fnExactDecodeImageSpec : ChangeSpec := { name := "fnExactDecodeImage", fn := fun _ => fun
  | [d] => { results := [.lit (.bool true)], args := [d] }
  | _ => none }
def fnExactDecodeImageRow : OpenClaim := { program := "ytjdgknhdphmgiaa", sum := "7f409a2cf6063adc9d0f89b28d9a874b66c5935eeeef9db12ad319f70f1990be", func := "loop.example/refcountml/laws.FnExactDecodeImage", spec := "fnExactDecodeImage", unfollowed := true, recurses := true, apart := false }
def FnExactDecodeImageSaid : Prop := fnExactDecodeImageRow.holds Try.pinned (OpenSpec.ofChange fnExactDecodeImageSpec)

/-- ITS FALSE NEIGHBOUR: 'it returns false'. Refute it at one input. -/
def fnExactDecodeImageWrong : ChangeSpec := { name := "fnExactDecodeImage", fn := fun _ => fun
  | [d] => { results := [.lit (.bool false)], args := [d] }
  | _ => none }
def FnExactDecodeImageWrongFalsely : Prop := fnExactDecodeImageRow.holds Try.pinned (OpenSpec.ofChange fnExactDecodeImageWrong)

/-- 'laws.FnExactTailCalls': WHATEVER THE INPUT: true; the input reads as it did. -/
def fnExactTailCallsSpec : ChangeSpec := { name := "fnExactTailCalls", fn := fun _ => fun
  | [d] => { results := [.lit (.bool true)], args := [d] }
  | _ => none }
def fnExactTailCallsRow : OpenClaim := { program := "ytjdgknhdphmgiaa", sum := "7f409a2cf6063adc9d0f89b28d9a874b66c5935eeeef9db12ad319f70f1990be", func := "loop.example/refcountml/laws.FnExactTailCalls", spec := "fnExactTailCalls", unfollowed := true, recurses := true, apart := false }
def FnExactTailCallsSaid : Prop := fnExactTailCallsRow.holds Try.pinned (OpenSpec.ofChange fnExactTailCallsSpec)

/-- ITS FALSE NEIGHBOUR: 'it returns false'. Refute it at one input. -/
def fnExactTailCallsWrong : ChangeSpec := { name := "fnExactTailCalls", fn := fun _ => fun
  | [d] => { results := [.lit (.bool false)], args := [d] }
  | _ => none }
def FnExactTailCallsWrongFalsely : Prop := fnExactTailCallsRow.holds Try.pinned (OpenSpec.ofChange fnExactTailCallsWrong)

/- THE SECOND FORM. 'bulk': how many values and letters a reading holds, each counted each time it is reached (what is shared counts as often as it is met; a slice's spare places count too). A statement '..UptoSaid' is the law's where the arguments, and the package variables that the reading takes, are together of bulk at most 1048576: NARROWER than '..Said'. Prove '..Said' where nothing that the law and all that it calls make is longer than what came in: it says more and counts as full. Else prove '..UptoSaid'. A law counts once. -/
mutual
def uptoBulk {H : Type} : DataW H → Nat
  | .lit (.string bytes) => bytes.length + 1
  | .lit _ => 1
  | .nil => 1
  | .ptr d => uptoBulk d + 1
  | .slice elems spare => uptoBulkAll elems + uptoBulkAll spare + 1
  | .agg parts => uptoBulkAll parts + 1
  | .iface _ d => uptoBulk d + 1
  | .map entries => uptoBulkEntries entries + 1
  | .held _ => 1
def uptoBulkAll {H : Type} : List (DataW H) → Nat
  | [] => 0
  | d :: r => uptoBulk d + uptoBulkAll r
def uptoBulkEntries {H : Type} : List (Lit × DataW H) → Nat
  | [] => 0
  | x :: r => uptoBulkEntry x + uptoBulkEntries r
def uptoBulkEntry {H : Type} : Lit × DataW H → Nat
  | (.string bytes, d) => bytes.length + uptoBulk d + 1
  | (_, d) => uptoBulk d + 1
 end
def uptoSmall : (H : Type) → List (DataW H) → Bool := fun _ ds => decide (uptoBulkAll ds ≤ 1048576)
def OpenSpec.upto (s : _root_.Go.ChangeSpec) : _root_.Go.OpenSpec := { _root_.Go.OpenSpec.ofChange s with cond := some uptoSmall }

/-- 'laws.FnExactEncodedLength', WHERE WHAT IT READS IS OF BULK AT MOST 1048576: true; the input reads as it did. -/
def fnExactEncodedLengthUptoRow : OpenClaim := { program := "ytjdgknhdphmgiaa", sum := "7f409a2cf6063adc9d0f89b28d9a874b66c5935eeeef9db12ad319f70f1990be", func := "loop.example/refcountml/laws.FnExactEncodedLength", spec := "fnExactEncodedLength", unfollowed := true, recurses := true, apart := false, narrowed := true }
def FnExactEncodedLengthUptoSaid : Prop := fnExactEncodedLengthUptoRow.holds Try.pinned (OpenSpec.upto fnExactEncodedLengthSpec)

/-- 'laws.FnExactEncodeImage', WHERE WHAT IT READS IS OF BULK AT MOST 1048576: true; the input reads as it did. -/
def fnExactEncodeImageUptoRow : OpenClaim := { program := "ytjdgknhdphmgiaa", sum := "7f409a2cf6063adc9d0f89b28d9a874b66c5935eeeef9db12ad319f70f1990be", func := "loop.example/refcountml/laws.FnExactEncodeImage", spec := "fnExactEncodeImage", unfollowed := true, recurses := true, apart := false, narrowed := true }
def FnExactEncodeImageUptoSaid : Prop := fnExactEncodeImageUptoRow.holds Try.pinned (OpenSpec.upto fnExactEncodeImageSpec)

/-- 'laws.FnExactDecodeImage', WHERE WHAT IT READS IS OF BULK AT MOST 1048576: true; the input reads as it did. -/
def fnExactDecodeImageUptoRow : OpenClaim := { program := "ytjdgknhdphmgiaa", sum := "7f409a2cf6063adc9d0f89b28d9a874b66c5935eeeef9db12ad319f70f1990be", func := "loop.example/refcountml/laws.FnExactDecodeImage", spec := "fnExactDecodeImage", unfollowed := true, recurses := true, apart := false, narrowed := true }
def FnExactDecodeImageUptoSaid : Prop := fnExactDecodeImageUptoRow.holds Try.pinned (OpenSpec.upto fnExactDecodeImageSpec)

/-- 'laws.FnExactTailCalls', WHERE WHAT IT READS IS OF BULK AT MOST 1048576: true; the input reads as it did. -/
def fnExactTailCallsUptoRow : OpenClaim := { program := "ytjdgknhdphmgiaa", sum := "7f409a2cf6063adc9d0f89b28d9a874b66c5935eeeef9db12ad319f70f1990be", func := "loop.example/refcountml/laws.FnExactTailCalls", spec := "fnExactTailCalls", unfollowed := true, recurses := true, apart := false, narrowed := true }
def FnExactTailCallsUptoSaid : Prop := fnExactTailCallsUptoRow.holds Try.pinned (OpenSpec.upto fnExactTailCallsSpec)

end Rows
end Go.Proofs.Ytjdgknhdphmgiaa
