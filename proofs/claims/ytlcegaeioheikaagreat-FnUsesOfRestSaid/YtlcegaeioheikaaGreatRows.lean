/-
  No cell of these rows narrows 'for every input' (looked for: loops, veiled, ifaces, maps, wideKeys, modest, calm, conditions, laid).
  DERIVED. THE GIVEN ROWS OF THIS SEAT. 3 by the template 'for every input the law returns true; each argument reads behind the call as it read before'; 0 by the template 'total and deterministic' (their statements: YtlcegaeioheikaaGreatTotals.lean).
  GIVEN WITH THE SEED: the statements are not yours to turn. If you find one false, say at which input.
  Laid BY PROGRAM, IN A SANDBOX (cutbox-rows.mjs): the forced cells as the released guide's own fill.sh prints them over the translation 31e719453622eaa4… (all of the seat's roots in one cut). By AI agents, Wed Nov 11 2026. No macro, syntax, notation, axiom, sorry.
-/
import Derived.Test.YtlcegaeioheikaaGreatChecked
import GoSem.Claim
import GoSem.ClaimJoined
import GoSem.ClaimMapViews
import Derived.JoinedTies
import Derived.KernelRfl
namespace Go.Proofs.YtlcegaeioheikaaGreat
/- THE CELL 'sum', in the pinned program and in every row, IS THE sha256 OF THE DUMP (.gsa) THAT YtlcegaeioheikaaGreatProg.lean LOADS. Nothing in Lean hashes anything: it is a label: what it is worth is what the hold of that sum in a sandbox is worth. -/
noncomputable def Tryz.pinned : Pinned := { name := "ytlcegaeioheikaagreat", sum := "31e719453622eaa48ffba4d09377fa4df8d2bc7af7ea2edeb765e8109862b48e", checked := Tryz.checked }
namespace Rows
def none {H : Type} : Left H := { results := [], args := [] }

/-- 'laws.FnStepsOf': WHATEVER THE INPUT: true; the input reads as it did. -/
def fnStepsOfSpec : ChangeSpec := { name := "fnStepsOf", fn := fun _ => fun
  | [d] => { results := [.lit (.bool true)], args := [d] }
  | _ => none }
def fnStepsOfRow : OpenClaim := { program := "ytlcegaeioheikaagreat", sum := "31e719453622eaa48ffba4d09377fa4df8d2bc7af7ea2edeb765e8109862b48e", func := "loop.example/refcountml/laws.FnStepsOf", spec := "fnStepsOf", recurses := true, apart := false }
def FnStepsOfSaid : Prop := fnStepsOfRow.holds Tryz.pinned (OpenSpec.ofChange fnStepsOfSpec)

/-- ITS FALSE NEIGHBOUR: 'it returns false'. Refute it at one input. -/
def fnStepsOfWrong : ChangeSpec := { name := "fnStepsOf", fn := fun _ => fun
  | [d] => { results := [.lit (.bool false)], args := [d] }
  | _ => none }
def FnStepsOfWrongFalsely : Prop := fnStepsOfRow.holds Tryz.pinned (OpenSpec.ofChange fnStepsOfWrong)

/-- 'laws.FnUsesOfRest': WHATEVER THE INPUT: true; the input reads as it did. -/
def fnUsesOfRestSpec : ChangeSpec := { name := "fnUsesOfRest", fn := fun _ => fun
  | [d] => { results := [.lit (.bool true)], args := [d] }
  | _ => none }
def fnUsesOfRestRow : OpenClaim := { program := "ytlcegaeioheikaagreat", sum := "31e719453622eaa48ffba4d09377fa4df8d2bc7af7ea2edeb765e8109862b48e", func := "loop.example/refcountml/laws.FnUsesOfRest", spec := "fnUsesOfRest", unfollowed := true, recurses := true, apart := false }
def FnUsesOfRestSaid : Prop := fnUsesOfRestRow.holds Tryz.pinned (OpenSpec.ofChange fnUsesOfRestSpec)

/-- ITS FALSE NEIGHBOUR: 'it returns false'. Refute it at one input. -/
def fnUsesOfRestWrong : ChangeSpec := { name := "fnUsesOfRest", fn := fun _ => fun
  | [d] => { results := [.lit (.bool false)], args := [d] }
  | _ => none }
def FnUsesOfRestWrongFalsely : Prop := fnUsesOfRestRow.holds Tryz.pinned (OpenSpec.ofChange fnUsesOfRestWrong)

/-- 'laws.FnLastUseNone': WHATEVER THE INPUT: true; the input reads as it did. -/
def fnLastUseNoneSpec : ChangeSpec := { name := "fnLastUseNone", fn := fun _ => fun
  | [d] => { results := [.lit (.bool true)], args := [d] }
  | _ => none }
def fnLastUseNoneRow : OpenClaim := { program := "ytlcegaeioheikaagreat", sum := "31e719453622eaa48ffba4d09377fa4df8d2bc7af7ea2edeb765e8109862b48e", func := "loop.example/refcountml/laws.FnLastUseNone", spec := "fnLastUseNone", unfollowed := true, recurses := true, apart := false }
def FnLastUseNoneSaid : Prop := fnLastUseNoneRow.holds Tryz.pinned (OpenSpec.ofChange fnLastUseNoneSpec)

/-- ITS FALSE NEIGHBOUR: 'it returns false'. Refute it at one input. -/
def fnLastUseNoneWrong : ChangeSpec := { name := "fnLastUseNone", fn := fun _ => fun
  | [d] => { results := [.lit (.bool false)], args := [d] }
  | _ => none }
def FnLastUseNoneWrongFalsely : Prop := fnLastUseNoneRow.holds Tryz.pinned (OpenSpec.ofChange fnLastUseNoneWrong)

/- THE SECOND FORM. 'bulk': how many values and letters a reading holds, each counted each time it is reached (what is shared counts as often as it is met; a slice's spare places count too). A statement '..UptoSaid' is the law's where the arguments, and the package variables that the reading takes, are together of bulk at most 1048576: NARROWER than '..Said'. Prove '..Said' where nothing that the law and all that it calls make is longer than what came in: it says more and counts as full. Else prove '..UptoSaid'. A law counts once. -/
mutual
def uptoBulk {H : Type} : DataW H → Nat
  | .lit (.string bytes) => bytes.length + 1
  | .lit _ => 1
  | .nil => 1
  | .ptr d => uptoBulk d + 1
  | .slice elems spare => uptoBulkAll elems + uptoBulkAll spare + 1
  | .agg parts => uptoBulkAll parts + 1
  | .iface _ d => uptoBulk d + 1
  | .map entries => uptoBulkEntries entries + 1
  | .held _ => 1
def uptoBulkAll {H : Type} : List (DataW H) → Nat
  | [] => 0
  | d :: r => uptoBulk d + uptoBulkAll r
def uptoBulkEntries {H : Type} : List (Lit × DataW H) → Nat
  | [] => 0
  | x :: r => uptoBulkEntry x + uptoBulkEntries r
def uptoBulkEntry {H : Type} : Lit × DataW H → Nat
  | (.string bytes, d) => bytes.length + uptoBulk d + 1
  | (_, d) => uptoBulk d + 1
 end
def uptoSmall : (H : Type) → List (DataW H) → Bool := fun _ ds => decide (uptoBulkAll ds ≤ 1048576)
def OpenSpec.upto (s : _root_.Go.ChangeSpec) : _root_.Go.OpenSpec := { _root_.Go.OpenSpec.ofChange s with cond := some uptoSmall }

/-- 'laws.FnStepsOf', WHERE WHAT IT READS IS OF BULK AT MOST 1048576: true; the input reads as it did. -/
def fnStepsOfUptoRow : OpenClaim := { program := "ytlcegaeioheikaagreat", sum := "31e719453622eaa48ffba4d09377fa4df8d2bc7af7ea2edeb765e8109862b48e", func := "loop.example/refcountml/laws.FnStepsOf", spec := "fnStepsOf", recurses := true, apart := false, narrowed := true }
def FnStepsOfUptoSaid : Prop := fnStepsOfUptoRow.holds Tryz.pinned (OpenSpec.upto fnStepsOfSpec)

/-- 'laws.FnUsesOfRest', WHERE WHAT IT READS IS OF BULK AT MOST 1048576: true; the input reads as it did. -/
def fnUsesOfRestUptoRow : OpenClaim := { program := "ytlcegaeioheikaagreat", sum := "31e719453622eaa48ffba4d09377fa4df8d2bc7af7ea2edeb765e8109862b48e", func := "loop.example/refcountml/laws.FnUsesOfRest", spec := "fnUsesOfRest", unfollowed := true, recurses := true, apart := false, narrowed := true }
def FnUsesOfRestUptoSaid : Prop := fnUsesOfRestUptoRow.holds Tryz.pinned (OpenSpec.upto fnUsesOfRestSpec)

/-- 'laws.FnLastUseNone', WHERE WHAT IT READS IS OF BULK AT MOST 1048576: true; the input reads as it did. -/
def fnLastUseNoneUptoRow : OpenClaim := { program := "ytlcegaeioheikaagreat", sum := "31e719453622eaa48ffba4d09377fa4df8d2bc7af7ea2edeb765e8109862b48e", func := "loop.example/refcountml/laws.FnLastUseNone", spec := "fnLastUseNone", unfollowed := true, recurses := true, apart := false, narrowed := true }
def FnLastUseNoneUptoSaid : Prop := fnLastUseNoneUptoRow.holds Tryz.pinned (OpenSpec.upto fnLastUseNoneSpec)

end Rows
end Go.Proofs.YtlcegaeioheikaaGreat
