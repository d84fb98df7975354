/-
  NARROWER THAN 'FOR EVERY INPUT', by the rows' own cells (each row's printed sentence says how): FnExactBalancedRoutine: loops · FnExactBalanced: loops · FnExactKeptAfter: loops · FnExactOwnedAfter: loops · FnExactAliveAfter: loops.
  DERIVED. THE GIVEN ROWS OF THIS SEAT. 5 by the template 'for every input the law returns true; each argument reads behind the call as it read before'; 0 by the template 'total and deterministic' (their statements: YtojmcdmbkfigaaaGreatTotals.lean).
  GIVEN WITH THE SEED: the statements are not yours to turn. If you find one false, say at which input.
  Laid BY PROGRAM, IN A SANDBOX (cutbox-rows.mjs): the forced cells as the released guide's own fill.sh prints them over the translation 4d91c0573aca6c56… (all of the seat's roots in one cut). By AI agents, Wed Nov 11 2026. No macro, syntax, notation, axiom, sorry.
-/
import Derived.Test.YtojmcdmbkfigaaaGreatChecked
import GoSem.Claim
import GoSem.ClaimJoined
import GoSem.ClaimMapViews
import Derived.JoinedTies
import Derived.KernelRfl
namespace Go.Proofs.YtojmcdmbkfigaaaGreat
/- THE CELL 'sum', in the pinned program and in every row, IS THE sha256 OF THE DUMP (.gsa) THAT YtojmcdmbkfigaaaGreatProg.lean LOADS. Nothing in Lean hashes anything: it is a label: what it is worth is what the hold of that sum in a sandbox is worth. -/
noncomputable def Tryz.pinned : Pinned := { name := "ytojmcdmbkfigaaagreat", sum := "4d91c0573aca6c56c34b10a285d8eda507553a4d5419692c7773a82423511c38", checked := Tryz.checked }
namespace Rows
def none {H : Type} : Left H := { results := [], args := [] }

/-- 'laws.FnExactBalancedRoutine': WHATEVER THE INPUT: true; the input reads as it did. -/
def fnExactBalancedRoutineSpec : ChangeSpec := { name := "fnExactBalancedRoutine", fn := fun _ => fun
  | [d1, d2] => { results := [.lit (.bool true)], args := [d1, d2] }
  | _ => none }
def fnExactBalancedRoutineRow : OpenClaim := { program := "ytojmcdmbkfigaaagreat", sum := "4d91c0573aca6c56c34b10a285d8eda507553a4d5419692c7773a82423511c38", func := "loop.example/refcountml/laws.FnExactBalancedRoutine", spec := "fnExactBalancedRoutine", inPlace := ["slices.overlaps[int]"], unfollowed := true, recurses := true, loops := true, apart := false }
def FnExactBalancedRoutineSaid : Prop := fnExactBalancedRoutineRow.holds Tryz.pinned (OpenSpec.ofChange fnExactBalancedRoutineSpec)

/-- ITS FALSE NEIGHBOUR: 'it returns false'. Refute it at one input. -/
def fnExactBalancedRoutineWrong : ChangeSpec := { name := "fnExactBalancedRoutine", fn := fun _ => fun
  | [d1, d2] => { results := [.lit (.bool false)], args := [d1, d2] }
  | _ => none }
def FnExactBalancedRoutineWrongFalsely : Prop := fnExactBalancedRoutineRow.holds Tryz.pinned (OpenSpec.ofChange fnExactBalancedRoutineWrong)

/-- 'laws.FnExactBalanced': WHATEVER THE INPUT: true; the input reads as it did. -/
def fnExactBalancedSpec : ChangeSpec := { name := "fnExactBalanced", fn := fun _ => fun
  | [d] => { results := [.lit (.bool true)], args := [d] }
  | _ => none }
def fnExactBalancedRow : OpenClaim := { program := "ytojmcdmbkfigaaagreat", sum := "4d91c0573aca6c56c34b10a285d8eda507553a4d5419692c7773a82423511c38", func := "loop.example/refcountml/laws.FnExactBalanced", spec := "fnExactBalanced", inPlace := ["slices.overlaps[int]"], unfollowed := true, recurses := true, loops := true, apart := false }
def FnExactBalancedSaid : Prop := fnExactBalancedRow.holds Tryz.pinned (OpenSpec.ofChange fnExactBalancedSpec)

/-- ITS FALSE NEIGHBOUR: 'it returns false'. Refute it at one input. -/
def fnExactBalancedWrong : ChangeSpec := { name := "fnExactBalanced", fn := fun _ => fun
  | [d] => { results := [.lit (.bool false)], args := [d] }
  | _ => none }
def FnExactBalancedWrongFalsely : Prop := fnExactBalancedRow.holds Tryz.pinned (OpenSpec.ofChange fnExactBalancedWrong)

/-- 'laws.FnExactKeptAfter': WHATEVER THE INPUT: true; the input reads as it did. -/
def fnExactKeptAfterSpec : ChangeSpec := { name := "fnExactKeptAfter", fn := fun _ => fun
  | [d1, d2, d3] => { results := [.lit (.bool true)], args := [d1, d2, d3] }
  | _ => none }
def fnExactKeptAfterRow : OpenClaim := { program := "ytojmcdmbkfigaaagreat", sum := "4d91c0573aca6c56c34b10a285d8eda507553a4d5419692c7773a82423511c38", func := "loop.example/refcountml/laws.FnExactKeptAfter", spec := "fnExactKeptAfter", inPlace := ["slices.overlaps[int]"], unfollowed := true, recurses := true, loops := true, apart := false }
def FnExactKeptAfterSaid : Prop := fnExactKeptAfterRow.holds Tryz.pinned (OpenSpec.ofChange fnExactKeptAfterSpec)

/-- ITS FALSE NEIGHBOUR: 'it returns false'. Refute it at one input. -/
def fnExactKeptAfterWrong : ChangeSpec := { name := "fnExactKeptAfter", fn := fun _ => fun
  | [d1, d2, d3] => { results := [.lit (.bool false)], args := [d1, d2, d3] }
  | _ => none }
def FnExactKeptAfterWrongFalsely : Prop := fnExactKeptAfterRow.holds Tryz.pinned (OpenSpec.ofChange fnExactKeptAfterWrong)

/-- 'laws.FnExactOwnedAfter': WHATEVER THE INPUT: true; the input reads as it did. -/
def fnExactOwnedAfterSpec : ChangeSpec := { name := "fnExactOwnedAfter", fn := fun _ => fun
  | [d1, d2, d3] => { results := [.lit (.bool true)], args := [d1, d2, d3] }
  | _ => none }
def fnExactOwnedAfterRow : OpenClaim := { program := "ytojmcdmbkfigaaagreat", sum := "4d91c0573aca6c56c34b10a285d8eda507553a4d5419692c7773a82423511c38", func := "loop.example/refcountml/laws.FnExactOwnedAfter", spec := "fnExactOwnedAfter", inPlace := ["slices.overlaps[int]"], unfollowed := true, recurses := true, loops := true, apart := false }
def FnExactOwnedAfterSaid : Prop := fnExactOwnedAfterRow.holds Tryz.pinned (OpenSpec.ofChange fnExactOwnedAfterSpec)

/-- ITS FALSE NEIGHBOUR: 'it returns false'. Refute it at one input. -/
def fnExactOwnedAfterWrong : ChangeSpec := { name := "fnExactOwnedAfter", fn := fun _ => fun
  | [d1, d2, d3] => { results := [.lit (.bool false)], args := [d1, d2, d3] }
  | _ => none }
def FnExactOwnedAfterWrongFalsely : Prop := fnExactOwnedAfterRow.holds Tryz.pinned (OpenSpec.ofChange fnExactOwnedAfterWrong)

/-- 'laws.FnExactAliveAfter': WHATEVER THE INPUT: true; the input reads as it did. -/
def fnExactAliveAfterSpec : ChangeSpec := { name := "fnExactAliveAfter", fn := fun _ => fun
  | [d1, d2, d3] => { results := [.lit (.bool true)], args := [d1, d2, d3] }
  | _ => none }
def fnExactAliveAfterRow : OpenClaim := { program := "ytojmcdmbkfigaaagreat", sum := "4d91c0573aca6c56c34b10a285d8eda507553a4d5419692c7773a82423511c38", func := "loop.example/refcountml/laws.FnExactAliveAfter", spec := "fnExactAliveAfter", inPlace := ["slices.overlaps[int]"], unfollowed := true, recurses := true, loops := true, apart := false }
def FnExactAliveAfterSaid : Prop := fnExactAliveAfterRow.holds Tryz.pinned (OpenSpec.ofChange fnExactAliveAfterSpec)

/-- ITS FALSE NEIGHBOUR: 'it returns false'. Refute it at one input. -/
def fnExactAliveAfterWrong : ChangeSpec := { name := "fnExactAliveAfter", fn := fun _ => fun
  | [d1, d2, d3] => { results := [.lit (.bool false)], args := [d1, d2, d3] }
  | _ => none }
def FnExactAliveAfterWrongFalsely : Prop := fnExactAliveAfterRow.holds Tryz.pinned (OpenSpec.ofChange fnExactAliveAfterWrong)

/- THE SECOND FORM. 'bulk': how many values and letters a reading holds, each counted each time it is reached (what is shared counts as often as it is met; a slice's spare places count too). A statement '..UptoSaid' is the law's where the arguments, and the package variables that the reading takes, are together of bulk at most 1048576: NARROWER than '..Said'. Prove '..Said' where nothing that the law and all that it calls make is longer than what came in: it says more and counts as full. Else prove '..UptoSaid'. A law counts once. -/
mutual
def uptoBulk {H : Type} : DataW H → Nat
  | .lit (.string bytes) => bytes.length + 1
  | .lit _ => 1
  | .nil => 1
  | .ptr d => uptoBulk d + 1
  | .slice elems spare => uptoBulkAll elems + uptoBulkAll spare + 1
  | .agg parts => uptoBulkAll parts + 1
  | .iface _ d => uptoBulk d + 1
  | .map entries => uptoBulkEntries entries + 1
  | .held _ => 1
def uptoBulkAll {H : Type} : List (DataW H) → Nat
  | [] => 0
  | d :: r => uptoBulk d + uptoBulkAll r
def uptoBulkEntries {H : Type} : List (Lit × DataW H) → Nat
  | [] => 0
  | x :: r => uptoBulkEntry x + uptoBulkEntries r
def uptoBulkEntry {H : Type} : Lit × DataW H → Nat
  | (.string bytes, d) => bytes.length + uptoBulk d + 1
  | (_, d) => uptoBulk d + 1
 end
def uptoSmall : (H : Type) → List (DataW H) → Bool := fun _ ds => decide (uptoBulkAll ds ≤ 1048576)
def OpenSpec.upto (s : _root_.Go.ChangeSpec) : _root_.Go.OpenSpec := { _root_.Go.OpenSpec.ofChange s with cond := some uptoSmall }

/-- 'laws.FnExactBalancedRoutine', WHERE WHAT IT READS IS OF BULK AT MOST 1048576: true; the input reads as it did. -/
def fnExactBalancedRoutineUptoRow : OpenClaim := { program := "ytojmcdmbkfigaaagreat", sum := "4d91c0573aca6c56c34b10a285d8eda507553a4d5419692c7773a82423511c38", func := "loop.example/refcountml/laws.FnExactBalancedRoutine", spec := "fnExactBalancedRoutine", inPlace := ["slices.overlaps[int]"], unfollowed := true, recurses := true, loops := true, apart := false, narrowed := true }
def FnExactBalancedRoutineUptoSaid : Prop := fnExactBalancedRoutineUptoRow.holds Tryz.pinned (OpenSpec.upto fnExactBalancedRoutineSpec)

/-- 'laws.FnExactBalanced', WHERE WHAT IT READS IS OF BULK AT MOST 1048576: true; the input reads as it did. -/
def fnExactBalancedUptoRow : OpenClaim := { program := "ytojmcdmbkfigaaagreat", sum := "4d91c0573aca6c56c34b10a285d8eda507553a4d5419692c7773a82423511c38", func := "loop.example/refcountml/laws.FnExactBalanced", spec := "fnExactBalanced", inPlace := ["slices.overlaps[int]"], unfollowed := true, recurses := true, loops := true, apart := false, narrowed := true }
def FnExactBalancedUptoSaid : Prop := fnExactBalancedUptoRow.holds Tryz.pinned (OpenSpec.upto fnExactBalancedSpec)

/-- 'laws.FnExactKeptAfter', WHERE WHAT IT READS IS OF BULK AT MOST 1048576: true; the input reads as it did. -/
def fnExactKeptAfterUptoRow : OpenClaim := { program := "ytojmcdmbkfigaaagreat", sum := "4d91c0573aca6c56c34b10a285d8eda507553a4d5419692c7773a82423511c38", func := "loop.example/refcountml/laws.FnExactKeptAfter", spec := "fnExactKeptAfter", inPlace := ["slices.overlaps[int]"], unfollowed := true, recurses := true, loops := true, apart := false, narrowed := true }
def FnExactKeptAfterUptoSaid : Prop := fnExactKeptAfterUptoRow.holds Tryz.pinned (OpenSpec.upto fnExactKeptAfterSpec)

/-- 'laws.FnExactOwnedAfter', WHERE WHAT IT READS IS OF BULK AT MOST 1048576: true; the input reads as it did. -/
def fnExactOwnedAfterUptoRow : OpenClaim := { program := "ytojmcdmbkfigaaagreat", sum := "4d91c0573aca6c56c34b10a285d8eda507553a4d5419692c7773a82423511c38", func := "loop.example/refcountml/laws.FnExactOwnedAfter", spec := "fnExactOwnedAfter", inPlace := ["slices.overlaps[int]"], unfollowed := true, recurses := true, loops := true, apart := false, narrowed := true }
def FnExactOwnedAfterUptoSaid : Prop := fnExactOwnedAfterUptoRow.holds Tryz.pinned (OpenSpec.upto fnExactOwnedAfterSpec)

/-- 'laws.FnExactAliveAfter', WHERE WHAT IT READS IS OF BULK AT MOST 1048576: true; the input reads as it did. -/
def fnExactAliveAfterUptoRow : OpenClaim := { program := "ytojmcdmbkfigaaagreat", sum := "4d91c0573aca6c56c34b10a285d8eda507553a4d5419692c7773a82423511c38", func := "loop.example/refcountml/laws.FnExactAliveAfter", spec := "fnExactAliveAfter", inPlace := ["slices.overlaps[int]"], unfollowed := true, recurses := true, loops := true, apart := false, narrowed := true }
def FnExactAliveAfterUptoSaid : Prop := fnExactAliveAfterUptoRow.holds Tryz.pinned (OpenSpec.upto fnExactAliveAfterSpec)

end Rows
end Go.Proofs.YtojmcdmbkfigaaaGreat
