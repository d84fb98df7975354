/-
  No cell of these rows narrows 'for every input' (looked for: loops, veiled, ifaces, maps, wideKeys, modest, calm, conditions, laid).
  DERIVED. THE GIVEN ROWS OF THIS SEAT. 4 by the template 'for every input the law returns true; each argument reads behind the call as it read before'; 0 by the template 'total and deterministic' (their statements: YtgabmgfbolhbbaaGreatTotals.lean).
  GIVEN WITH THE SEED: the statements are not yours to turn. If you find one false, say at which input.
  Laid BY PROGRAM, IN A SANDBOX (cutbox-rows.mjs): the forced cells as the released guide's own fill.sh prints them over the translation a436ead52ec59eff… (all of the seat's roots in one cut). By AI agents, Wed Nov 11 2026. No macro, syntax, notation, axiom, sorry.
-/
import Derived.Test.YtgabmgfbolhbbaaGreatChecked
import GoSem.Claim
import GoSem.ClaimJoined
import GoSem.ClaimMapViews
import Derived.JoinedTies
import Derived.KernelRfl
namespace Go.Proofs.YtgabmgfbolhbbaaGreat
/- THE CELL 'sum', in the pinned program and in every row, IS THE sha256 OF THE DUMP (.gsa) THAT YtgabmgfbolhbbaaGreatProg.lean LOADS. Nothing in Lean hashes anything: it is a label: what it is worth is what the hold of that sum in a sandbox is worth. -/
noncomputable def Tryz.pinned : Pinned := { name := "ytgabmgfbolhbbaagreat", sum := "a436ead52ec59effa15625079754f79179b90e8984042134cb17b886b711ba41", checked := Tryz.checked }
namespace Rows
def none {H : Type} : Left H := { results := [], args := [] }

/-- 'laws.FnExactVerifiedProc': WHATEVER THE INPUT: true; the input reads as it did. -/
def fnExactVerifiedProcSpec : ChangeSpec := { name := "fnExactVerifiedProc", fn := fun _ => fun
  | [d1, d2] => { results := [.lit (.bool true)], args := [d1, d2] }
  | _ => none }
def fnExactVerifiedProcRow : OpenClaim := { program := "ytgabmgfbolhbbaagreat", sum := "a436ead52ec59effa15625079754f79179b90e8984042134cb17b886b711ba41", func := "loop.example/refcountml/laws.FnExactVerifiedProc", spec := "fnExactVerifiedProc", unfollowed := true, recurses := true, apart := false }
def FnExactVerifiedProcSaid : Prop := fnExactVerifiedProcRow.holds Tryz.pinned (OpenSpec.ofChange fnExactVerifiedProcSpec)

/-- ITS FALSE NEIGHBOUR: 'it returns false'. Refute it at one input. -/
def fnExactVerifiedProcWrong : ChangeSpec := { name := "fnExactVerifiedProc", fn := fun _ => fun
  | [d1, d2] => { results := [.lit (.bool false)], args := [d1, d2] }
  | _ => none }
def FnExactVerifiedProcWrongFalsely : Prop := fnExactVerifiedProcRow.holds Tryz.pinned (OpenSpec.ofChange fnExactVerifiedProcWrong)

/-- 'laws.FnExactVerified': WHATEVER THE INPUT: true; the input reads as it did. -/
def fnExactVerifiedSpec : ChangeSpec := { name := "fnExactVerified", fn := fun _ => fun
  | [d] => { results := [.lit (.bool true)], args := [d] }
  | _ => none }
def fnExactVerifiedRow : OpenClaim := { program := "ytgabmgfbolhbbaagreat", sum := "a436ead52ec59effa15625079754f79179b90e8984042134cb17b886b711ba41", func := "loop.example/refcountml/laws.FnExactVerified", spec := "fnExactVerified", unfollowed := true, recurses := true, apart := false }
def FnExactVerifiedSaid : Prop := fnExactVerifiedRow.holds Tryz.pinned (OpenSpec.ofChange fnExactVerifiedSpec)

/-- ITS FALSE NEIGHBOUR: 'it returns false'. Refute it at one input. -/
def fnExactVerifiedWrong : ChangeSpec := { name := "fnExactVerified", fn := fun _ => fun
  | [d] => { results := [.lit (.bool false)], args := [d] }
  | _ => none }
def FnExactVerifiedWrongFalsely : Prop := fnExactVerifiedRow.holds Tryz.pinned (OpenSpec.ofChange fnExactVerifiedWrong)

/-- 'laws.FnExactOwnsAt': WHATEVER THE INPUT: true; the input reads as it did. -/
def fnExactOwnsAtSpec : ChangeSpec := { name := "fnExactOwnsAt", fn := fun _ => fun
  | [d1, d2, d3] => { results := [.lit (.bool true)], args := [d1, d2, d3] }
  | _ => none }
def fnExactOwnsAtRow : OpenClaim := { program := "ytgabmgfbolhbbaagreat", sum := "a436ead52ec59effa15625079754f79179b90e8984042134cb17b886b711ba41", func := "loop.example/refcountml/laws.FnExactOwnsAt", spec := "fnExactOwnsAt", unfollowed := true, recurses := true, apart := false }
def FnExactOwnsAtSaid : Prop := fnExactOwnsAtRow.holds Tryz.pinned (OpenSpec.ofChange fnExactOwnsAtSpec)

/-- ITS FALSE NEIGHBOUR: 'it returns false'. Refute it at one input. -/
def fnExactOwnsAtWrong : ChangeSpec := { name := "fnExactOwnsAt", fn := fun _ => fun
  | [d1, d2, d3] => { results := [.lit (.bool false)], args := [d1, d2, d3] }
  | _ => none }
def FnExactOwnsAtWrongFalsely : Prop := fnExactOwnsAtRow.holds Tryz.pinned (OpenSpec.ofChange fnExactOwnsAtWrong)

/-- 'laws.FnExactTypesAt': WHATEVER THE INPUT: true; the input reads as it did. -/
def fnExactTypesAtSpec : ChangeSpec := { name := "fnExactTypesAt", fn := fun _ => fun
  | [d1, d2, d3] => { results := [.lit (.bool true)], args := [d1, d2, d3] }
  | _ => none }
def fnExactTypesAtRow : OpenClaim := { program := "ytgabmgfbolhbbaagreat", sum := "a436ead52ec59effa15625079754f79179b90e8984042134cb17b886b711ba41", func := "loop.example/refcountml/laws.FnExactTypesAt", spec := "fnExactTypesAt", unfollowed := true, recurses := true, apart := false }
def FnExactTypesAtSaid : Prop := fnExactTypesAtRow.holds Tryz.pinned (OpenSpec.ofChange fnExactTypesAtSpec)

/-- ITS FALSE NEIGHBOUR: 'it returns false'. Refute it at one input. -/
def fnExactTypesAtWrong : ChangeSpec := { name := "fnExactTypesAt", fn := fun _ => fun
  | [d1, d2, d3] => { results := [.lit (.bool false)], args := [d1, d2, d3] }
  | _ => none }
def FnExactTypesAtWrongFalsely : Prop := fnExactTypesAtRow.holds Tryz.pinned (OpenSpec.ofChange fnExactTypesAtWrong)

/- THE SECOND FORM. 'bulk': how many values and letters a reading holds, each counted each time it is reached (what is shared counts as often as it is met; a slice's spare places count too). A statement '..UptoSaid' is the law's where the arguments, and the package variables that the reading takes, are together of bulk at most 1048576: NARROWER than '..Said'. Prove '..Said' where nothing that the law and all that it calls make is longer than what came in: it says more and counts as full. Else prove '..UptoSaid'. A law counts once. -/
mutual
def uptoBulk {H : Type} : DataW H → Nat
  | .lit (.string bytes) => bytes.length + 1
  | .lit _ => 1
  | .nil => 1
  | .ptr d => uptoBulk d + 1
  | .slice elems spare => uptoBulkAll elems + uptoBulkAll spare + 1
  | .agg parts => uptoBulkAll parts + 1
  | .iface _ d => uptoBulk d + 1
  | .map entries => uptoBulkEntries entries + 1
  | .held _ => 1
def uptoBulkAll {H : Type} : List (DataW H) → Nat
  | [] => 0
  | d :: r => uptoBulk d + uptoBulkAll r
def uptoBulkEntries {H : Type} : List (Lit × DataW H) → Nat
  | [] => 0
  | x :: r => uptoBulkEntry x + uptoBulkEntries r
def uptoBulkEntry {H : Type} : Lit × DataW H → Nat
  | (.string bytes, d) => bytes.length + uptoBulk d + 1
  | (_, d) => uptoBulk d + 1
 end
def uptoSmall : (H : Type) → List (DataW H) → Bool := fun _ ds => decide (uptoBulkAll ds ≤ 1048576)
def OpenSpec.upto (s : _root_.Go.ChangeSpec) : _root_.Go.OpenSpec := { _root_.Go.OpenSpec.ofChange s with cond := some uptoSmall }

/-- 'laws.FnExactVerifiedProc', WHERE WHAT IT READS IS OF BULK AT MOST 1048576: true; the input reads as it did. -/
def fnExactVerifiedProcUptoRow : OpenClaim := { program := "ytgabmgfbolhbbaagreat", sum := "a436ead52ec59effa15625079754f79179b90e8984042134cb17b886b711ba41", func := "loop.example/refcountml/laws.FnExactVerifiedProc", spec := "fnExactVerifiedProc", unfollowed := true, recurses := true, apart := false, narrowed := true }
def FnExactVerifiedProcUptoSaid : Prop := fnExactVerifiedProcUptoRow.holds Tryz.pinned (OpenSpec.upto fnExactVerifiedProcSpec)

/-- 'laws.FnExactVerified', WHERE WHAT IT READS IS OF BULK AT MOST 1048576: true; the input reads as it did. -/
def fnExactVerifiedUptoRow : OpenClaim := { program := "ytgabmgfbolhbbaagreat", sum := "a436ead52ec59effa15625079754f79179b90e8984042134cb17b886b711ba41", func := "loop.example/refcountml/laws.FnExactVerified", spec := "fnExactVerified", unfollowed := true, recurses := true, apart := false, narrowed := true }
def FnExactVerifiedUptoSaid : Prop := fnExactVerifiedUptoRow.holds Tryz.pinned (OpenSpec.upto fnExactVerifiedSpec)

/-- 'laws.FnExactOwnsAt', WHERE WHAT IT READS IS OF BULK AT MOST 1048576: true; the input reads as it did. -/
def fnExactOwnsAtUptoRow : OpenClaim := { program := "ytgabmgfbolhbbaagreat", sum := "a436ead52ec59effa15625079754f79179b90e8984042134cb17b886b711ba41", func := "loop.example/refcountml/laws.FnExactOwnsAt", spec := "fnExactOwnsAt", unfollowed := true, recurses := true, apart := false, narrowed := true }
def FnExactOwnsAtUptoSaid : Prop := fnExactOwnsAtUptoRow.holds Tryz.pinned (OpenSpec.upto fnExactOwnsAtSpec)

/-- 'laws.FnExactTypesAt', WHERE WHAT IT READS IS OF BULK AT MOST 1048576: true; the input reads as it did. -/
def fnExactTypesAtUptoRow : OpenClaim := { program := "ytgabmgfbolhbbaagreat", sum := "a436ead52ec59effa15625079754f79179b90e8984042134cb17b886b711ba41", func := "loop.example/refcountml/laws.FnExactTypesAt", spec := "fnExactTypesAt", unfollowed := true, recurses := true, apart := false, narrowed := true }
def FnExactTypesAtUptoSaid : Prop := fnExactTypesAtUptoRow.holds Tryz.pinned (OpenSpec.upto fnExactTypesAtSpec)

end Rows
end Go.Proofs.YtgabmgfbolhbbaaGreat
