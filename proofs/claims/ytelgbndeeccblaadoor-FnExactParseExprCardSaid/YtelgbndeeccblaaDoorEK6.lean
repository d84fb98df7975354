/- Part of the proofs about the heaps and memories: a law is joined in the text whose name ends in W and the law. -/
import Derived.Test.YtelgbndeeccblaaDoorEK5
namespace Go.Vc
open Go Go.Proofs Go.RowKit
set_option linter.all false
section
variable {u v w : World} {x y xf s t : Sl} {l ws fs ns : List Int} {b m n k f e i : Int} {a : Addr} {I J K L R : Items}
end
end Go.Vc

namespace Go.Vc
open Go Go.Proofs Go.RowKit
set_option linter.all false
section
variable {u v w : World} {x y xf s t : Sl} {l ws fs ns : List Int} {b m n k f e i : Int} {a : Addr} {I J K L R : Items}
end
end Go.Vc

namespace Go.Vc
open Go Go.Proofs Go.RowKit
set_option linter.all false

/-- small declarations -/
structure SmDs (ds : List DeclD) : Prop where
 len : ds.length ≤ 4
 cons : ∀ d ∈ ds, d.cons.length ≤ 3
section
variable {ds : List DeclD} {c i j n : Int}
theorem firstC_le (h : ∀ d ∈ ds, d.cons.length ≤ 3) : ∀ n : Nat, firstC ds n ≤ 3 * n
 | 0 => by simp [firstC]
 | n + 1 => by
  have ih := firstC_le h n
  by_cases hn : n < ds.length
  ·have := firstC_succ (ds := ds) (i := n) (by omega) (by omega)
   rw [show ((n : Int) + 1).toNat = n + 1 from by omega, show ((n : Int)).toNat = n from by omega] at this
   have := h _ (nth_mem (l := ds) (i := n) (by omega) (by omega))
   omega
  ·have : firstC ds (n + 1) = firstC ds n := by unfold firstC; rw [List.take_of_length_le (by omega), List.take_of_length_le (by omega)]
   omega
theorem SmDs.fc (h : SmDs ds) (n : Nat) (hn : n ≤ ds.length) : firstC ds n ≤ 12 := by
 have := firstC_le h.cons n
 have := h.len
 omega
theorem SmDs.hb (h : SmDs ds) : ∀ i : Int, 0 ≤ i → i ≤ ds.length → (firstC ds i.toNat : Int) ≤ 1000000000 := fun i i0 i1 => by
 have := h.fc i.toNat (by omega); omega
theorem SmDs.hb' (h : SmDs ds) : ∀ i : Int, 0 ≤ i → i ≤ ds.length → (firstC ds i.toNat : Int) ≤ 1000000 * 1000000 := fun i i0 i1 => by
 have := h.fc i.toNat (by omega); omega
end
section
variable {u v w : World} {x y xf s t : Sl} {l ws fs ps ls : List Int} {ds : List DeclD} {b m n k f a e i : Int}
end
end Go.Vc

namespace Go.Vc
open Go Go.Proofs Go.RowKit
set_option linter.all false

section
variable {u v w : World} {x y z xf s t : Sl} {l ws fs ps ls : List Int} {ds : List DeclD} {ss : List SigD} {b m n k f a e i op num regs at_ end_ : Int} {c : InstrD} {jl : Nat} {q : Bool}
end
end Go.Vc

namespace Go.Vc
open Go Go.Proofs Go.RowKit
set_option linter.all false
section
variable {ds : List DeclD} {ss : List SigD} {at_ end_ op num : Int} {jl : Nat}
end
section
variable {u v w : World} {x y z xf s t cx px pl : Sl} {l ws fs ls : List Int} {ds : List DeclD} {ss : List SigD} {ps : List ProcD} {b m n k f a e i op num regs at_ end_ n1 : Int} {c : InstrD} {code : List InstrD} {jl : Nat} {q : Bool}
set_option maxHeartbeats 1600000 in
end
end Go.Vc

namespace Go.Vc
open Go Go.Proofs Go.RowKit
set_option linter.all false
/-- a function's signature in a program that has nothing else -/
structure FuncD where
 params : List Int
 result : Int
instance : Inhabited FuncD := ⟨⟨[], 0⟩⟩
instance : Dat FuncD where
 sz := 5
 cells B w cs c := ∃ f : Sl, cs = [f.val, intV c.result, intV 0, intV 0, .slice none 0 0] ∧ InI c.result ∧ ReadB B w f c.params
 mono := fun hs ⟨f, h0, i, r⟩ => ⟨f, h0, i, r.mono hs⟩
 len := fun ⟨f, h0, _⟩ => by rw [h0]; rfl
 one := fun ⟨f, h0, _⟩ v hv => by
  rw [h0] at hv; simp only [List.mem_cons, List.not_mem_nil, or_false] at hv
  rcases hv with rfl | rfl | rfl | rfl | rfl <;> rfl
instance : SlT Tryd.prog 81 5 72 [.slice none 0 0, intV 0, intV 0, intV 0, .slice none 0 0] := .of (by kernel_rfl) rfl (by decide)
section
variable {u v w : World} {x y z xf s t cx px pl : Sl} {l ws fs ls : List Int} {ds : List DeclD} {ss : List SigD} {ps : List ProcD} {gs : List FuncD} {b m n k f a e i op num regs at_ end_ n1 : Int} {c : InstrD} {p : ProcD} {code : List InstrD} {jl : Nat} {q : Bool}
end
end Go.Vc
