/- Part of the proofs about the heaps and memories: a law is joined in the text whose name ends in W and the law. -/
import Derived.Test.YtelgbndeeccblaaGreatDoorEH1
namespace Go.Vc
open Go
set_option linter.all false

structure LazyD where
 cells : List CellD
 pend : List Int
abbrev free0 : CellD := ⟨0, 0, []⟩
def cntF (ws : List Int) (k : Int) : Int := (ws.count (1000 + k) : Nat)
theorem cntF_cons (f : Int) (r : List Int) (k : Int) : cntF (f :: r) k = (if f = 1000 + k then 1 else 0) + cntF r k := by
 simp only [cntF, List.count_cons, beq_iff_eq]
 split <;> simp <;> omega
def AcycP (h : List CellD) : Prop := ∃ rk : Nat → Nat, ∀ k : Int, 0 ≤ k → k < h.length → ∀ f ∈ (nth h k).fields, 1000 ≤ f → rk (f - 1000).toNat < rk k.toNat

structure LZ (h : List CellD) (pend todo : List Int) : Prop where
 pr : ∀ p ∈ pend, 0 ≤ p ∧ p < h.length ∧ (nth h p).count = 0
 pn : pend.Nodup
 cell : ∀ c ∈ h, 0 ≤ c.count ∧ c.count ≤ 999999 ∧ c.fields.length ≤ 3 ∧ 0 ≤ c.tag ∧ c.tag ≤ 99
 free : ∀ k : Int, 0 ≤ k → k < h.length → (nth h k).count = 0 → k ∉ pend → nth h k = free0
 ptr : wordsOk h
 ptrT : ∀ f ∈ todo, word h f = true
 cnt : ∀ k : Int, 0 ≤ k → k < h.length → 0 < (nth h k).count → cntF (words h) k + cntF todo k ≤ (nth h k).count
 acyc : AcycP h
end Go.Vc

namespace Go.Vc
open Go
set_option linter.all false

section
variable {h : List CellD} {pend todo r : List Int} {f p : Int}

theorem LZ.skip (L : LZ h pend (f :: todo)) (hf : ¬ 1000 ≤ f) : LZ h pend todo :=
 ⟨L.pr, L.pn, L.cell, L.free, L.ptr, fun g hg => L.ptrT g (List.mem_cons_of_mem _ hg), fun k k0 k1 hc => by
  have := L.cnt k k0 k1 hc
  rw [cntF_cons, if_neg (by omega)] at this
  omega, L.acyc⟩

theorem LZ.head (L : LZ h pend (f :: todo)) (hf : 1000 ≤ f) : live h f = true := word_ptr (L.ptrT f List.mem_cons_self) hf

end
end Go.Vc

namespace Go.Vc
open Go
set_option linter.all false

/-- z' is z with more free cells behind -/
structure Ext (z z' : LazyD) : Prop where
 cells : ∃ n, z'.cells = z.cells ++ List.replicate n free0
 pend : z'.pend = z.pend
 pin : ∀ p ∈ z.pend, 0 ≤ p ∧ p < z.cells.length

section
variable {z z' : LazyD}
theorem Ext.len (E : Ext z z') : z.cells.length ≤ z'.cells.length := by obtain ⟨n, e⟩ := E.cells; rw [e]; simp
end
end Go.Vc

namespace Go.Vc
open Go
set_option linter.all false

end Go.Vc
