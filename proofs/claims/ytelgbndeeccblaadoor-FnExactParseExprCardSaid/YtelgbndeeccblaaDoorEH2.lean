/- Part of the proofs about the heaps and memories: a law is joined in the text whose name ends in W and the law. -/
import Derived.Test.YtelgbndeeccblaaDoorEH1
import Derived.Test.YtelgbndeeccblaaDoorEE4
namespace Go.Vc
open Go
set_option linter.all false

structure LazyD where
 cells : List CellD
 pend : List Int
abbrev free0 : CellD := ⟨0, 0, []⟩
def cntF (ws : List Int) (k : Int) : Int := (ws.count (1000 + k) : Nat)
theorem cntF_cons (f : Int) (r : List Int) (k : Int) : cntF (f :: r) k = (if f = 1000 + k then 1 else 0) + cntF r k := by
 simp only [cntF, List.count_cons, beq_iff_eq]
 split <;> simp <;> omega
def AcycP (h : List CellD) : Prop := ∃ rk : Nat → Nat, ∀ k : Int, 0 ≤ k → k < h.length → ∀ f ∈ (nth h k).fields, 1000 ≤ f → rk (f - 1000).toNat < rk k.toNat

structure LZ (h : List CellD) (pend todo : List Int) : Prop where
 pr : ∀ p ∈ pend, 0 ≤ p ∧ p < h.length ∧ (nth h p).count = 0
 pn : pend.Nodup
 cell : ∀ c ∈ h, 0 ≤ c.count ∧ c.count ≤ 999999 ∧ c.fields.length ≤ 3 ∧ 0 ≤ c.tag ∧ c.tag ≤ 99
 free : ∀ k : Int, 0 ≤ k → k < h.length → (nth h k).count = 0 → k ∉ pend → nth h k = free0
 ptr : wordsOk h
 ptrT : ∀ f ∈ todo, word h f = true
 cnt : ∀ k : Int, 0 ≤ k → k < h.length → 0 < (nth h k).count → cntF (words h) k + cntF todo k ≤ (nth h k).count
 acyc : AcycP h
end Go.Vc

namespace Go.Vc
open Go
set_option linter.all false

section
variable {h : List CellD} {pend todo r : List Int} {f p : Int}

theorem LZ.skip (L : LZ h pend (f :: todo)) (hf : ¬ 1000 ≤ f) : LZ h pend todo :=
 ⟨L.pr, L.pn, L.cell, L.free, L.ptr, fun g hg => L.ptrT g (List.mem_cons_of_mem _ hg), fun k k0 k1 hc => by
  have := L.cnt k k0 k1 hc
  rw [cntF_cons, if_neg (by omega)] at this
  omega, L.acyc⟩

theorem LZ.head (L : LZ h pend (f :: todo)) (hf : 1000 ≤ f) : live h f = true := word_ptr (L.ptrT f List.mem_cons_self) hf

end
end Go.Vc

namespace Go.Vc
open Go
set_option linter.all false

/-- z' is z with more free cells behind -/
structure Ext (z z' : LazyD) : Prop where
 cells : ∃ n, z'.cells = z.cells ++ List.replicate n free0
 pend : z'.pend = z.pend
 pin : ∀ p ∈ z.pend, 0 ≤ p ∧ p < z.cells.length

section
variable {z z' : LazyD}
theorem Ext.len (E : Ext z z') : z.cells.length ≤ z'.cells.length := by obtain ⟨n, e⟩ := E.cells; rw [e]; simp
end
end Go.Vc

namespace Go.Vc
open Go
set_option linter.all false

end Go.Vc

namespace Go.Vc
open Go Go.RowKit
set_option linter.all false

section
variable {P : Program} {t tn ty e : TypeId} {i : TypeInfo} {z : Value}
end

section
variable {α : Type} {P : Program} {u w w' : World} {x y : Sl} {l ns : List Int} {L I R : Items} {F : Items → Items} {t tn ty : TypeId}

theorem Own.rowsI (h : Own u x l I) : OSl 1 x (l.map fun n => [intV n]) I ∧ (∀ n ∈ l, InI n) := by
 obtain ⟨rows, h1, h2, h3⟩ := h
 have e : rows = l.map fun n => [intV n] := by
  apply List.ext_getElem
  ·simpa using h2.1
  ·intro i i1 i2
   have := h2.2 i _ _ (List.getElem?_eq_getElem i1) (List.getElem?_eq_getElem (by simpa using i2))
   simpa using this.1
 subst e
 refine ⟨h1, fun n hn => ?_⟩
 obtain ⟨i, hi, rfl⟩ := List.getElem_of_mem hn
 exact (h2.2 i [intV l[i]] l[i] (by simp [hi]) (List.getElem?_eq_getElem hi)).2
theorem Own.ofRows (h : OSl 1 x (l.map fun n => [intV n]) I) (hl : l.length ≤ 1099511627776) (hi : ∀ n ∈ l, InI n) : Own u x l I :=
 ⟨_, h, ⟨by simp, fun i r a hr ha => by
  rw [List.getElem?_map, ha] at hr
  simp at hr
  exact ⟨hr.symm, hi a (List.mem_of_getElem? ha)⟩⟩, hl⟩

/-- a range is stored -/
theorem Own.range (h : Own u x l I) (hS : St u w L) [p : Pos I L R F] {lo : Int} (h0 : 0 ≤ lo) (h1 : lo + ns.length ≤ l.length) (hn : ∀ n ∈ ns, InI n) (hpos : 0 < ns.length) :
  CanSet w (elA x lo 1) 0 (ns.map intV) ∧ ∃ I', Own u x (l.take lo.toNat ++ ns ++ l.drop (lo.toNat + ns.length)) I' ∧ St u (setCellsW w (elA x lo 1) 0 (ns.map intV)) (F I') := by
 obtain ⟨hr, hin⟩ := h.rowsI
 have hle := h.le
 have hln : (l.map fun n => [intV n]).length = l.length := by simp
 generalize hrows : (l.map fun n => [intV n]) = rows at *
 cases hr with
 | nil => simp at hln; omega
 | blk g o n c cur e _ hnn hc hm hs hrow =>
  have hA := (hS.items (I := [(g, .cells cur e (0, 0))]) (g, .cells cur e (0, 0)) (by simp)).1
  rw [elA_blk]
  have ea : (⟨g, o + lo.toNat * 1, none⟩ : Addr) = (⟨g, 0, none⟩ : Addr).add (o + lo.toNat) := by rw [box_add]; simp
  rw [ea, setCellsW_add, Nat.add_zero]
  have hfit : o + lo.toNat + (ns.map intV).length ≤ cur.size := by simp; omega
  obtain ⟨c', c1, c2, c3, c4, c5⟩ := setCellsW_blk (k := o + lo.toNat) (l := ns.map intV) hA hfit
  refine ⟨canSet_add _ _ _ _ _ (by rw [Nat.add_zero]; exact canSet_blk hA _ _ (by omega)), [(g, .cells c' e (0, 0))], Own.ofRows (.blk g o n c c' e _ (by simp; omega) hc hm (by omega) ?_) (by simp; omega) (fun q hq => ?_), hS.updBlk (o := .cells cur e (0, 0)) (by simp [absent]) c1 c4 (Nat.le_of_eq c5.1.symm)⟩
  ·intro i r hi
   rw [List.getElem?_map] at hi
   cases hg : (l.take lo.toNat ++ ns ++ l.drop (lo.toNat + ns.length))[i]? with
   | none => rw [hg] at hi; cases hi
   | some q =>
    rw [hg] at hi
    simp at hi
    subst hi
    refine ⟨rfl, fun j v hj => ?_⟩
    have hj0 : j = 0 := by
     rcases Nat.eq_zero_or_pos j with h | h
     ·exact h
     ·rw [List.getElem?_eq_none (by simp; omega)] at hj; cases hj
    subst hj0
    simp at hj
    subst hj
    rw [c3]
    have hlt : i < (l.take lo.toNat ++ ns ++ l.drop (lo.toNat + ns.length)).length := (List.getElem?_eq_some_iff.1 hg).1
    simp only [List.length_append, List.length_take, List.length_drop] at hlt
    by_cases e1 : i < lo.toNat
    ·rw [List.append_assoc, List.getElem?_append_left (by simp; omega), List.getElem?_take, if_pos e1] at hg
     rw [if_neg (by omega)]
     have := (hrow i [intV q] (by rw [← hrows, List.getElem?_map, hg]; rfl)).2 0 (intV q) rfl
     simpa using this
    ·by_cases e2 : i < lo.toNat + ns.length
     ·rw [if_pos (by simp; omega)]
      rw [List.getElem?_append_left (by simp; omega), List.getElem?_append_right (by simp; omega)] at hg
      rw [List.getElem?_map]
      have ee : o + i * 1 + 0 - (o + lo.toNat) = i - (List.take lo.toNat l).length := by simp; omega
      rw [ee, hg]; rfl
     ·rw [if_neg (by simp; omega)]
      rw [List.getElem?_append_right (by simp; omega), List.getElem?_drop] at hg
      have ei : lo.toNat + ns.length + (i - (List.take lo.toNat l ++ ns).length) = i := by simp; omega
      rw [ei] at hg
      have := (hrow i [intV q] (by rw [← hrows, List.getElem?_map, hg]; rfl)).2 0 (intV q) rfl
      simpa using this
  ·rcases List.mem_append.1 hq with hq | hq
   ·rcases List.mem_append.1 hq with hq | hq
    ·exact hin q (List.mem_of_mem_take hq)
    ·exact hn q hq
   ·exact hin q (List.mem_of_mem_drop hq)

end
end Go.Vc
