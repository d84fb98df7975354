/- Part of the proofs about the heaps and memories: a law is joined in the text whose name ends in W and the law. -/
import Derived.Test.YtlcegaeioheikaaEK1
import Derived.Test.YtlcegaeioheikaaEH1
import Derived.Test.YtlcegaeioheikaaEH2
namespace Go.Vc
open Go Go.Proofs Go.RowKit
set_option linter.all false
/-- a heap that is drawn -/
def GA (h : List CellD) : Prop := h.length ≤ 100 ∧ ∀ c ∈ h, c.fields.length ≤ 100
section
variable {u v w : World} {x y xf : Sl} {l fs : List Int} {h : List CellD} {m n k : Int} {a : Addr} {I J L R : Items} {F : Items → Items}

theorem GA.set {h : List CellD} (hg : GA h) {i : Nat} {c : CellD} (hc : c.fields.length ≤ 100) : GA (h.set i c) :=
 ⟨by simpa using hg.1, fun b hb => by rcases mem_set_of hb with hb | hb; exact hg.2 b hb; rw [hb]; exact hc⟩

end

/-- a law's function gives true, and leaves what it was given -/
def LawTrue (P : Program) (f : FuncId) : Prop := ∀ (W : World) (x : Sl) (bs : List UInt8), Bytes W x bs → Trip P f #[x.val] W fun r v' => r = .bool true ∧ Sub W v'
theorem Bytes.read {W : World} {x : Sl} {bs : List UInt8} (h : Bytes W x bs) (hl : x.n ≤ 1099511627776) : Read W x bs := by
 have hn : x.n = bs.length := by have := Rows.len h; simpa using this
 refine ⟨_, h, ⟨by simp, fun i r a hr ha => ?_⟩, by show bs.length ≤ 1099511627776; omega⟩
 simp only [List.getElem?_map] at hr
 rw [ha] at hr
 simp at hr
 exact hr.symm

end Go.Vc

namespace Go.Vc
open Go Go.Proofs Go.RowKit
set_option linter.all false
section
variable {u v w : World} {x y xf : Sl} {l ws fs : List Int} {h : List CellD} {m n k : Int} {a : Addr} {I J L R : Items} {F : Items → Items}

end

end Go.Vc

namespace Go.Vc
open Go Go.Proofs Go.RowKit
set_option linter.all false
section
variable {u v w : World} {x y xf : Sl} {l ws fs pend : List Int} {h : List CellD} {z : LazyD} {m n k f : Int} {a : Addr} {I J L R R1 : Items} {F F1 : Items → Items}

end
end Go.Vc

namespace Go.Vc
open Go Go.Proofs Go.RowKit
set_option linter.all false
section
variable {u v w : World} {x y xf : Sl} {l ws fs pend : List Int} {h : List CellD} {z : LazyD} {m n k f : Int} {a : Addr} {I J L R R1 : Items} {F F1 : Items → Items}

end
end Go.Vc

namespace Go.Vc
open Go Go.Proofs Go.RowKit
set_option linter.all false
section
variable {u v w : World} {x y xf : Sl} {l ws fs pend : List Int} {h : List CellD} {z : LazyD} {m n k f : Int} {a : Addr} {I J L R R1 : Items} {F F1 : Items → Items}

end
end Go.Vc

namespace Go.Vc
open Go Go.Proofs Go.RowKit
set_option linter.all false
section
variable {u v w : World} {x y xf : Sl} {l ws fs pend : List Int} {h : List CellD} {z : LazyD} {m n k f : Int} {a : Addr} {I J L R R1 : Items} {F F1 : Items → Items}

theorem set_same {α : Type} [Inhabited α] {l : List α} {i : Int} (h0 : 0 ≤ i) (h1 : i < l.length) : l.set i.toNat (nth l i) = l := by
 refine List.ext_getElem? fun j => ?_
 rw [List.getElem?_set]
 split
 ·rename_i e
  subst e
  rw [if_pos (by omega), ← nth_get h0 h1]
 ·rfl

end
end Go.Vc

namespace Go.Vc
open Go Go.Proofs Go.RowKit
set_option linter.all false
section
variable {u v w : World} {x y xf s t : Sl} {l ws fs pend : List Int} {h g : List CellD} {z z' : LazyD} {m n k f : Int} {a : Addr} {I J L R R1 : Items} {F F1 : Items → Items}

end

end Go.Vc

namespace Go.Vc
open Go Go.Proofs Go.RowKit
set_option linter.all false
section
variable {u v w : World} {x y xf s t : Sl} {l ws fs pend : List Int} {h g : List CellD} {z z' : LazyD} {m n k f : Int} {a : Addr} {I J K L R R1 : Items} {F F1 : Items → Items}

end
end Go.Vc

namespace Go.Vc
open Go Go.Proofs Go.RowKit
set_option linter.all false

section
variable {u v w : World} {x y xf s t : Sl} {l ws fs pend : List Int} {h g : List CellD} {z z' : LazyD} {m n k f : Int} {a : Addr} {I J K L R R1 : Items} {F F1 : Items → Items}

end
end Go.Vc

namespace Go.Vc
open Go Go.Proofs Go.RowKit
set_option linter.all false


section
variable {u v w : World} {x y xf s t : Sl} {l ws fs pend : List Int} {h g : List CellD} {z z' : LazyD} {b m n k f : Int} {a : Addr} {I J K L R R1 : Items} {F F1 : Items → Items}

theorem ReadB.toInts {B : Nat} {l : List Int} (hx : ReadB B v x l) (hl : l.length ≤ BB) : Read v x l := let ⟨rows, h1, h2, _⟩ := hx; ⟨rows, h1, ⟨h2.1, h2.2⟩, hl⟩
end


/-- owned to the leaves as far as element i; what follows is as q says -/
def OwnP (q : Nat → List Value → Prop) (i : Nat) (x : Sl) (l : List CellD) (I : Items) : Prop :=
 ∃ (rows : List (List Value)) (I0 : Items) (Is : List Items), OSl 3 x rows I0 ∧ rows.length = l.length ∧ Is.length = i ∧ i ≤ l.length ∧
  (∀ (j : Nat) (r : List Value) (a : CellD) (K : Items), rows[j]? = some r → l[j]? = some a → Is[j]? = some K → DatO.own r a K) ∧ (∀ (j : Nat) (r : List Value), i ≤ j → rows[j]? = some r → q j r) ∧ I.Perm (I0 ++ Is.flatten) ∧ l.length ≤ BB

section
variable {u v w : World} {x y xf s t : Sl} {l ws fs pend : List Int} {h g : List CellD} {z z' : LazyD} {b m n k f : Int} {a : Addr} {I J K L R R1 : Items} {F F1 : Items → Items} {q : Nat → List Value → Prop}

theorem OwnP.start {rows : List (List Value)} (h1 : OSl 3 x rows I) (h2 : rows.length = h.length) (h3 : ∀ (j : Nat) (r : List Value), rows[j]? = some r → q j r) (hl : h.length ≤ BB) : OwnP q 0 x h I :=
 ⟨rows, I, [], h1, h2, rfl, Nat.zero_le _, fun j r a K _ _ hK => by simp at hK, fun j r _ hr => h3 j r hr, by simp, hl⟩
theorem OwnP.done (h : OwnP q g.length x g I) : OwnD x g I := by
 obtain ⟨rows, I0, Is, h1, h2, h3, _, h4, _, h5, h6⟩ := h
 exact ⟨rows, I0, Is, [], h1, h2, h3, h4, by simpa using h5, h6⟩
theorem OwnP.ix {i : Nat} (h : OwnP q i x g I) {j : Int} (h0 : 0 ≤ j) (h1 : j < g.length) : IxOk x j := by
 obtain ⟨rows, I0, Is, k1, k2, _⟩ := h
 cases k1 with
 | nil => simp at k2; omega
 | blk g o n c cur e _ hn hc hm hs hr => exact ⟨rfl, h0, by simp only [] at *; omega⟩
theorem OwnP.len_ {i : Nat} (h : OwnP q i x g I) : x.n = g.length := by
 obtain ⟨rows, I0, Is, k1, k2, _⟩ := h
 exact k1.len.trans k2

theorem OwnP.step {i : Int} (h : OwnP q i.toNat x g I) (hS : St u w (K ++ (I ++ R))) (h0 : 0 ≤ i) (hi : i < g.length) {off : Nat} {vals : List Value} (hv : off + vals.length ≤ 3)
  (hown : ∀ r, q i.toNat r → DatO.own (putR r off vals) (nth g i) K) {Kt : World → Prop} (k : ∀ w' I', OwnP q (i + 1).toNat x g I' → St u w' (I' ++ R) → Kt w') : StoreAt w (elA x i 3) off vals Kt := by
 obtain ⟨rows, I0, Is, k1, k2, k3, k4, k5, k6, k7, k8⟩ := h
 have hlt : i.toNat < rows.length := by omega
 have er := List.getElem?_eq_getElem hlt
 have hS1 : St u w (I0 ++ (Is.flatten ++ (K ++ R))) := hS.perm (by
  classical
  exact List.perm_iff_count.2 fun a => by have := k7.count_eq a; simp only [List.count_append] at *; omega)
 obtain ⟨c1, I0', c2, c3⟩ := k1.store hS1 h0 er hv
 refine ⟨c1, k _ (I0' ++ (Is ++ [K]).flatten) ⟨_, I0', Is ++ [K], c2, by simpa using k2, by simp; omega, by omega, fun j r a K' hr ha hK => ?_, fun j r hj hr => ?_, .refl _, k8⟩ (c3.perm (by
  classical
  exact List.perm_iff_count.2 fun a => by simp only [List.flatten_append, List.flatten_cons, List.flatten_nil, List.append_nil, List.count_append]; omega))⟩
 ·rw [List.getElem?_set] at hr
  split at hr
  ·rename_i e
   subst e
   rw [List.getElem?_append_right (by omega), show i.toNat - Is.length = 0 from by omega] at hK
   simp only [List.getElem?_cons_zero, Option.some.injEq] at hK hr
   subst hK
   subst hr
   have := nth_of (i := i) ha
   rw [← this]
   exact hown _ (k6 _ _ (Nat.le_refl _) er)
  ·rename_i e
   have hj : j < Is.length := by
    have := (List.getElem?_eq_some_iff.1 hK).1
    simp only [List.length_append, List.length_singleton] at this
    omega
   rw [List.getElem?_append_left hj] at hK
   exact k5 j r a K' hr ha hK
 ·rw [List.getElem?_set, if_neg (by omega)] at hr
  exact k6 j r (by omega) hr

end


def marks (n : Int) (k : Nat) : List Int := (List.range k).map fun (i : Nat) => n + (i : Int)
section
variable {u v w : World} {x y xf s t : Sl} {l ws fs pend : List Int} {h g : List CellD} {z z' : LazyD} {b m n k f : Int} {a : Addr} {I J K L R R1 : Items} {F F1 : Items → Items} {q : Nat → List Value → Prop}

end
section
variable {u v w : World} {x y xf s t : Sl} {l ws fs pend : List Int} {h g : List CellD} {z z' : LazyD} {b m n k f : Int} {a : Addr} {I J K L R R1 : Items} {F F1 : Items → Items} {q : Nat → List Value → Prop}

end

end Go.Vc
