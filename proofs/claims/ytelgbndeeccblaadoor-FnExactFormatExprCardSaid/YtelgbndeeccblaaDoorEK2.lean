/- Part of the proofs about the heaps and memories: a law is joined in the text whose name ends in W and the law. -/
import Derived.Test.YtelgbndeeccblaaDoorEK1
import Derived.Test.YtelgbndeeccblaaDoorEH1
import Derived.Test.YtelgbndeeccblaaDoorEH2
namespace Go.Vc
open Go Go.Proofs Go.RowKit
set_option linter.all false
/-- a heap that is drawn -/
def GA (h : List CellD) : Prop := h.length ≤ 100 ∧ ∀ c ∈ h, c.fields.length ≤ 100
section
variable {u v w : World} {x y xf : Sl} {l fs : List Int} {h : List CellD} {m n k : Int} {a : Addr} {I J L R : Items} {F : Items → Items}

theorem GA.set {h : List CellD} (hg : GA h) {i : Nat} {c : CellD} (hc : c.fields.length ≤ 100) : GA (h.set i c) :=
  ⟨by simpa using hg.1, fun b hb => by rcases mem_set_of hb with hb | hb; exact hg.2 b hb; rw [hb]; exact hc⟩

end

/-- a law's function gives true, and leaves what it was given -/
def LawTrue (P : Program) (f : FuncId) : Prop := ∀ (W : World) (x : Sl) (bs : List UInt8), Bytes W x bs → Trip P f #[x.val] W fun r v' => r = .bool true ∧ Sub W v'
theorem Bytes.read {W : World} {x : Sl} {bs : List UInt8} (h : Bytes W x bs) (hl : x.n ≤ 1099511627776) : Read W x bs := by
  have hn : x.n = bs.length := by have := Rows.len h; simpa using this
  refine ⟨_, h, ⟨by simp, fun i r a hr ha => ?_⟩, by show bs.length ≤ 1099511627776; omega⟩
  simp only [List.getElem?_map] at hr
  rw [ha] at hr
  simp at hr
  exact hr.symm

theorem circle_not {h : List CellD} {i : Int} (h0 : 0 ≤ i) (h1 : i < h.length) {c : CellD} (hc : 0 < c.count) (hf : 1000 + i ∈ c.fields) : ¬ vheap (h.set i.toNat c) := by
  rintro ⟨_, _, _, rk, hrk⟩
  have hn : nth (h.set i.toNat c) i = c := by rw [nth_set _ _ _ _ h0 h1 h0, if_pos rfl]
  have hl : live (h.set i.toNat c) (1000 + i) = true := by
    simp only [live, Bool.and_eq_true, decide_eq_true_eq, List.length_set]
    rw [show 1000 + i - 1000 = i from by omega, hn]
    omega
  have := hrk i.toNat c (1000 + i) (by rw [List.getElem?_set, if_pos rfl, if_pos (by omega)]) hf hl
  rw [show (1000 + i - 1000).toNat = i.toNat from by omega] at this
  omega

end Go.Vc

namespace Go.Vc
open Go Go.Proofs Go.RowKit
set_option linter.all false
section
variable {u v w : World} {x y xf : Sl} {l ws fs : List Int} {h : List CellD} {m n k : Int} {a : Addr} {I J L R : Items} {F : Items → Items}

end

end Go.Vc

namespace Go.Vc
open Go Go.Proofs Go.RowKit
set_option linter.all false
section
variable {u v w : World} {x y xf : Sl} {l ws fs pend : List Int} {h : List CellD} {z : LazyD} {m n k f : Int} {a : Addr} {I J L R R1 : Items} {F F1 : Items → Items}

theorem raise_range {h : List CellD} {pend : List Int} : (raiseL h pend).length = h.length := raiseL_length h pend

end
end Go.Vc

namespace Go.Vc
open Go Go.Proofs Go.RowKit
set_option linter.all false
section
variable {u v w : World} {x y xf : Sl} {l ws fs pend : List Int} {h : List CellD} {z : LazyD} {m n k f : Int} {a : Addr} {I J L R R1 : Items} {F F1 : Items → Items}

theorem dropF_len (z : LazyD) (fs : List Int) : (dropF z fs).cells.length = z.cells.length := by
  induction fs generalizing z with
  | nil => rfl
  | cons f r ih => rw [dropF_cons, ih]; split <;> simp [lowerZ]
theorem pend_len {z : LazyD} {todo : List Int} (L : LZ z.cells z.pend todo) : z.pend.length ≤ z.cells.length := by
  have := List.Nodup.length_le_of_subset (l₁ := z.pend) (l₂ := (List.range z.cells.length).map (fun (k : Nat) => (k : Int))) L.pn (fun p hp => by
    have := L.pr p hp
    exact List.mem_map.2 ⟨p.toNat, by simp; omega, by omega⟩)
  simpa using this

end
end Go.Vc

namespace Go.Vc
open Go Go.Proofs Go.RowKit
set_option linter.all false
section
variable {u v w : World} {x y xf : Sl} {l ws fs pend : List Int} {h : List CellD} {z : LazyD} {m n k f : Int} {a : Addr} {I J L R R1 : Items} {F F1 : Items → Items}

theorem settleL_len {z : LazyD} (n : Nat) (hz : z.pend = [] ∨ vlazy z) : (settleL n z).cells.length ≤ z.cells.length ∧ ((settleL n z).pend = [] ∨ vlazy (settleL n z)) := by
  rcases hz with hz | hz
  · unfold settleL trimZ
    rw [settleN_nil hz]
    exact ⟨by simp; omega, .inl hz⟩
  · have L := (vlazy_iff.1 hz).1
    refine ⟨?_, .inr (settle_valid L n)⟩
    have := (LZ.settleN n L).2.1
    unfold settleL trimZ
    simp only [List.length_take]
    omega

theorem in_wrap (n : Int) : InI (IntKind.wrap .i64 n) := by
  have : IntKind.i64.wrap n = (n + 9223372036854775808) % 18446744073709551616 - 9223372036854775808 := by
    simp only [IntKind.wrap, IntKind.bits, IntKind.signed]
    simp
    split <;> omega
  rw [this]
  exact ⟨by omega, by omega⟩

theorem in_wrap' {n r : Int} (h : IntKind.wrap .i64 n = r) : InI r := h ▸ in_wrap n

end
end Go.Vc

namespace Go.Vc
open Go Go.Proofs Go.RowKit
set_option linter.all false
section
variable {u v w : World} {x y xf : Sl} {l ws fs pend : List Int} {h : List CellD} {z : LazyD} {m n k f : Int} {a : Addr} {I J L R R1 : Items} {F F1 : Items → Items}

theorem set_same {α : Type} [Inhabited α] {l : List α} {i : Int} (h0 : 0 ≤ i) (h1 : i < l.length) : l.set i.toNat (nth l i) = l := by
  refine List.ext_getElem? fun j => ?_
  rw [List.getElem?_set]
  split
  · rename_i e
    subst e
    rw [if_pos (by omega), ← nth_get h0 h1]
  · rfl

theorem refs_nonneg {h : List CellD} {k : Int} (h0 : 0 ≤ k) (h1 : k < h.length) : 0 ≤ nth (refL h) k := by
  rw [refL, nth_refsW h0 (by omega)]
  simp [cnt]

end
end Go.Vc

namespace Go.Vc
open Go Go.Proofs Go.RowKit
set_option linter.all false
section
variable {u v w : World} {x y xf s t : Sl} {l ws fs pend : List Int} {h g : List CellD} {z z' : LazyD} {m n k f : Int} {a : Addr} {I J L R R1 : Items} {F F1 : Items → Items}

noncomputable def eqHB (h g : List CellD) : Bool := @decide (h = g) (Classical.propDecidable _)
theorem eqHB_iff {h g : List CellD} : eqHB h g = true ↔ h = g := by unfold eqHB; exact @decide_eq_true_iff _ (Classical.propDecidable _)
theorem eqHB_f {h g : List CellD} (hn : ¬ h = g) : eqHB h g = false := Bool.eq_false_iff.2 fun e => hn (eqHB_iff.1 e)

end

theorem drop_pre {z : LazyD} {n : Int} : z.pend <+: (dropZ z n).pend := by
  unfold dropZ lowerZ
  split
  · simp only
    split
    · exact List.prefix_append _ _
    · exact List.prefix_refl _
  · exact List.prefix_refl _
theorem drop_plen {z : LazyD} {n : Int} : (dropZ z n).pend.length ≤ z.pend.length + 1 := by
  unfold dropZ lowerZ
  split
  · simp only
    split <;> simp
  · omega
theorem drop_nth {z : LazyD} {n i : Int} (hd : dropOk z n) (h0 : 0 ≤ i) (h1 : i < z.cells.length) (hn : n ≠ 1000 + i) : nth (dropZ z n).cells i = nth z.cells i := by
  unfold dropZ
  split
  · rename_i hp
    obtain ⟨_, l2, l3⟩ := live_iff.1 (word_ptr hd.2.1 hp)
    unfold lowerZ
    rw [nth_set _ _ _ _ (by omega) l2 h0, if_neg (by omega)]
  · rfl

end Go.Vc

namespace Go.Vc
open Go Go.Proofs Go.RowKit
set_option linter.all false
section
variable {u v w : World} {x y xf s t : Sl} {l ws fs pend : List Int} {h g : List CellD} {z z' : LazyD} {m n k f : Int} {a : Addr} {I J K L R R1 : Items} {F F1 : Items → Items}

end
end Go.Vc

namespace Go.Vc
open Go Go.Proofs Go.RowKit
set_option linter.all false

def stlOk (z : LazyD) (m : Int) : Prop := vlazy z ∧ 0 ≤ m ∧ m ≤ 100000
noncomputable def stlB (z : LazyD) (m : Int) : Bool := @decide (stlOk z m) (Classical.propDecidable _)
theorem stlB_iff {z : LazyD} {n : Int} : stlB z n = true ↔ stlOk z n := by unfold stlB; exact @decide_eq_true_iff _ (Classical.propDecidable _)
noncomputable def stlR (z : LazyD) (m : Int) : LazyD := bif stlB z m then settleL m.toNat z else ⟨[], []⟩
theorem stlR_t {z : LazyD} {n : Int} (h : stlOk z n) : stlR z n = settleL n.toNat z := by unfold stlR; rw [stlB_iff.2 h]; rfl
theorem stlB_f {z : LazyD} {n : Int} (h : ¬ stlOk z n) : stlB z n = false := Bool.eq_false_iff.2 fun e => h (stlB_iff.1 e)
theorem stlR_f {z : LazyD} {n : Int} (h : ¬ stlOk z n) : stlR z n = ⟨[], []⟩ := by unfold stlR; rw [stlB_f h]; rfl
/-- the settled heap -/
noncomputable def shR (z : LazyD) : List CellD := bif vlazyB z then (settleL z.cells.length z).cells else []
theorem shR_t {z : LazyD} (h : vlazy z) : shR z = (settleL z.cells.length z).cells := by unfold shR; rw [vlazyB_iff.2 h]; rfl
theorem vlazyB_f {z : LazyD} (h : ¬ vlazy z) : vlazyB z = false := Bool.eq_false_iff.2 fun e => h (vlazyB_iff.1 e)
theorem shR_f {z : LazyD} (h : ¬ vlazy z) : shR z = [] := by unfold shR; rw [vlazyB_f h]; rfl

theorem settle_zero {z : LazyD} (h : vlazy z) : settleL 0 z = z := trim_of_last (vlazy_iff.1 h).2
theorem settle_nil {z : LazyD} (h : vlazy z) (hp : z.pend = []) (n : Nat) : settleL n z = z := by
  unfold settleL
  rw [settleN_nil hp]
  exact trim_of_last (vlazy_iff.1 h).2
theorem settle_done {z : LazyD} (L : LZ z.cells z.pend []) {m n : Nat} (hp : (settleL m z).pend = []) : settleL (m + n) z = settleL m z := by
  rw [← settle_again L m n]
  exact settle_nil (settle_valid L m) hp n
theorem settle_full {z : LazyD} (L : LZ z.cells z.pend []) {m : Nat} (hp : (settleL m z).pend = []) : settleL m z = settleL z.cells.length z := by
  have h1 := settle_done L (n := z.cells.length) hp
  have h2 := settle_done L (m := z.cells.length) (n := m) (settle_all L (nf_le L)).2
  rw [← h1, Nat.add_comm, h2]

section
variable {u v w : World} {x y xf s t : Sl} {l ws fs pend : List Int} {h g : List CellD} {z z' : LazyD} {m n k f : Int} {a : Addr} {I J K L R R1 : Items} {F F1 : Items → Items}

end
end Go.Vc
