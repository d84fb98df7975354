/- Part of the proofs about the heaps and memories: a law is joined in the text whose name ends in W and the law. -/
import Derived.Test.YtelgbndeeccblaaDoorEK2
namespace Go.Vc
open Go Go.Proofs Go.RowKit
set_option linter.all false


abbrev BM : Nat := 9223372036854775807
/-- the room that is left -/
def szI (b : Int) (n : Nat) : Int := if b - n < 0 then -1 else b - n
def szHf : Int → List CellD → Int
  | b, [] => b
  | b, c :: r => if szI b c.fields.length < 0 then -1 else szHf (szI b c.fields.length) r
def szH (b : Int) (h : List CellD) : Int := if b - h.length < 0 then -1 else szHf (b - h.length) h
theorem szI_le {b : Int} {n : Nat} (h : 0 ≤ szI b n) : szI b n = b - n ∧ (n : Int) ≤ b := by unfold szI at h ⊢; split at h <;> (try omega)
theorem szHf_cons (b : Int) (c : CellD) (r : List CellD) : szHf b (c :: r) = if szI b c.fields.length < 0 then -1 else szHf (szI b c.fields.length) r := rfl
theorem szHf_nil (b : Int) : szHf b [] = b := rfl
theorem szHf_le : ∀ (h : List CellD) {b : Int}, 0 ≤ szHf b h → szHf b h ≤ b ∧ ∀ c ∈ h, (c.fields.length : Int) ≤ b
  | [], b, h => ⟨Int.le_refl b, fun c hc => by cases hc⟩
  | c :: r, b, h => by
    unfold szHf at h ⊢
    split at h
    · omega
    · rename_i h2
      rw [if_neg h2]
      obtain ⟨e1, e2⟩ := szI_le (b := b) (n := c.fields.length) (by omega)
      obtain ⟨i1, i2⟩ := szHf_le r h
      refine ⟨by omega, fun d hd => ?_⟩
      rcases List.mem_cons.1 hd with rfl | hd
      · exact e2
      · have := i2 d hd; omega
theorem szH_le {h : List CellD} {b : Int} (h0 : 0 ≤ szH b h) : szH b h ≤ b ∧ (h.length : Int) ≤ b ∧ ∀ c ∈ h, (c.fields.length : Int) ≤ b := by
  unfold szH at h0 ⊢
  split at h0
  · omega
  · rename_i h2
    rw [if_neg h2]
    obtain ⟨i1, i2⟩ := szHf_le h h0
    exact ⟨by omega, by omega, fun c hc => by have := i2 c hc; omega⟩

section
variable {u v w : World} {x y xf s t : Sl} {l ws fs pend : List Int} {h g : List CellD} {z z' : LazyD} {b m n k f : Int} {a : Addr} {I J K L R R1 : Items} {F F1 : Items → Items}

theorem cellB (hx : ReadB BM v x h) {i : Int} (h0 : 0 ≤ i) (h1 : i < h.length) : ∃ f : Sl, (v.cell? ((elA x i 3).add 0) = some (.int .i64 (nth h i).count) ∧ v.cell? ((elA x i 3).add 1) = some (.int .i64 (nth h i).tag) ∧ v.cell? ((elA x i 3).add 2) = some f.val) ∧ ReadB BM v f (nth h i).fields := by
  obtain ⟨r, hr, hc⟩ := hx.row h0 h1
  obtain ⟨f, rfl, c1, c2, c3⟩ := hr
  exact ⟨f, ⟨hc 0 _ rfl, hc 1 _ rfl, hc 2 _ rfl⟩, c3⟩

def szL (b : Int) (z : LazyD) : Int := if szH b z.cells < 0 then -1 else szI (szH b z.cells) z.pend.length
theorem ReadB.toInts {B : Nat} {l : List Int} (hx : ReadB B v x l) (hl : l.length ≤ BB) : Read v x l := let ⟨rows, h1, h2, _⟩ := hx; ⟨rows, h1, ⟨h2.1, h2.2⟩, hl⟩
theorem ReadB.toCells (hx : ReadB BM v x h) (hl : h.length ≤ BB) (hf : ∀ c ∈ h, c.fields.length ≤ BB) : Read v x h := by
  obtain ⟨rows, h1, h2, _⟩ := hx
  refine ⟨rows, h1, ⟨h2.1, fun i r a hr ha => ?_⟩, hl⟩
  obtain ⟨f, e, c1, c2, c3⟩ := h2.2 i r a hr ha
  exact ⟨f, e, c1, c2, c3.toInts (hf a (List.mem_of_getElem? ha))⟩

noncomputable def eqZB (z z' : LazyD) : Bool := @decide (z = z') (Classical.propDecidable _)
theorem eqZB_iff {z z' : LazyD} : eqZB z z' = true ↔ z = z' := by unfold eqZB; exact @decide_eq_true_iff _ (Classical.propDecidable _)
end


/-- owned to the leaves as far as element i; what follows is as q says -/
def OwnP (q : Nat → List Value → Prop) (i : Nat) (x : Sl) (l : List CellD) (I : Items) : Prop :=
  ∃ (rows : List (List Value)) (I0 : Items) (Is : List Items), OSl 3 x rows I0 ∧ rows.length = l.length ∧ Is.length = i ∧ i ≤ l.length ∧
    (∀ (j : Nat) (r : List Value) (a : CellD) (K : Items), rows[j]? = some r → l[j]? = some a → Is[j]? = some K → DatO.own r a K) ∧ (∀ (j : Nat) (r : List Value), i ≤ j → rows[j]? = some r → q j r) ∧ I.Perm (I0 ++ Is.flatten) ∧ l.length ≤ BB

section
variable {u v w : World} {x y xf s t : Sl} {l ws fs pend : List Int} {h g : List CellD} {z z' : LazyD} {b m n k f : Int} {a : Addr} {I J K L R R1 : Items} {F F1 : Items → Items} {q : Nat → List Value → Prop}

theorem OwnP.start {rows : List (List Value)} (h1 : OSl 3 x rows I) (h2 : rows.length = h.length) (h3 : ∀ (j : Nat) (r : List Value), rows[j]? = some r → q j r) (hl : h.length ≤ BB) : OwnP q 0 x h I :=
  ⟨rows, I, [], h1, h2, rfl, Nat.zero_le _, fun j r a K _ _ hK => by simp at hK, fun j r _ hr => h3 j r hr, by simp, hl⟩
theorem OwnP.done (h : OwnP q g.length x g I) : OwnD x g I := by
  obtain ⟨rows, I0, Is, h1, h2, h3, _, h4, _, h5, h6⟩ := h
  exact ⟨rows, I0, Is, [], h1, h2, h3, h4, by simpa using h5, h6⟩
theorem OwnP.ix {i : Nat} (h : OwnP q i x g I) {j : Int} (h0 : 0 ≤ j) (h1 : j < g.length) : IxOk x j := by
  obtain ⟨rows, I0, Is, k1, k2, _⟩ := h
  cases k1 with
  | nil => simp at k2; omega
  | blk g o n c cur e _ hn hc hm hs hr => exact ⟨rfl, h0, by simp only [] at *; omega⟩
theorem OwnP.len_ {i : Nat} (h : OwnP q i x g I) : x.n = g.length := by
  obtain ⟨rows, I0, Is, k1, k2, _⟩ := h
  exact k1.len.trans k2

theorem OwnP.step {i : Int} (h : OwnP q i.toNat x g I) (hS : St u w (K ++ (I ++ R))) (h0 : 0 ≤ i) (hi : i < g.length) {off : Nat} {vals : List Value} (hv : off + vals.length ≤ 3)
    (hown : ∀ r, q i.toNat r → DatO.own (putR r off vals) (nth g i) K) {Kt : World → Prop} (k : ∀ w' I', OwnP q (i + 1).toNat x g I' → St u w' (I' ++ R) → Kt w') : StoreAt w (elA x i 3) off vals Kt := by
  obtain ⟨rows, I0, Is, k1, k2, k3, k4, k5, k6, k7, k8⟩ := h
  have hlt : i.toNat < rows.length := by omega
  have er := List.getElem?_eq_getElem hlt
  have hS1 : St u w (I0 ++ (Is.flatten ++ (K ++ R))) := hS.perm (by
    classical
    exact List.perm_iff_count.2 fun a => by have := k7.count_eq a; simp only [List.count_append] at *; omega)
  obtain ⟨c1, I0', c2, c3⟩ := k1.store hS1 h0 er hv
  refine ⟨c1, k _ (I0' ++ (Is ++ [K]).flatten) ⟨_, I0', Is ++ [K], c2, by simpa using k2, by simp; omega, by omega, fun j r a K' hr ha hK => ?_, fun j r hj hr => ?_, .refl _, k8⟩ (c3.perm (by
    classical
    exact List.perm_iff_count.2 fun a => by simp only [List.flatten_append, List.flatten_cons, List.flatten_nil, List.append_nil, List.count_append]; omega))⟩
  · rw [List.getElem?_set] at hr
    split at hr
    · rename_i e
      subst e
      rw [List.getElem?_append_right (by omega), show i.toNat - Is.length = 0 from by omega] at hK
      simp only [List.getElem?_cons_zero, Option.some.injEq] at hK hr
      subst hK
      subst hr
      have := nth_of (i := i) ha
      rw [← this]
      exact hown _ (k6 _ _ (Nat.le_refl _) er)
    · rename_i e
      have hj : j < Is.length := by
        have := (List.getElem?_eq_some_iff.1 hK).1
        simp only [List.length_append, List.length_singleton] at this
        omega
      rw [List.getElem?_append_left hj] at hK
      exact k5 j r a K' hr ha hK
  · rw [List.getElem?_set, if_neg (by omega)] at hr
    exact k6 j r (by omega) hr

end


def marks (n : Int) (k : Nat) : List Int := (List.range k).map fun (i : Nat) => n + (i : Int)
theorem marks_len (n : Int) (k : Nat) : (marks n k).length = k := by simp [marks]
theorem marks_nth {n : Int} {k : Nat} {i : Int} (h0 : 0 ≤ i) (h1 : i < k) : nth (marks n k) i = n + i := by
  refine nth_of ?_
  have : i.toNat < k := by omega
  simp [marks, this]
  omega
def markH : Int → List CellD → List CellD
  | _, [] => []
  | n, c :: r => ⟨n, n + 1, marks (n + 2) c.fields.length⟩ :: markH (n + 2 + c.fields.length) r
def endH : Int → List CellD → Int
  | n, [] => n
  | n, c :: r => endH (n + 2 + c.fields.length) r
theorem markH_len : ∀ (h : List CellD) (n : Int), (markH n h).length = h.length
  | [], _ => rfl
  | _ :: r, _ => by simp [markH, markH_len r]
theorem markH_snoc : ∀ (h : List CellD) (n : Int) (c : CellD), markH n (h ++ [c]) = markH n h ++ [⟨endH n h, endH n h + 1, marks (endH n h + 2) c.fields.length⟩]
  | [], _, _ => rfl
  | d :: r, n, c => by simp only [List.cons_append, markH, endH]; rw [markH_snoc r]
theorem endH_snoc : ∀ (h : List CellD) (n : Int) (c : CellD), endH n (h ++ [c]) = endH n h + 2 + c.fields.length
  | [], _, _ => rfl
  | d :: r, n, c => by simp only [List.cons_append, endH]; rw [endH_snoc r]
theorem markH_app : ∀ (h g : List CellD) (n : Int), markH n (h ++ g) = markH n h ++ markH (endH n h) g
  | [], _, _ => rfl
  | d :: r, g, n => by simp only [List.cons_append, markH, endH]; rw [markH_app r]
theorem endH_app : ∀ (h g : List CellD) (n : Int), endH n (h ++ g) = endH (endH n h) g
  | [], _, _ => rfl
  | d :: r, g, n => by simp only [List.cons_append, endH]; rw [endH_app r]
theorem endH_le : ∀ (h : List CellD) (n : Int), (∀ c ∈ h, c.fields.length ≤ 2000000) → n ≤ endH n h ∧ endH n h ≤ n + h.length * 2000002
  | [], n, _ => by simp [endH]
  | c :: r, n, hb => by
    have h1 := hb c List.mem_cons_self
    obtain ⟨i1, i2⟩ := endH_le r (n + 2 + c.fields.length) (fun d hd => hb d (List.mem_cons_of_mem _ hd))
    simp only [endH, List.length_cons]
    constructor <;> omega

section
variable {u v w : World} {x y xf s t : Sl} {l ws fs pend : List Int} {h g : List CellD} {z z' : LazyD} {b m n k f : Int} {a : Addr} {I J K L R R1 : Items} {F F1 : Items → Items} {q : Nat → List Value → Prop}

theorem nth_mid {α : Type} [Inhabited α] (p r : List α) (c : α) {i : Int} (h : i = p.length) : nth (p ++ c :: r) i = c := nth_of (by subst h; simp)
theorem set_mid {α : Type} (p r : List α) (c d : α) {i : Int} (h : i = p.length) : (p ++ c :: r).set i.toNat d = p ++ d :: r := by subst h; simp

def markZ (n : Int) (z : LazyD) : LazyD := ⟨markH n z.cells, marks (endH n z.cells) z.pend.length⟩
def endZ (n : Int) (z : LazyD) : Int := endH n z.cells + z.pend.length
end
theorem endZ_pos {z : LazyD} (hb : ∀ c ∈ z.cells, c.fields.length ≤ 2000000) : 1 ≤ endZ 1 z := by
  have := (endH_le z.cells 1 hb).1
  unfold endZ
  omega


section
variable {u v w : World} {x y xf s t : Sl} {l ws fs pend : List Int} {h g : List CellD} {z z' : LazyD} {b m n k f : Int} {a : Addr} {I J K L R R1 : Items} {F F1 : Items → Items} {q : Nat → List Value → Prop}

theorem stlR_bound (hl : z.cells.length ≤ 2000000) (hb : ∀ c ∈ z.cells, c.fields.length ≤ 2000000) : (stlR z n).cells.length ≤ 2000000 ∧ ∀ c ∈ (stlR z n).cells, c.fields.length ≤ 2000000 := by
  by_cases hd : stlOk z n
  · rw [stlR_t hd]
    have L := (vlazy_iff.1 hd.1).1
    have h1 := (settleL_len n.toNat (.inr hd.1)).1
    have L1 := (vlazy_iff.1 (settle_valid L n.toNat)).1
    exact ⟨by omega, fun c hc => by have := (L1.cell c hc).2.2.1; omega⟩
  · rw [stlR_f hd]
    exact ⟨Nat.zero_le _, fun c hc => by cases hc⟩
end

end Go.Vc
