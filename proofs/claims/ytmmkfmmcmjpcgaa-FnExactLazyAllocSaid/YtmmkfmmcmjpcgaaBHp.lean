/- Heaps of counted cells: what a valid one is. -/
import Derived.Test.YtmmkfmmcmjpcgaaBVcTac
namespace Go.Vc
open Go Go.RowKit
set_option linter.all false

structure CellD where
  count : Int
  tag : Int
  fields : List Int
deriving DecidableEq
instance : Inhabited CellD := ⟨⟨0, 0, []⟩⟩

instance : Dat CellD where
  sz := 3
  cells B w cs c := ∃ f : Sl, cs = [intV c.count, intV c.tag, f.val] ∧ InI c.count ∧ InI c.tag ∧ ReadB B w f c.fields
  mono := fun hs ⟨f, h1, h2, h3, h4⟩ => ⟨f, h1, h2, h3, h4.mono hs⟩
  len := fun ⟨f, h1, _⟩ => by rw [h1]; rfl
  one := fun ⟨f, h1, _⟩ v hv => by
    rw [h1] at hv; simp only [List.mem_cons, List.not_mem_nil, or_false] at hv
    rcases hv with rfl | rfl | rfl <;> rfl
theorem VOf.cell {u : World} {a b : Int} {f : Sl} {l : List Int} (ha : InI a) (hb : InI b) (hf : Read u f l) : VOf u (.agg #[.int .i64 a, .int .i64 b, f.val]) (CellD.mk a b l) := ⟨rfl, f, rfl, ha, hb, hf⟩

section
variable {u w : World} {x : Sl} {h : List CellD} {i : Int}
theorem Src.row {α : Type} [Dat α] [Inhabited α] {l : List α} (hx : Src u w x l) (h0 : 0 ≤ i) (h1 : i < l.length) :
    ∃ r, Dat.cells BB u r (nth l i) ∧ ∀ (j : Nat) (v : Value), r[j]? = some v → w.cell? ((elA x i (Dat.sz α)).add j) = some v := by
  obtain ⟨rows, hr, he, _⟩ := hx
  have hlt : i.toNat < rows.length := by rw [he.1]; omega
  have hg := List.getElem?_eq_getElem hlt
  exact ⟨_, he.2 _ _ _ hg (nth_get h0 h1), fun j v hv => hr.at_ h0 hg hv⟩
theorem Src.ix {α : Type} [Dat α] {l : List α} (hx : Src u w x l) (h0 : 0 ≤ i) (h1 : i < l.length) : IxOk x i := by
  obtain ⟨rows, hr, he, _⟩ := hx
  exact hr.ix h0 (by rw [he.1]; exact h1)
theorem Src.cell (hx : Src u w x h) (h0 : 0 ≤ i) (h1 : i < h.length) : ∃ f : Sl, w.cell? ((elA x i 3).add 0) = some (.int .i64 (nth h i).count) ∧ w.cell? ((elA x i 3).add 1) = some (.int .i64 (nth h i).tag) ∧
    w.cell? ((elA x i 3).add 2) = some f.val ∧ InI (nth h i).count ∧ InI (nth h i).tag ∧ Read u f (nth h i).fields := by
  obtain ⟨r, ⟨f, rfl, h2, h3, h4⟩, h5⟩ := hx.row h0 h1
  exact ⟨f, h5 0 _ rfl, h5 1 _ rfl, h5 2 _ rfl, h2, h3, h4⟩
theorem ld_cell (hx : Src u w x h) (h0 : 0 ≤ i) (h1 : i < h.length) {K : Int → Int → Sl → Prop}
    (k : ∀ f, Read u f (nth h i).fields → InI (nth h i).count → InI (nth h i).tag → K (nth h i).count (nth h i).tag f) :
    ∃ n1, ∃ n2, ∃ f : Sl, (w.cell? ((elA x i 3).add 0) = some (.int .i64 n1) ∧ w.cell? ((elA x i 3).add 1) = some (.int .i64 n2) ∧ w.cell? ((elA x i 3).add 2) = some f.val) ∧ K n1 n2 f := by
  obtain ⟨f, a1, a2, a3, a4, a5, a6⟩ := hx.cell h0 h1
  exact ⟨_, _, f, ⟨a1, a2, a3⟩, k f a6 a4 a5⟩
theorem ld_count (hx : Src u w x h) (h0 : 0 ≤ i) (h1 : i < h.length) {K : Int → Prop} (k : -9223372036854775808 ≤ (nth h i).count → (nth h i).count ≤ 9223372036854775807 → K (nth h i).count) :
    ∃ n, w.cell? ((elA x i 3).add 0) = some (.int .i64 n) ∧ K n := by
  obtain ⟨f, a1, a2, a3, a4, a5, a6⟩ := hx.cell h0 h1
  exact ⟨_, a1, k a4.1 a4.2⟩
theorem ld_countg {C : Prop} (hx : Src u w x h) (h0 : C → 0 ≤ i ∧ i < h.length) {K : Int → Prop} (k : K (nth h i).count) :
    ∃ n, (C → w.cell? ((elA x i 3).add 0) = some (.int .i64 n)) ∧ K n :=
  ⟨_, fun hc => let ⟨_, a1, _⟩ := hx.cell (h0 hc).1 (h0 hc).2; a1, k⟩
theorem ld_tag (hx : Src u w x h) (h0 : 0 ≤ i) (h1 : i < h.length) {K : Int → Prop} (k : -9223372036854775808 ≤ (nth h i).tag → (nth h i).tag ≤ 9223372036854775807 → K (nth h i).tag) :
    ∃ n, w.cell? ((elA x i 3).add 1) = some (.int .i64 n) ∧ K n := by
  obtain ⟨f, a1, a2, a3, a4, a5, a6⟩ := hx.cell h0 h1
  exact ⟨_, a2, k a5.1 a5.2⟩
theorem ld_fields (hx : Src u w x h) (h0 : 0 ≤ i) (h1 : i < h.length) {K : Sl → Prop} (k : ∀ f, Read u f (nth h i).fields → K f) :
    ∃ f : Sl, w.cell? ((elA x i 3).add 2) = some f.val ∧ K f := by
  obtain ⟨f, a1, a2, a3, a4, a5, a6⟩ := hx.cell h0 h1
  exact ⟨_, a3, k f a6⟩
theorem ld_fieldsg {C : Prop} (hx : Src u w x h) (h0 : C → 0 ≤ i ∧ i < h.length) {K : Sl → Prop} (k : ∀ f, (C → Read u f (nth h i).fields) → K f) :
    ∃ f : Sl, (C → w.cell? ((elA x i 3).add 2) = some f.val) ∧ K f := by
  rcases Classical.em C with hc | hc
  · obtain ⟨f, a1, a2, a3, a4, a5, a6⟩ := hx.cell (h0 hc).1 (h0 hc).2
    exact ⟨f, fun _ => a3, k f fun _ => a6⟩
  · exact ⟨⟨none, 0, 0⟩, fun h => absurd h hc, k _ fun h => absurd h hc⟩
end

/-! ### the law of heaps -/
def live (h : List CellD) (w : Int) : Bool := decide (1000 ≤ w) && decide (w - 1000 < h.length) && decide (0 < (nth h (w - 1000)).count)
def word (h : List CellD) (w : Int) : Bool := (decide (-999 ≤ w) && decide (w ≤ 999)) || live h w
def icell (h : List CellD) (c : CellD) : Bool :=
  decide (c.fields.length ≤ 3) && decide (-1 ≤ c.count) && decide (0 ≤ c.tag) && decide (c.tag ≤ 99) && decide (c.count < 1 → c.tag = 0) && decide (c.count = 0 → c.fields = []) &&
    c.fields.all fun f => word h f && decide (c.count < 0 → f = 0)
def vcell (h : List CellD) (c : CellD) : Bool := icell h c && decide (c.count ≤ 999999)
def cnt (h : List CellD) (ws : List Int) (k : Nat) : Int := (ws.countP fun w => live h w && decide (w = 1000 + (k : Int)) : Nat)
def refsW (h : List CellD) (n : Nat) (ws : List Int) : List Int := (List.range n).map (cnt h ws)
def words (h : List CellD) : List Int := h.flatMap (·.fields)
def refL (h : List CellD) : List Int := refsW h h.length (words h)
def Acyc (h : List CellD) : Prop := ∃ rk : Nat → Nat, ∀ (i : Nat) (c : CellD) (f : Int), h[i]? = some c → f ∈ c.fields → live h f = true → rk (f - 1000).toNat < rk i
def lastOk (h : List CellD) : Prop := 0 < h.length → (nth h (h.length - 1)).count ≠ 0
def countsOk (h : List CellD) : Prop := ∀ k : Nat, k < h.length → 0 < (nth h k).count → nth (refL h) k ≤ (nth h k).count
def vheap (h : List CellD) : Prop := lastOk h ∧ (∀ c ∈ h, vcell h c = true) ∧ countsOk h ∧ Acyc h
noncomputable def vheapB (h : List CellD) : Bool := @decide (vheap h) (Classical.propDecidable _)
noncomputable def acycB (h : List CellD) : Bool := @decide (Acyc h) (Classical.propDecidable _)

theorem vheapB_iff {h : List CellD} : vheapB h = true ↔ vheap h := by unfold vheapB; exact @decide_eq_true_iff _ (Classical.propDecidable _)
theorem acycB_iff {h : List CellD} : acycB h = true ↔ Acyc h := by unfold acycB; exact @decide_eq_true_iff _ (Classical.propDecidable _)

theorem live_spec {h : List CellD} {w : Int} (hl : live h w = true) : 1000 ≤ w ∧ w - 1000 < h.length ∧ 0 < (nth h (w - 1000)).count := by
  simpa [live, and_assoc] using hl
theorem icell_len {h : List CellD} {c : CellD} (hc : icell h c = true) : c.fields.length ≤ 3 := by
  simp only [icell, Bool.and_eq_true, decide_eq_true_eq] at hc; exact hc.1.1.1.1.1.1
theorem vcell_i {h : List CellD} {c : CellD} (hc : vcell h c = true) : icell h c = true := by
  simp only [vcell, Bool.and_eq_true] at hc; exact hc.1

theorem length_refsW (h : List CellD) (n : Nat) (ws : List Int) : (refsW h n ws).length = n := by simp [refsW]
theorem length_refs (h : List CellD) : (refL h).length = h.length := length_refsW _ _ _
theorem nth_refsW {h : List CellD} {n : Nat} {ws : List Int} {k : Int} (h0 : 0 ≤ k) (h1 : k < n) : nth (refsW h n ws) k = cnt h ws k.toNat := by
  refine nth_of ?_
  have : k.toNat < n := by omega
  simp [refsW, this]
theorem cnt_append (h : List CellD) (a b : List Int) (k : Nat) : cnt h (a ++ b) k = cnt h a k + cnt h b k := by simp [cnt, List.countP_append]
theorem cnt_le (h : List CellD) (a : List Int) (k : Nat) : 0 ≤ cnt h a k ∧ cnt h a k ≤ a.length := ⟨by simp [cnt], by simp only [cnt]; have := List.countP_le_length (p := fun w => live h w && decide (w = 1000 + (k : Int))) (l := a); omega⟩
theorem refsW_live {h : List CellD} {n : Nat} {ws : List Int} {w : Int} (hl : live h w = true) (hn : h.length ≤ n) :
    refsW h n (ws ++ [w]) = (refsW h n ws).set (w - 1000).toNat (nth (refsW h n ws) (w - 1000) + 1) := by
  obtain ⟨h1, h2, h3⟩ := live_spec hl
  apply List.ext_getElem?
  intro k
  rw [List.getElem?_set, length_refsW]
  by_cases hk : k < n
  · have e1 : (refsW h n (ws ++ [w]))[k]? = some (cnt h (ws ++ [w]) k) := by simp [refsW, hk]
    rw [e1, cnt_append]
    by_cases he : (w - 1000).toNat = k
    · rw [if_pos he, if_pos (by omega), nth_refsW (by omega) (by omega), he]
      have : w = 1000 + (k : Int) := by omega
      rw [this] at hl ⊢
      simp [cnt, hl]
    · rw [if_neg he]
      have : (refsW h n ws)[k]? = some (cnt h ws k) := by simp [refsW, hk]
      rw [this]
      have : ¬ w = 1000 + (k : Int) := by omega
      simp [cnt, hl, this]
  · have e1 : (refsW h n (ws ++ [w]))[k]? = none := by simp [refsW]; omega
    have e2 : (refsW h n ws)[k]? = none := by simp [refsW]; omega
    rw [e1, e2]
    split
    · rw [if_neg (by omega)]
    · rfl
theorem refsW_dead {h : List CellD} {n : Nat} {ws : List Int} {w : Int} (hl : live h w = false) : refsW h n (ws ++ [w]) = refsW h n ws := by
  have : ∀ k, cnt h (ws ++ [w]) k = cnt h ws k := fun k => by rw [cnt_append]; simp [cnt, hl]
  simp [refsW, this]
theorem refsW_nil (h : List CellD) (n : Nat) : refsW h n [] = List.replicate n 0 := by
  apply List.ext_getElem?
  intro k
  by_cases hk : k < n
  · simp [refsW, cnt, hk]
  · simp [refsW, hk]
theorem words_take {h : List CellD} {i : Int} (h0 : 0 ≤ i) (h1 : i < h.length) : words (h.take (i + 1).toNat) = words (h.take i.toNat) ++ (nth h i).fields := by
  rw [take_nth h0 h1]; simp [words]
theorem words_len {h : List CellD} (hf : ∀ c ∈ h, c.fields.length ≤ 3) : (words h).length ≤ 3 * h.length := by
  induction h with
  | nil => simp [words]
  | cons c r ih =>
    have h1 := hf c List.mem_cons_self
    have h2 := ih fun c hc => hf c (List.mem_cons_of_mem _ hc)
    simp only [words, List.flatMap_cons, List.length_append, List.length_cons] at *
    omega
end Go.Vc
