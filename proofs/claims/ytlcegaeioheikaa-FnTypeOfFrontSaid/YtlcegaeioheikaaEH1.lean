/- Part of the proofs about the heaps and memories: a law is joined in the text whose name ends in W and the law. -/
import Derived.Test.YtlcegaeioheikaaEE4
namespace Go.Vc
open Go Go.RowKit
set_option linter.all false

structure CellD where
  count : Int
  tag : Int
  fields : List Int
deriving DecidableEq
instance : Inhabited CellD := ⟨⟨0, 0, []⟩⟩

instance : Dat CellD where
  sz := 3
  cells B w cs c := ∃ f : Sl, cs = [intV c.count, intV c.tag, f.val] ∧ InI c.count ∧ InI c.tag ∧ ReadB B w f c.fields
  mono := fun hs ⟨f, h1, h2, h3, h4⟩ => ⟨f, h1, h2, h3, h4.mono hs⟩
  len := fun ⟨f, h1, _⟩ => by rw [h1]; rfl
  one := fun ⟨f, h1, _⟩ v hv => by
    rw [h1] at hv; simp only [List.mem_cons, List.not_mem_nil, or_false] at hv
    rcases hv with rfl | rfl | rfl <;> rfl
theorem VOf.cell {u : World} {a b : Int} {f : Sl} {l : List Int} (ha : InI a) (hb : InI b) (hf : Read u f l) : VOf u (.agg #[.int .i64 a, .int .i64 b, f.val]) (CellD.mk a b l) := ⟨rfl, f, rfl, ha, hb, hf⟩

section
variable {u w : World} {x : Sl} {h : List CellD} {i : Int}
theorem Src.row {α : Type} [Dat α] [Inhabited α] {l : List α} (hx : Src u w x l) (h0 : 0 ≤ i) (h1 : i < l.length) :
    ∃ r, Dat.cells BB u r (nth l i) ∧ ∀ (j : Nat) (v : Value), r[j]? = some v → w.cell? ((elA x i (Dat.sz α)).add j) = some v := by
  obtain ⟨rows, hr, he, _⟩ := hx
  have hlt : i.toNat < rows.length := by rw [he.1]; omega
  have hg := List.getElem?_eq_getElem hlt
  exact ⟨_, he.2 _ _ _ hg (nth_get h0 h1), fun j v hv => hr.at_ h0 hg hv⟩
theorem Src.ix {α : Type} [Dat α] {l : List α} (hx : Src u w x l) (h0 : 0 ≤ i) (h1 : i < l.length) : IxOk x i := by
  obtain ⟨rows, hr, he, _⟩ := hx
  exact hr.ix h0 (by rw [he.1]; exact h1)
theorem Src.cell (hx : Src u w x h) (h0 : 0 ≤ i) (h1 : i < h.length) : ∃ f : Sl, w.cell? ((elA x i 3).add 0) = some (.int .i64 (nth h i).count) ∧ w.cell? ((elA x i 3).add 1) = some (.int .i64 (nth h i).tag) ∧
    w.cell? ((elA x i 3).add 2) = some f.val ∧ InI (nth h i).count ∧ InI (nth h i).tag ∧ Read u f (nth h i).fields := by
  obtain ⟨r, ⟨f, rfl, h2, h3, h4⟩, h5⟩ := hx.row h0 h1
  exact ⟨f, h5 0 _ rfl, h5 1 _ rfl, h5 2 _ rfl, h2, h3, h4⟩
theorem ld_cell (hx : Src u w x h) (h0 : 0 ≤ i) (h1 : i < h.length) {K : Int → Int → Sl → Prop}
    (k : ∀ f, Read u f (nth h i).fields → InI (nth h i).count → InI (nth h i).tag → K (nth h i).count (nth h i).tag f) :
    ∃ n1, ∃ n2, ∃ f : Sl, (w.cell? ((elA x i 3).add 0) = some (.int .i64 n1) ∧ w.cell? ((elA x i 3).add 1) = some (.int .i64 n2) ∧ w.cell? ((elA x i 3).add 2) = some f.val) ∧ K n1 n2 f := by
  obtain ⟨f, a1, a2, a3, a4, a5, a6⟩ := hx.cell h0 h1
  exact ⟨_, _, f, ⟨a1, a2, a3⟩, k f a6 a4 a5⟩
theorem ld_count (hx : Src u w x h) (h0 : 0 ≤ i) (h1 : i < h.length) {K : Int → Prop} (k : -9223372036854775808 ≤ (nth h i).count → (nth h i).count ≤ 9223372036854775807 → K (nth h i).count) :
    ∃ n, w.cell? ((elA x i 3).add 0) = some (.int .i64 n) ∧ K n := by
  obtain ⟨f, a1, a2, a3, a4, a5, a6⟩ := hx.cell h0 h1
  exact ⟨_, a1, k a4.1 a4.2⟩
theorem ld_countg {C : Prop} (hx : Src u w x h) (h0 : C → 0 ≤ i ∧ i < h.length) {K : Int → Prop} (k : K (nth h i).count) :
    ∃ n, (C → w.cell? ((elA x i 3).add 0) = some (.int .i64 n)) ∧ K n :=
  ⟨_, fun hc => let ⟨_, a1, _⟩ := hx.cell (h0 hc).1 (h0 hc).2; a1, k⟩
theorem ld_tag (hx : Src u w x h) (h0 : 0 ≤ i) (h1 : i < h.length) {K : Int → Prop} (k : -9223372036854775808 ≤ (nth h i).tag → (nth h i).tag ≤ 9223372036854775807 → K (nth h i).tag) :
    ∃ n, w.cell? ((elA x i 3).add 1) = some (.int .i64 n) ∧ K n := by
  obtain ⟨f, a1, a2, a3, a4, a5, a6⟩ := hx.cell h0 h1
  exact ⟨_, a2, k a5.1 a5.2⟩
theorem ld_fields (hx : Src u w x h) (h0 : 0 ≤ i) (h1 : i < h.length) {K : Sl → Prop} (k : ∀ f, Read u f (nth h i).fields → K f) :
    ∃ f : Sl, w.cell? ((elA x i 3).add 2) = some f.val ∧ K f := by
  obtain ⟨f, a1, a2, a3, a4, a5, a6⟩ := hx.cell h0 h1
  exact ⟨_, a3, k f a6⟩
theorem ld_fieldsg {C : Prop} (hx : Src u w x h) (h0 : C → 0 ≤ i ∧ i < h.length) {K : Sl → Prop} (k : ∀ f, (C → Read u f (nth h i).fields) → K f) :
    ∃ f : Sl, (C → w.cell? ((elA x i 3).add 2) = some f.val) ∧ K f := by
  rcases Classical.em C with hc | hc
  · obtain ⟨f, a1, a2, a3, a4, a5, a6⟩ := hx.cell (h0 hc).1 (h0 hc).2
    exact ⟨f, fun _ => a3, k f fun _ => a6⟩
  · exact ⟨⟨none, 0, 0⟩, fun h => absurd h hc, k _ fun h => absurd h hc⟩
end

/-! ### the law of heaps -/
def live (h : List CellD) (w : Int) : Bool := decide (1000 ≤ w) && decide (w - 1000 < h.length) && decide (0 < (nth h (w - 1000)).count)
def word (h : List CellD) (w : Int) : Bool := (decide (-999 ≤ w) && decide (w ≤ 999)) || live h w
def cnt (h : List CellD) (ws : List Int) (k : Nat) : Int := (ws.countP fun w => live h w && decide (w = 1000 + (k : Int)) : Nat)
def refsW (h : List CellD) (n : Nat) (ws : List Int) : List Int := (List.range n).map (cnt h ws)
def words (h : List CellD) : List Int := h.flatMap (·.fields)
def refL (h : List CellD) : List Int := refsW h h.length (words h)
def Acyc (h : List CellD) : Prop := ∃ rk : Nat → Nat, ∀ (i : Nat) (c : CellD) (f : Int), h[i]? = some c → f ∈ c.fields → live h f = true → rk (f - 1000).toNat < rk i
theorem live_spec {h : List CellD} {w : Int} (hl : live h w = true) : 1000 ≤ w ∧ w - 1000 < h.length ∧ 0 < (nth h (w - 1000)).count := by
  simpa [live, and_assoc] using hl
theorem length_refsW (h : List CellD) (n : Nat) (ws : List Int) : (refsW h n ws).length = n := by simp [refsW]
theorem length_refs (h : List CellD) : (refL h).length = h.length := length_refsW _ _ _
theorem nth_refsW {h : List CellD} {n : Nat} {ws : List Int} {k : Int} (h0 : 0 ≤ k) (h1 : k < n) : nth (refsW h n ws) k = cnt h ws k.toNat := by
  refine nth_of ?_
  have : k.toNat < n := by omega
  simp [refsW, this]
theorem cnt_append (h : List CellD) (a b : List Int) (k : Nat) : cnt h (a ++ b) k = cnt h a k + cnt h b k := by simp [cnt, List.countP_append]
theorem words_take {h : List CellD} {i : Int} (h0 : 0 ≤ i) (h1 : i < h.length) : words (h.take (i + 1).toNat) = words (h.take i.toNat) ++ (nth h i).fields := by
  rw [take_nth h0 h1]; simp [words]
end Go.Vc

namespace Go.Vc
open Go
set_option linter.all false

/-- a rank of the marked cells -/
def Rk (h : List CellD) (m : List Bool) (rk : Nat → Nat) (many : Int) : Prop :=
  ∀ (i : Int), 0 ≤ i → i < h.length → nth m i = true → (rk i.toNat : Int) < many ∧ ∀ f ∈ (nth h i).fields, 1000 ≤ f → nth m (f - 1000) = true ∧ rk (f - 1000).toNat < rk i.toNat
def wordsOk (h : List CellD) : Prop := ∀ c ∈ h, ∀ f ∈ c.fields, word h f = true
/-- all pointers among the words are marked -/
def allM (m : List Bool) (l : List Int) : Prop := ∀ f ∈ l, 1000 ≤ f → nth m (f - 1000) = true

theorem word_ptr {h : List CellD} {f : Int} (hw : word h f = true) (h1 : 1000 ≤ f) : live h f = true := by
  simp only [word, Bool.or_eq_true, Bool.and_eq_true, decide_eq_true_eq] at hw
  rcases hw with hw | hw
  · omega
  · exact hw
theorem wordsOk.ptr {h : List CellD} (hw : wordsOk h) {i : Int} (h0 : 0 ≤ i) (h1 : i < h.length) : ∀ f ∈ (nth h i).fields, 1000 ≤ f → live h f = true := fun f hf hp => word_ptr (hw _ (nth_mem h0 h1) f hf) hp

theorem nth_nat {α : Type} [Inhabited α] {l : List α} {i : Nat} (h : i < l.length) : nth l (i : Int) = l[i] := nth_of (by simp [h])
theorem count_all {m : List Bool} (h : m.count true = m.length) {i : Int} (h0 : 0 ≤ i) (h1 : i < m.length) : nth m i = true := by
  rw [List.count_eq_length] at h
  exact (h _ (nth_mem h0 h1)).symm

theorem Rk.grow {h : List CellD} {m : List Bool} {rk : Nat → Nat} {many i : Int} (hr : Rk h m rk many) (hl : m.length = h.length) (hmany : 0 ≤ many) (h0 : 0 ≤ i) (h1 : i < h.length) (hm : nth m i = false) (ha : allM m (nth h i).fields) (hw : wordsOk h) :
    Rk h (m.set i.toNat true) (fun k => if k = i.toNat then many.toNat else rk k) (many + 1) := by
  intro k k0 k1 hk
  rw [nth_set _ _ _ _ h0 (by omega) k0] at hk
  by_cases e : k = i
  · subst e
    refine ⟨by simp; omega, fun f hf hp => ?_⟩
    obtain ⟨p1, p2, p3⟩ := live_spec (hw.ptr h0 h1 f hf hp)
    have hfm := ha f hf hp
    have hne : f - 1000 ≠ k := fun e => by rw [e, hm] at hfm; cases hfm
    refine ⟨by rw [nth_set _ _ _ _ h0 (by omega) (by omega), if_neg hne]; exact hfm, ?_⟩
    have := (hr (f - 1000) (by omega) p2 hfm).1
    dsimp only
    rw [if_neg (by omega), if_pos rfl]
    omega
  · rw [if_neg e] at hk
    obtain ⟨q1, q2⟩ := hr k k0 k1 hk
    refine ⟨by dsimp only; rw [if_neg (by omega)]; omega, fun f hf hp => ?_⟩
    obtain ⟨q3, q4⟩ := q2 f hf hp
    obtain ⟨p1, p2, p3⟩ := live_spec (hw.ptr k0 k1 f hf hp)
    have hne : f - 1000 ≠ i := fun e => by rw [e, hm] at q3; cases q3
    refine ⟨by rw [nth_set _ _ _ _ h0 (by omega) (by omega), if_neg hne]; exact q3, ?_⟩
    dsimp only
    rw [if_neg (by omega), if_neg (by omega)]
    exact q4

end Go.Vc

namespace Go.Vc
open Go
set_option linter.all false

def sumN (n : Nat) (f : Nat → Int) : Int := ((List.range n).map f).sum
theorem sumN_succ (n : Nat) (f : Nat → Int) : sumN (n + 1) f = sumN n f + f n := by simp [sumN, List.range_succ]
theorem sumN_zero (f : Nat → Int) : sumN 0 f = 0 := rfl
theorem sumN_pos {n : Nat} {f : Nat → Int} (h : sumN n f ≠ 0) : ∃ i, i < n ∧ f i ≠ 0 := by
  induction n with
  | zero => exact absurd rfl h
  | succ n ih =>
    rw [sumN_succ] at h
    by_cases e : f n = 0
    · rw [e, Int.add_zero] at h
      obtain ⟨i, h1, h2⟩ := ih h
      exact ⟨i, by omega, h2⟩
    · exact ⟨n, by omega, e⟩

def cntN (h : List CellD) (gone : List Bool) (k : Nat) : Int := sumN h.length fun i => if nth gone (i : Int) then 0 else cnt h (nth h (i : Int)).fields k
theorem cntN_start {h : List CellD} {gone : List Bool} (hg : ∀ i : Nat, i < h.length → nth gone (i : Int) = false) (k : Nat) : cntN h gone k = cnt h (words h) k := by
  have : ∀ n : Nat, n ≤ h.length → sumN n (fun i => if nth gone (i : Int) then 0 else cnt h (nth h (i : Int)).fields k) = cnt h (words (h.take n)) k := by
    intro n
    induction n with
    | zero => intro _; simp [sumN_zero, words, cnt]
    | succ n ih =>
      intro hn
      have := words_take (h := h) (i := (n : Int)) (by omega) (by omega)
      rw [show ((n : Int) + 1).toNat = n + 1 from by omega, show (n : Int).toNat = n from by omega] at this
      rw [sumN_succ, ih (by omega), this, cnt_append, hg n (by omega)]; rfl
  rw [cntN, this h.length (Nat.le_refl _), List.take_length]
theorem cntN_pos {h : List CellD} {gone : List Bool} {k : Nat} (hc : cntN h gone k ≠ 0) : ∃ i : Nat, i < h.length ∧ nth gone (i : Int) = false ∧ cnt h (nth h (i : Int)).fields k ≠ 0 := by
  obtain ⟨i, h1, h2⟩ := sumN_pos hc
  cases hg : nth gone (i : Int) with
  | true => rw [hg] at h2; simp at h2
  | false => rw [hg] at h2; exact ⟨i, h1, hg, by simpa using h2⟩
theorem cnt_pos {h : List CellD} {ws : List Int} {k : Nat} (hc : cnt h ws k ≠ 0) : ∃ f ∈ ws, live h f = true ∧ f = 1000 + k := by
  have : 0 < ws.countP (fun w => live h w && decide (w = 1000 + (k : Int))) := by simp only [cnt] at hc; omega
  obtain ⟨f, h1, h2⟩ := List.countP_pos_iff.1 this
  simp only [Bool.and_eq_true, decide_eq_true_eq] at h2
  exact ⟨f, h1, h2⟩
theorem cnt_mem {h : List CellD} {ws : List Int} {f : Int} (hf : f ∈ ws) (hl : live h f = true) : cnt h ws (f - 1000).toNat ≠ 0 := by
  obtain ⟨p1, _, _⟩ := live_spec hl
  have : 0 < ws.countP (fun w => live h w && decide (w = 1000 + ((f - 1000).toNat : Int))) := List.countP_pos_iff.2 ⟨f, hf, by simp only [Bool.and_eq_true, decide_eq_true_eq]; exact ⟨hl, by omega⟩⟩
  simp only [cnt]; omega

/-- the state of the taking away: 'rest' are the words of the cell at hand that are not yet seen -/
structure Kahn (h : List CellD) (left work : List Int) (gone : List Bool) (rest : List Int) (many : Int) : Prop where
  ll : left.length = h.length
  gl : gone.length = h.length
  left_ : ∀ k : Nat, k < h.length → nth left (k : Int) = cntN h gone k + cnt h rest k
  wk : ∀ k ∈ work, 0 ≤ k ∧ k < h.length
  nd : work.Nodup
  mem : ∀ k : Int, 0 ≤ k → k < h.length → (k ∈ work ↔ nth left k = 0 ∧ nth gone k = false)
  zero : ∀ k : Int, 0 ≤ k → k < h.length → nth gone k = true → nth left k = 0
  many_ : many = (gone.count true : Nat)
  ord : ∃ o : Nat → Nat, ∀ k : Nat, k < h.length → nth gone (k : Int) = true → (o k : Int) < many ∧ ∀ i : Nat, i < h.length → cnt h (nth h (i : Int)).fields k ≠ 0 → nth gone (i : Int) = true ∧ o i < o k

theorem Kahn.start {h : List CellD} {left work : List Int} (hl : left = refL h) (hw : ∀ k ∈ work, 0 ≤ k ∧ k < h.length) (hn : work.Nodup) (hm : ∀ k : Int, 0 ≤ k → k < h.length → (k ∈ work ↔ nth left k = 0)) :
    Kahn h left work (List.replicate h.length false) [] 0 := by
  have hr : ∀ k : Int, 0 ≤ k → k < h.length → nth (List.replicate h.length false) k = false := fun k h0 h1 => nth_of (List.getElem?_replicate_of_lt (by omega))
  refine ⟨by rw [hl, length_refs], by simp, fun k hk => ?_, hw, hn, fun k h0 h1 => ?_, fun k h0 h1 hg => ?_, by simp [List.count_replicate], fun _ => 0, fun k hk hg => ?_⟩
  · rw [hl, refL, nth_refsW (by omega) (by omega), cntN_start fun i hi => hr _ (by omega) (by omega)]; simp [cnt]
  · rw [hm k h0 h1, hr k h0 h1]; simp
  · rw [hr k h0 h1] at hg; cases hg
  · rw [hr k (by omega) (by omega)] at hg; cases hg

theorem cnt_cons (h : List CellD) (f : Int) (r : List Int) (k : Nat) : cnt h (f :: r) k = cnt h [f] k + cnt h r k := by
  rw [show f :: r = [f] ++ r from rfl, cnt_append]

/-- a word that is no pointer -/
theorem Kahn.skip {h : List CellD} {left ws rest : List Int} {gone : List Bool} {many f : Int} (K : Kahn h left ws gone (f :: rest) many) (hf : live h f = false) : Kahn h left ws gone rest many := by
  refine ⟨K.ll, K.gl, fun k hk => ?_, K.wk, K.nd, K.mem, K.zero, K.many_, K.ord⟩
  rw [K.left_ k hk, cnt_cons]
  simp [cnt, hf]

theorem Kahn.end_ {h : List CellD} {left : List Int} {gone : List Bool} {many : Int} (K : Kahn h left [] gone [] many) : many = h.length ↔ Acyc h := by
  have hgl := K.gl
  constructor
  · intro e
    have hall : ∀ i : Nat, i < h.length → nth gone (i : Int) = true := fun i hi => count_all (by rw [← Int.ofNat_inj]; have := K.many_; omega) (by omega) (by omega)
    obtain ⟨o, ho⟩ := K.ord
    refine ⟨fun k => h.length - o k, fun i c f hi hf hlv => ?_⟩
    have hlt : i < h.length := by rcases Nat.lt_or_ge i h.length with hl | hg; exact hl; rw [List.getElem?_eq_none hg] at hi; cases hi
    have hci : nth h (i : Int) = c := nth_of (by simpa using hi)
    obtain ⟨p1, p2, p3⟩ := live_spec hlv
    have h1 := ho (f - 1000).toNat (by omega) (hall _ (by omega))
    have h2 := h1.2 i hlt (by rw [hci]; exact cnt_mem hf hlv)
    have := h1.1
    show h.length - o (f - 1000).toNat < h.length - o i
    omega
  · rintro ⟨rk, hrk⟩
    have hmax : ∃ M, ∀ i, i < h.length → rk i ≤ M := by
      have : ∀ n : Nat, ∃ M, ∀ i, i < n → rk i ≤ M := by
        intro n
        induction n with
        | zero => exact ⟨0, fun i hi => by omega⟩
        | succ n ih =>
          obtain ⟨M, hM⟩ := ih
          refine ⟨max M (rk n), fun i hi => ?_⟩
          by_cases e : i = n
          · subst e; omega
          · have := hM i (by omega); omega
      exact this h.length
    obtain ⟨M, hM⟩ := hmax
    have hall : ∀ (d : Nat) (k : Nat), k < h.length → M - rk k < d → nth gone (k : Int) = true := by
      intro d
      induction d with
      | zero => intro k _ h; omega
      | succ d ih =>
        intro k hk hd
        cases hg : nth gone (k : Int) with
        | true => rfl
        | false =>
          have hl : nth left (k : Int) ≠ 0 := fun e => by
            have := (K.mem k (by omega) (by omega)).2 ⟨e, hg⟩
            cases this
          have hc : cntN h gone k ≠ 0 := by have := K.left_ k hk; simp [cnt] at this; omega
          obtain ⟨i, hi, hgi, hci⟩ := cntN_pos hc
          obtain ⟨f, hf, hlv, hfe⟩ := cnt_pos hci
          have hr := hrk i _ f (nth_get (l := h) (i := (i : Int)) (by omega) (by omega)) hf hlv
          rw [show (f - 1000).toNat = k from by omega] at hr
          have := hM i hi
          have := ih i hi (by omega)
          rw [hgi] at this; cases this
    have : gone.count true = gone.length := by
      rw [List.count_eq_length]
      intro b hb
      obtain ⟨i, hi, rfl⟩ := List.getElem_of_mem hb
      have := hall (M - rk i + 1) i (by omega) (by omega)
      rw [nth_nat (l := gone) hi] at this
      exact this.symm
    have := K.many_
    omega
end Go.Vc

namespace Go.Vc
open Go Go.RowKit
set_option linter.all false

class DatO (α : Type) extends Dat α where
  own : List Value → α → Items → Prop
  read : ∀ {w : World} {cs : List Value} {a : α} {I : Items}, own cs a I → AtAll w I → cells BB w cs a

/-- a slice whose elements, and what they hold, lie in blocks of one's own -/
def OwnD {α : Type} [DatO α] (x : Sl) (l : List α) (I : Items) : Prop :=
  ∃ (rows : List (List Value)) (I0 : Items) (Is : List Items) (E : Items), OSl (Dat.sz α) x rows I0 ∧ rows.length = l.length ∧ Is.length = l.length ∧
    (∀ (i : Nat) (r : List Value) (a : α) (K : Items), rows[i]? = some r → l[i]? = some a → Is[i]? = some K → DatO.own r a K) ∧ I.Perm (I0 ++ (Is.flatten ++ E)) ∧ l.length ≤ BB

theorem perm_flatten_mid {Is : List Items} {i : Nat} {K : Items} (h : Is[i]? = some K) : Is.flatten.Perm (K ++ (Is.take i ++ Is.drop (i + 1)).flatten) := by
  obtain ⟨hlt, e⟩ := List.getElem?_eq_some_iff.1 h
  subst e
  have : Is = Is.take i ++ (Is[i] :: Is.drop (i + 1)) := by
    rw [List.getElem_cons_drop hlt, List.take_append_drop]
  conv => lhs; rw [this]
  simp only [List.flatten_append, List.flatten_cons]
  rw [← List.append_assoc, ← List.append_assoc]
  exact List.perm_append_comm.append_right _
theorem set_flatten_mid {Is : List Items} {i : Nat} {K K' : Items} (h : Is[i]? = some K) : (Is.set i K').flatten.Perm (K' ++ (Is.take i ++ Is.drop (i + 1)).flatten) := by
  obtain ⟨hlt, e⟩ := List.getElem?_eq_some_iff.1 h
  have h2 : (Is.set i K')[i]? = some K' := by simp [hlt]
  have := perm_flatten_mid h2
  rwa [List.take_set_of_le (Nat.le_refl _), List.drop_set_of_lt (by omega)] at this

section
variable {α : Type} [DatO α] {u w w' : World} {x y : Sl} {l : List α} {L I J R : Items} {F : Items → Items}

theorem OwnD.n (h : OwnD x l I) : x.n = l.length := let ⟨_, _, _, _, h1, h2, _⟩ := h; h1.len.trans h2
theorem OwnD.le (h : OwnD x l I) : l.length ≤ 1099511627776 := let ⟨_, _, _, _, _, _, _, _, _, h⟩ := h; h
theorem OwnD.perm {I' : Items} (h : OwnD x l I) (hp : I'.Perm I) : OwnD x l I' := let ⟨a, b, c, d, h1, h2, h3, h4, h5, h6⟩ := h; ⟨a, b, c, d, h1, h2, h3, h4, hp.trans h5, h6⟩
theorem OwnD.nil : OwnD ⟨none, 0, 0⟩ ([] : List α) [] := ⟨[], [], [], [], .nil, rfl, rfl, fun i r a K h => by simp at h, by simp, Nat.zero_le _⟩
/-- all of it lies at w -/
theorem OwnD.readA (h : OwnD x l I) (hA : AtAll w I) : Read w x l := by
  obtain ⟨rows, I0, Is, E, h1, h2, h3, h4, h5, h6⟩ := h
  have hA' := hA.perm h5.symm
  refine ⟨rows, h1.rd fun p hp => hA' p (List.mem_append_left _ hp), ⟨h2, fun i r a hr ha => ?_⟩, h6⟩
  have hlt : i < Is.length := by rcases Nat.lt_or_ge i rows.length with hl | hg; omega; rw [List.getElem?_eq_none hg] at hr; cases hr
  refine DatO.read (h4 i r a _ hr ha (List.getElem?_eq_getElem hlt)) fun p hp => hA' p (List.mem_append_right _ (List.mem_append_left _ ?_))
  exact List.mem_flatten.2 ⟨_, List.getElem_mem hlt, hp⟩
theorem OwnD.read (h : OwnD x l I) (hS : St u w L) [p : Pos I L R F] : Read w x l := h.readA hS.items
theorem OwnD.read1 (h : OwnD x l I) (hS : St u w I) : Read w x l := h.readA hS.at_
theorem OwnD.src (h : OwnD x l I) (hS : St u w L) [p : Pos I L R F] : Src w w x l := (h.read hS).src (.refl w)
theorem OwnD.ix (h : OwnD x l I) {i : Int} (h0 : 0 ≤ i) (h1 : i < l.length) : IxOk x i := by
  obtain ⟨rows, I0, Is, E, k1, k2, _⟩ := h
  cases k1 with
  | nil => simp at k2; omega
  | blk g o n c cur e _ hn hc hm hs hr => exact ⟨rfl, h0, by simp only [] at *; omega⟩

/-- cells of one element are stored; what it holds goes from K to K' -/
theorem OwnD.store [Inhabited α] (h : OwnD x l I) (hS : St u w L) [p : Pos I L R F] {i : Int} (h0 : 0 ≤ i) (h1 : i < l.length) {off : Nat} {vals : List Value} {Kt : World → Prop} (a : α) (J : Items)
    (hv : off + vals.length ≤ Dat.sz α)
    (hc : ∀ r K, DatO.own r (nth l i) K → ∃ K', DatO.own (putR r off vals) a K' ∧ (K' = J ∨ (J = [] ∧ K' = K)))
    (k : ∀ w' I', OwnD x (l.set i.toNat a) (I' ++ J) → St u w' (I' ++ R) → Kt w') : StoreAt w (elA x i (Dat.sz α)) off vals Kt := by
  obtain ⟨rows, I0, Is, E, k1, k2, k3, k4, k5, k6⟩ := h
  have hr : i.toNat < rows.length := by omega
  have hI : i.toNat < Is.length := by omega
  have er := List.getElem?_eq_getElem hr
  have eI := List.getElem?_eq_getElem hI
  have ep := perm_flatten_mid eI
  have hS' : St u w (I0 ++ (Is.flatten ++ E ++ R)) := (hS.perm p.perm.symm).perm (by rw [← List.append_assoc]; exact (k5.symm).append_right R)
  obtain ⟨c1, I', c2, c3⟩ := k1.store hS' h0 er hv
  obtain ⟨K', ho, hK⟩ := hc _ _ (k4 _ _ _ _ er (nth_get h0 h1) eI)
  refine ⟨c1, k _ (I' ++ (Is.flatten ++ E)) ?_ (by simpa using c3)⟩
  have hels : ∀ (Kx : Items), DatO.own (putR rows[i.toNat] off vals) a Kx → ∀ (j : Nat) (r : List Value) (b : α) (K : Items), (rows.set i.toNat (putR rows[i.toNat] off vals))[j]? = some r → (l.set i.toNat a)[j]? = some b → (Is.set i.toNat Kx)[j]? = some K → DatO.own r b K := by
    intro Kx hKx j r b K hr' ha' hK'
    rw [List.getElem?_set] at ha' hK' hr'
    by_cases e : i.toNat = j
    · subst e
      rw [if_pos rfl, if_pos (by omega)] at ha' hK' hr'
      simp only [Option.some.injEq] at ha' hK' hr'
      subst ha'; subst hK'; subst hr'
      exact hKx
    · rw [if_neg e] at ha' hK' hr'
      exact k4 j r b K hr' ha' hK'
  have es := set_flatten_mid (K' := K') eI
  rcases hK with rfl | ⟨rfl, rfl⟩
  · refine ⟨_, I', _, Is[i.toNat] ++ E, c2, by simpa using k2, by simp [k3], hels _ ho, ?_, by simpa using k6⟩
    classical
    exact List.perm_iff_count.2 fun a => by have h1 := ep.count_eq a; have h2 := es.count_eq a; simp only [List.count_append] at *; omega
  · refine ⟨_, I', Is.set i.toNat Is[i.toNat], E, c2, by simpa using k2, by simp [k3], hels _ ho, ?_, by simpa using k6⟩
    rw [List.append_nil]
    exact List.Perm.append_left I' (List.Perm.append_right E (ep.trans es.symm))

/-- what one element holds is set apart; its row may be stored anew -/
theorem OwnD.apart [Inhabited α] (h : OwnD x l I) {i : Int} (h0 : 0 ≤ i) (h1 : i < l.length) :
    ∃ (r : List Value) (K Rest : Items), DatO.own r (nth l i) K ∧ I.Perm (K ++ Rest) ∧ (∀ w : World, AtAll w Rest → ∀ (j : Nat) (v : Value), r[j]? = some v → w.cell? ((elA x i (Dat.sz α)).add j) = some v) ∧
      ∀ {u w : World} {L R : Items} {F : Items → Items} {off : Nat} {vals : List Value} {a : α} {J : Items} {Kt : World → Prop}, St u w L → ∀ [p : Pos Rest L R F], off + vals.length ≤ Dat.sz α → DatO.own (putR r off vals) a J →
        (∀ w' Rest', OwnD x (l.set i.toNat a) (Rest' ++ J) → St u w' (Rest' ++ R) → Kt w') → StoreAt w (elA x i (Dat.sz α)) off vals Kt := by
  obtain ⟨rows, I0, Is, E, k1, k2, k3, k4, k5, k6⟩ := h
  have hr : i.toNat < rows.length := by omega
  have hI : i.toNat < Is.length := by omega
  have er := List.getElem?_eq_getElem hr
  have eI := List.getElem?_eq_getElem hI
  have ep := perm_flatten_mid eI
  have hp : I.Perm (Is[i.toNat] ++ (I0 ++ ((Is.take i.toNat ++ Is.drop (i.toNat + 1)).flatten ++ E))) := by
    classical
    exact List.perm_iff_count.2 fun a => by have h1 := k5.count_eq a; have h2 := ep.count_eq a; simp only [List.count_append] at *; omega
  refine ⟨rows[i.toNat], Is[i.toNat], _, k4 _ _ _ _ er (nth_get h0 h1) eI, hp, fun w hA j v hv => ?_, ?_⟩
  · exact (k1.rd (w := w) fun p hp => hA p (List.mem_append_left _ hp)).at_ h0 er hv
  · intro u w L R F off vals a J Kt hS p hv ho k
    have hS' : St u w (I0 ++ (((Is.take i.toNat ++ Is.drop (i.toNat + 1)).flatten ++ E) ++ R)) := by have := hS.perm p.perm.symm; simpa using this
    obtain ⟨c1, I', c2, c3⟩ := k1.store hS' h0 er hv
    refine ⟨c1, k _ (I' ++ ((Is.take i.toNat ++ Is.drop (i.toNat + 1)).flatten ++ E)) ⟨_, I', Is.set i.toNat J, E, c2, by simpa using k2, by simpa using k3, fun j r b K hr' ha' hK' => ?_, ?_, by simpa using k6⟩ (by simpa using c3)⟩
    · rw [List.getElem?_set] at ha' hK' hr'
      by_cases e : i.toNat = j
      · subst e
        rw [if_pos rfl, if_pos (by omega)] at ha' hK' hr'
        simp only [Option.some.injEq] at ha' hK' hr'
        subst ha'; subst hK'; subst hr'
        exact ho
      · rw [if_neg e] at ha' hK' hr'
        exact k4 j r b K hr' ha' hK'
    · have es := set_flatten_mid (K' := J) eI
      classical
      exact List.perm_iff_count.2 fun a => by have h2 := es.count_eq a; simp only [List.count_append] at *; omega

/-- append(x, a): a row that is owned goes in -/
theorem OwnD.push {P : Program} {t ty : TypeId} {bytes : Nat} {zc : List Value} [hT : SlT P t (Dat.sz α) bytes zc] {cs : List Value} {a : α} (h : OwnD x l I) (hS : St u w L) [p : Pos I L R F]
    (hy : Rows w y (Dat.sz α) [cs]) (ho : DatO.own cs a J) (hw : Dat.cells BB w cs a) (hb : l.length + 1 ≤ 1099511627776) (hby : bytes ≤ 128) {Q : Value → World → Prop}
    (k : ∀ x' w' I', OwnD x' (l ++ [a]) (I' ++ J) → St u w' (I' ++ R) → Q x'.val w') : StepT P (Builtin.append_ #[t, t] ty #[x.val, y.val]) w Q := by
  obtain ⟨rows, I0, Is, E, k1, k2, k3, k4, k5, k6⟩ := h
  have hS' : St u w (I0 ++ (Is.flatten ++ E ++ R)) := (hS.perm p.perm.symm).perm (by rw [← List.append_assoc]; exact (k5.symm).append_right R)
  have hAI : AtAll w (I0 ++ (Is.flatten ++ E)) := fun q hq => hS'.at_ q (by rw [← List.append_assoc]; exact List.mem_append_left _ hq)
  have hcl : ∀ (i : Nat) (r : List Value), rows[i]? = some r → r.length = Dat.sz α := by
    intro i r hr
    have hlt : i < rows.length := by rcases Nat.lt_or_ge i rows.length with hl | hg; exact hl; rw [List.getElem?_eq_none hg] at hr; cases hr
    have h3 := k4 i r _ _ hr (List.getElem?_eq_getElem (show i < l.length by omega)) (List.getElem?_eq_getElem (show i < Is.length by omega))
    exact Dat.len (DatO.read h3 (w := w) fun q hq => hAI q (List.mem_append_right _ (List.mem_append_left _ (List.mem_flatten.2 ⟨_, List.getElem_mem _, hq⟩))))
  have hle : (rows.length + [cs].length) * bytes ≤ 1099511627776 * 128 := Nat.mul_le_mul (by simp; omega) hby
  refine k1.append hS' hy (fun r hr => by rw [List.mem_singleton.1 hr]; exact Dat.len hw) (fun r hr => by rw [List.mem_singleton.1 hr]; exact Dat.one hw) (fun r hr => by obtain ⟨i, hi, rfl⟩ := List.getElem_of_mem hr; exact hcl i _ (List.getElem?_eq_getElem hi)) hle (by simp only [maxLen, List.length_singleton]; omega) fun x' w' I' c1 c2 => ?_
  refine k x' w' (I' ++ (Is.flatten ++ E)) ⟨_, I', Is ++ [J], E, c1, by simp [k2], by simp [k3], fun i r b K hr hb hK => ?_, ?_, by simp; omega⟩ (by simpa using c2)
  · rcases Nat.lt_or_ge i rows.length with hlt | hge
    · rw [List.getElem?_append_left hlt] at hr
      rw [List.getElem?_append_left (by omega)] at hb hK
      exact k4 i r b K hr hb hK
    · rw [List.getElem?_append_right hge] at hr
      rw [List.getElem?_append_right (by omega)] at hb hK
      have : i = rows.length := by
        rcases Nat.lt_or_ge (i - rows.length) 1 with h | h
        · omega
        · rw [List.getElem?_eq_none (by simpa using h)] at hr; cases hr
      subst this
      simp [k2, k3] at hr hb hK
      subst hr; subst hb; subst hK
      exact ho
  · rw [List.append_assoc, List.flatten_append]
    refine List.Perm.append_left I' ?_
    simp only [List.flatten_cons, List.flatten_nil, List.append_nil, List.append_assoc]
    exact List.Perm.append_left _ List.perm_append_comm
/-- .. what it holds is taken out of the blocks at hand -/
theorem OwnD.push' {P : Program} {t ty : TypeId} {bytes : Nat} {zc : List Value} [hT : SlT P t (Dat.sz α) bytes zc] {cs : List Value} {a : α} {R1 : Items} {F1 : Items → Items} (h : OwnD x l I) (hS : St u w L) [p : Pos I L R1 F1]
    (hy : Rows w y (Dat.sz α) [cs]) (ho : DatO.own cs a J) [q : Pos J R1 R F] (hb : l.length + 1 ≤ 1099511627776) (hby : bytes ≤ 128) {Q : Value → World → Prop}
    (k : ∀ x' w' I', OwnD x' (l ++ [a]) I' → St u w' (I' ++ R) → Q x'.val w') : StepT P (Builtin.append_ #[t, t] ty #[x.val, y.val]) w Q := by
  have hJ : AtAll w J := fun z hz => hS.at_ z (p.perm.symm.subset (List.mem_append_right _ (q.perm.symm.subset (List.mem_append_left _ hz))))
  refine h.push hS hy ho (DatO.read ho hJ) hb hby fun x' w' I' k1 k2 => k x' w' _ k1 (k2.perm ?_)
  rw [List.append_assoc]
  exact List.Perm.append_left I' q.perm.symm
theorem OwnD.cut (h : OwnD x l I) {hi : Int} (h1 : 0 ≤ hi) (h2 : hi ≤ l.length) : OwnD (x.cut 0 hi (Dat.sz α)) (l.take hi.toNat) I := by
  obtain ⟨rows, I0, Is, E, k1, k2, k3, k4, k5, k6⟩ := h
  refine ⟨rows.take hi.toNat, I0, Is.take hi.toNat, (Is.drop hi.toNat).flatten ++ E, ?_, by simp [k2], by simp [k3], fun i r a K hr ha hK => ?_, ?_, by simp; omega⟩
  · cases k1 with
    | nil => have : hi = 0 := by simp at k2; omega
             subst hi; exact .nil
    | blk g o n c cur e _ hn hc hm hs hr =>
      by_cases hcl : c = 0
      · have e : (Sl.cut ⟨some ⟨g, o, none⟩, n, c⟩ 0 hi (Dat.sz α)) = ⟨some ⟨g, o, none⟩, hi.toNat - (0 : Int).toNat, c - (0 : Int).toNat⟩ := by simp [Sl.cut, hcl]
        rw [e]
        exact .blk g o _ _ cur _ _ (by simp; omega) (by simp; omega) (by simp; omega) (by simpa using hs) fun i r hi' => by
          rw [List.getElem?_take] at hi'
          split at hi'
          · exact hr i r hi'
          · cases hi'
      · have e : (Sl.cut ⟨some ⟨g, o, none⟩, n, c⟩ 0 hi (Dat.sz α)) = ⟨some ⟨g, o, none⟩, hi.toNat - (0 : Int).toNat, c - (0 : Int).toNat⟩ := by simp [Sl.cut, hcl, box_add]
        rw [e]
        exact .blk g o _ _ cur _ _ (by simp; omega) (by simp; omega) (by simp; omega) (by simpa using hs) fun i r hi' => by
          rw [List.getElem?_take] at hi'
          split at hi'
          · exact hr i r hi'
          · cases hi'
  · rw [List.getElem?_take] at hr ha hK
    split at hr
    · rename_i hlt
      rw [if_pos hlt] at ha hK
      exact k4 i r a K hr ha hK
    · cases hr
  · refine k5.trans (List.Perm.append_left I0 ?_)
    rw [← List.append_assoc, ← List.flatten_append, List.take_append_drop]
end
end Go.Vc

namespace Go.Vc
open Go
set_option linter.all false

inductive Reach (h : List CellD) (ws : List Int) : Int → Prop where
  | base {f : Int} (hf : f ∈ ws) (hl : live h f = true) : Reach h ws (f - 1000)
  | step {k f : Int} (hk : Reach h ws k) (hf : f ∈ (nth h k).fields) (hl : live h f = true) : Reach h ws (f - 1000)
noncomputable def reachB (h : List CellD) (ws : List Int) : List Bool := (List.range h.length).map fun (k : Nat) => @decide (Reach h ws (k : Int)) (Classical.propDecidable _)
theorem Reach.range {h : List CellD} {ws : List Int} {k : Int} (hr : Reach h ws k) : 0 ≤ k ∧ k < h.length := by
  cases hr with
  | base hf hl => have := live_spec hl; omega
  | step _ hf hl => have := live_spec hl; omega
theorem reachB_len (h : List CellD) (ws : List Int) : (reachB h ws).length = h.length := by simp [reachB]
theorem nth_reachB {h : List CellD} {ws : List Int} {k : Int} (h0 : 0 ≤ k) (h1 : k < h.length) : nth (reachB h ws) k = true ↔ Reach h ws k := by
  have e : nth (reachB h ws) k = @decide (Reach h ws k) (Classical.propDecidable _) := by
    refine nth_of ?_
    have : k.toNat < h.length := by omega
    simp [reachB, this, Int.toNat_of_nonneg h0]
  rw [e]; exact @decide_eq_true_iff _ (Classical.propDecidable _)
theorem eq_reachB {h : List CellD} {ws : List Int} {s : List Bool} (hl : s.length = h.length) (hs : ∀ k : Int, 0 ≤ k → k < h.length → (nth s k = true ↔ Reach h ws k)) : s = reachB h ws := by
  apply List.ext_getElem (by rw [hl, reachB_len])
  intro k h1 h2
  have e1 := nth_nat (l := s) h1
  have e2 := nth_nat (l := reachB h ws) h2
  rw [← e1, ← e2]
  apply Bool.eq_iff_iff.2
  rw [hs k (by omega) (by omega), nth_reachB (by omega) (by omega)]

structure Dfs (h : List CellD) (ws : List Int) (s : List Bool) (todo : List Int) : Prop where
  ll : s.length = h.length
  seen : ∀ k : Int, 0 ≤ k → k < h.length → nth s k = true → Reach h ws k
  todo_ : ∀ f ∈ todo, live h f = true → Reach h ws (f - 1000)
  cl0 : ∀ f ∈ ws, live h f = true → nth s (f - 1000) = true ∨ f ∈ todo
  cl1 : ∀ k : Int, 0 ≤ k → k < h.length → nth s k = true → ∀ f ∈ (nth h k).fields, live h f = true → nth s (f - 1000) = true ∨ f ∈ todo

theorem Dfs.start {h : List CellD} {ws : List Int} : Dfs h ws (List.replicate h.length false) ws := by
  have hr : ∀ k : Int, 0 ≤ k → k < h.length → nth (List.replicate h.length false) k = false := fun k h0 h1 => nth_of (List.getElem?_replicate_of_lt (by omega))
  exact ⟨by simp, fun k h0 h1 hs => (by rw [hr k h0 h1] at hs; cases hs), fun f hf hl => .base hf hl, fun f hf _ => .inr hf, fun k h0 h1 hs => (by rw [hr k h0 h1] at hs; cases hs)⟩
theorem Dfs.skip {h : List CellD} {ws t : List Int} {s : List Bool} {f : Int} (D : Dfs h ws s (t ++ [f])) (hf : live h f = false ∨ nth s (f - 1000) = true) : Dfs h ws s t := by
  have key : ∀ g, live h g = true → nth s (g - 1000) = true ∨ g ∈ t ++ [f] → nth s (g - 1000) = true ∨ g ∈ t := by
    intro g hl hg
    rcases hg with hg | hg
    · exact .inl hg
    · rcases List.mem_append.1 hg with hg | hg
      · exact .inr hg
      · rw [List.mem_singleton.1 hg] at hl ⊢
        rcases hf with hf | hf
        · rw [hf] at hl; cases hl
        · exact .inl hf
  exact ⟨D.ll, D.seen, fun g hg hl => D.todo_ g (List.mem_append_left _ hg) hl, fun g hg hl => key g hl (D.cl0 g hg hl), fun k k0 k1 hs g hg hl => key g hl (D.cl1 k k0 k1 hs g hg hl)⟩
theorem Dfs.take {h : List CellD} {ws t : List Int} {s : List Bool} {f : Int} (D : Dfs h ws s (t ++ [f])) (hl : live h f = true) :
    Dfs h ws (s.set (f - 1000).toNat true) (t ++ (nth h (f - 1000)).fields) := by
  obtain ⟨p1, p2, p3⟩ := live_spec hl
  have hll := D.ll
  have hset : ∀ k : Int, 0 ≤ k → nth (s.set (f - 1000).toNat true) k = if k = f - 1000 then true else nth s k := fun k k0 => nth_set _ _ _ _ (by omega) (by omega) k0
  have hr := D.todo_ f (by simp) hl
  have key : ∀ g, live h g = true → nth s (g - 1000) = true ∨ g ∈ t ++ [f] → nth (s.set (f - 1000).toNat true) (g - 1000) = true ∨ g ∈ t ++ (nth h (f - 1000)).fields := by
    intro g hlg hg
    have := live_spec hlg
    rw [hset _ (by omega)]
    by_cases e : g - 1000 = f - 1000
    · rw [if_pos e]; exact .inl rfl
    · rw [if_neg e]
      rcases hg with hg | hg
      · exact .inl hg
      · rcases List.mem_append.1 hg with hg | hg
        · exact .inr (List.mem_append_left _ hg)
        · rw [List.mem_singleton.1 hg] at e; exact absurd rfl e
  refine ⟨by simpa using hll, fun k k0 k1 hs => ?_, fun g hg hlg => ?_, fun g hg hlg => key g hlg (D.cl0 g hg hlg), fun k k0 k1 hs g hg hlg => ?_⟩
  · rw [hset k k0] at hs
    by_cases e : k = f - 1000
    · rw [e]; exact hr
    · rw [if_neg e] at hs; exact D.seen k k0 k1 hs
  · rcases List.mem_append.1 hg with hg | hg
    · exact D.todo_ g (List.mem_append_left _ hg) hlg
    · exact .step hr hg hlg
  · rw [hset k k0] at hs
    by_cases e : k = f - 1000
    · rw [e] at hg; exact .inr (List.mem_append_right _ hg)
    · rw [if_neg e] at hs; exact key g hlg (D.cl1 k k0 k1 hs g hg hlg)
theorem Dfs.end_ {h : List CellD} {ws : List Int} {s : List Bool} (D : Dfs h ws s []) : s = reachB h ws := by
  refine eq_reachB D.ll fun k k0 k1 => ⟨D.seen k k0 k1, fun hr => ?_⟩
  induction hr with
  | base hf hl => rcases D.cl0 _ hf hl with h | h; exact h; cases h
  | step hk hf hl ih =>
    have hkr := hk.range
    rcases D.cl1 _ hkr.1 hkr.2 (ih hkr.1 hkr.2) _ hf hl with h | h; exact h; cases h

end Go.Vc
