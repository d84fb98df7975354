/- Heaps without circles: marking, and taking away. -/
import Derived.Test.YtmmkfmmcmjpcgaaBHp
namespace Go.Vc
open Go
set_option linter.all false

/-- a rank of the marked cells -/
def Rk (h : List CellD) (m : List Bool) (rk : Nat → Nat) (many : Int) : Prop :=
  ∀ (i : Int), 0 ≤ i → i < h.length → nth m i = true → (rk i.toNat : Int) < many ∧ ∀ f ∈ (nth h i).fields, 1000 ≤ f → nth m (f - 1000) = true ∧ rk (f - 1000).toNat < rk i.toNat
def wordsOk (h : List CellD) : Prop := ∀ c ∈ h, ∀ f ∈ c.fields, word h f = true
/-- all pointers among the words are marked -/
def allM (m : List Bool) (l : List Int) : Prop := ∀ f ∈ l, 1000 ≤ f → nth m (f - 1000) = true

theorem word_ptr {h : List CellD} {f : Int} (hw : word h f = true) (h1 : 1000 ≤ f) : live h f = true := by
  simp only [word, Bool.or_eq_true, Bool.and_eq_true, decide_eq_true_eq] at hw
  rcases hw with hw | hw
  · omega
  · exact hw
theorem wordsOk.ptr {h : List CellD} (hw : wordsOk h) {i : Int} (h0 : 0 ≤ i) (h1 : i < h.length) : ∀ f ∈ (nth h i).fields, 1000 ≤ f → live h f = true := fun f hf hp => word_ptr (hw _ (nth_mem h0 h1) f hf) hp

theorem nth_nat {α : Type} [Inhabited α] {l : List α} {i : Nat} (h : i < l.length) : nth l (i : Int) = l[i] := nth_of (by simp [h])
theorem count_set_true {m : List Bool} {i : Int} (h0 : 0 ≤ i) (h1 : i < m.length) (hm : nth m i = false) : (m.set i.toNat true).count true = m.count true + 1 := by
  have hlt : i.toNat < m.length := by omega
  have hg : m[i.toNat] = false := by
    have := nth_nat (l := m) hlt
    rw [Int.toNat_of_nonneg h0] at this
    rw [← this]; exact hm
  rw [List.count_set hlt, hg]
  simp
theorem count_all {m : List Bool} (h : m.count true = m.length) {i : Int} (h0 : 0 ≤ i) (h1 : i < m.length) : nth m i = true := by
  rw [List.count_eq_length] at h
  exact (h _ (nth_mem h0 h1)).symm

theorem Rk.grow {h : List CellD} {m : List Bool} {rk : Nat → Nat} {many i : Int} (hr : Rk h m rk many) (hl : m.length = h.length) (hmany : 0 ≤ many) (h0 : 0 ≤ i) (h1 : i < h.length) (hm : nth m i = false) (ha : allM m (nth h i).fields) (hw : wordsOk h) :
    Rk h (m.set i.toNat true) (fun k => if k = i.toNat then many.toNat else rk k) (many + 1) := by
  intro k k0 k1 hk
  rw [nth_set _ _ _ _ h0 (by omega) k0] at hk
  by_cases e : k = i
  · subst e
    refine ⟨by simp; omega, fun f hf hp => ?_⟩
    obtain ⟨p1, p2, p3⟩ := live_spec (hw.ptr h0 h1 f hf hp)
    have hfm := ha f hf hp
    have hne : f - 1000 ≠ k := fun e => by rw [e, hm] at hfm; cases hfm
    refine ⟨by rw [nth_set _ _ _ _ h0 (by omega) (by omega), if_neg hne]; exact hfm, ?_⟩
    have := (hr (f - 1000) (by omega) p2 hfm).1
    dsimp only
    rw [if_neg (by omega), if_pos rfl]
    omega
  · rw [if_neg e] at hk
    obtain ⟨q1, q2⟩ := hr k k0 k1 hk
    refine ⟨by dsimp only; rw [if_neg (by omega)]; omega, fun f hf hp => ?_⟩
    obtain ⟨q3, q4⟩ := q2 f hf hp
    obtain ⟨p1, p2, p3⟩ := live_spec (hw.ptr k0 k1 f hf hp)
    have hne : f - 1000 ≠ i := fun e => by rw [e, hm] at q3; cases q3
    refine ⟨by rw [nth_set _ _ _ _ h0 (by omega) (by omega), if_neg hne]; exact q3, ?_⟩
    dsimp only
    rw [if_neg (by omega), if_neg (by omega)]
    exact q4

theorem acyc_of_marks {h : List CellD} {m : List Bool} {rk : Nat → Nat} {many : Int} (hr : Rk h m rk many) (hl : m.length = h.length) (hw : wordsOk h) (hc : many = (m.count true : Nat))
    (hstop : ∀ i : Int, 0 ≤ i → i < h.length → nth m i = false → ¬ allM m (nth h i).fields) : many = h.length ↔ Acyc h := by
  constructor
  · intro e
    have hall : ∀ i : Int, 0 ≤ i → i < h.length → nth m i = true := fun i h0 h1 => count_all (by omega) h0 (by omega)
    refine ⟨rk, fun i c f hi hf hlv => ?_⟩
    have hlt : i < h.length := by rcases Nat.lt_or_ge i h.length with hl | hg; exact hl; rw [List.getElem?_eq_none hg] at hi; cases hi
    have hci : nth h i = c := nth_of (by simpa using hi)
    obtain ⟨p1, p2, p3⟩ := live_spec hlv
    have := (hr i (by omega) (by omega) (hall i (by omega) (by omega))).2 f (by rw [hci]; exact hf) p1
    simpa using this.2
  · rintro ⟨rk', hrk⟩
    have hall : ∀ (n : Nat) (i : Int), 0 ≤ i → i < h.length → rk' i.toNat < n → nth m i = true := by
      intro n
      induction n with
      | zero => intro i _ _ h; omega
      | succ n ih =>
        intro i h0 h1 hlt
        cases hm : nth m i with
        | true => rfl
        | false =>
          refine absurd (fun f hf hp => ?_) (hstop i h0 h1 hm)
          have hlv := hw.ptr h0 h1 f hf hp
          obtain ⟨p1, p2, p3⟩ := live_spec hlv
          refine ih _ (by omega) p2 ?_
          have := hrk i.toNat _ f (nth_get h0 h1) hf hlv
          omega
    have : m.count true = m.length := by
      rw [List.count_eq_length]
      intro b hb
      obtain ⟨i, hi, rfl⟩ := List.getElem_of_mem hb
      have := hall (rk' i + 1) i (by omega) (by omega) (by simp)
      rw [nth_nat (l := m) hi] at this
      exact this.symm
    omega
end Go.Vc
