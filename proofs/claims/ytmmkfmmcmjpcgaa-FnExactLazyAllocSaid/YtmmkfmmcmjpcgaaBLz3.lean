/- Trimming a lazy heap. -/
import Derived.Test.YtmmkfmmcmjpcgaaBLz2
namespace Go.Vc
open Go
set_option linter.all false

/-- z' is z with more free cells behind -/
structure Ext (z z' : LazyD) : Prop where
  cells : ∃ n, z'.cells = z.cells ++ List.replicate n free0
  pend : z'.pend = z.pend
  pin : ∀ p ∈ z.pend, 0 ≤ p ∧ p < z.cells.length

theorem nth_left {α : Type} [Inhabited α] {a b : List α} {k : Int} (h0 : 0 ≤ k) (h1 : k < a.length) : nth (a ++ b) k = nth a k := by
  unfold nth List.getD
  rw [List.getElem?_append_left (by omega)]
theorem nth_right {α : Type} [Inhabited α] {a b : List α} {k : Int} (h0 : (a.length : Int) ≤ k) : nth (a ++ b) k = nth b (k - a.length) := by
  unfold nth List.getD
  rw [List.getElem?_append_right (by omega), show k.toNat - a.length = (k - a.length).toNat from by omega]
theorem nth_free (n : Nat) (k : Int) : nth (List.replicate n free0) k = free0 := by
  unfold nth List.getD
  rw [List.getElem?_replicate]
  split <;> rfl

theorem trimN_le (h : List CellD) (pend : List Int) (n : Nat) : trimN h pend n ≤ n := by
  induction n with
  | zero => exact Nat.le_refl _
  | succ n ih => unfold trimN; split <;> omega
theorem trimN_free {h : List CellD} {pend : List Int} {n : Nat} {k : Int} (h0 : (trimN h pend n : Int) ≤ k) (h1 : k < n) : (nth h k).count = 0 ∧ k ∉ pend := by
  induction n with
  | zero => omega
  | succ n ih =>
    unfold trimN at h0
    split at h0
    · rename_i hc
      by_cases e : k = n
      · rw [e]; exact hc
      · exact ih h0 (by omega)
    · omega
theorem trimN_last {h : List CellD} {pend : List Int} {n : Nat} (hp : 0 < trimN h pend n) : (nth h ((trimN h pend n : Int) - 1)).count ≠ 0 ∨ ((trimN h pend n : Int) - 1) ∈ pend := by
  induction n with
  | zero => simp [trimN] at hp
  | succ n ih =>
    unfold trimN at hp ⊢
    by_cases hc : (nth h (n : Int)).count = 0 ∧ (n : Int) ∉ pend
    · rw [if_pos hc] at hp ⊢; exact ih hp
    · rw [if_neg hc]
      rw [show ((n + 1 : Nat) : Int) - 1 = n from by omega]
      by_cases e : (nth h (n : Int)).count = 0
      · exact .inr (Classical.byContradiction fun hn => hc ⟨e, hn⟩)
      · exact .inl e
theorem trimN_eq {h : List CellD} {pend : List Int} {n m : Nat} (hm : m ≤ n) (hf : ∀ k : Int, m ≤ k → k < n → (nth h k).count = 0 ∧ k ∉ pend) (hl : 0 < m → (nth h ((m : Int) - 1)).count ≠ 0 ∨ ((m : Int) - 1) ∈ pend) : trimN h pend n = m := by
  rcases Nat.lt_trichotomy (trimN h pend n) m with hlt | he | hgt
  · have := trimN_free (h := h) (pend := pend) (n := n) (k := (m : Int) - 1) (by omega) (by omega)
    rcases hl (by omega) with h1 | h1
    · exact absurd this.1 h1
    · exact absurd h1 this.2
  · exact he
  · have h1 := trimN_last (h := h) (pend := pend) (n := n) (by omega)
    have h2 := hf ((trimN h pend n : Int) - 1) (by omega) (by have := trimN_le h pend n; omega)
    rcases h1 with h1 | h1
    · exact absurd h2.1 h1
    · exact absurd h1 h2.2

theorem trim_ext {z : LazyD} (L : LZ z.cells z.pend []) : Ext (trimZ z) z := by
  have hle := trimN_le z.cells z.pend z.cells.length
  have hlen : (z.cells.take (trimN z.cells z.pend z.cells.length)).length = trimN z.cells z.pend z.cells.length := by simp; omega
  refine ⟨⟨z.cells.length - trimN z.cells z.pend z.cells.length, ?_⟩, rfl, fun p hp => ?_⟩
  · apply nth_ext
    · simp [trimZ]; omega
    · intro k k0 k1
      rcases Int.lt_or_le k (trimN z.cells z.pend z.cells.length) with hlt | hge
      · rw [nth_left k0 (by show k < ((z.cells.take _).length : Int); omega)]
        simp only [trimZ]
        unfold nth List.getD
        rw [List.getElem?_take, if_pos (by omega)]
      · rw [nth_right (by show ((z.cells.take _).length : Int) ≤ k; omega), nth_free]
        obtain ⟨h1, h2⟩ := trimN_free (h := z.cells) (pend := z.pend) (n := z.cells.length) (k := k) (by omega) (by omega)
        exact L.free k k0 k1 h1 h2
  · obtain ⟨p0, p1, p2⟩ := L.pr p hp
    refine ⟨p0, ?_⟩
    show p < ((z.cells.take _).length : Int)
    rw [hlen]
    rcases Int.lt_or_le p (trimN z.cells z.pend z.cells.length) with hlt | hge
    · exact hlt
    · exact absurd hp (trimN_free (h := z.cells) (pend := z.pend) (n := z.cells.length) (k := p) (by omega) (by omega)).2
theorem trim_last {z : LazyD} : lastZ (trimZ z).cells (trimZ z).pend := by
  have hle := trimN_le z.cells z.pend z.cells.length
  have hlen : (z.cells.take (trimN z.cells z.pend z.cells.length)).length = trimN z.cells z.pend z.cells.length := by simp; omega
  intro hp
  simp only [trimZ] at hp ⊢
  rw [hlen] at hp ⊢
  have := trimN_last (h := z.cells) (pend := z.pend) hp
  have e : nth (z.cells.take (trimN z.cells z.pend z.cells.length)) ((trimN z.cells z.pend z.cells.length : Int) - 1) = nth z.cells ((trimN z.cells z.pend z.cells.length : Int) - 1) := by
    unfold nth List.getD
    rw [List.getElem?_take, if_pos (by omega)]
  rw [e]; exact this

section
variable {z z' : LazyD}
theorem Ext.nth_ (E : Ext z z') {k : Int} (h0 : 0 ≤ k) (h1 : k < z.cells.length) : nth z'.cells k = nth z.cells k := by
  obtain ⟨n, e⟩ := E.cells
  rw [e, nth_left h0 h1]
theorem Ext.len (E : Ext z z') : z.cells.length ≤ z'.cells.length := by obtain ⟨n, e⟩ := E.cells; rw [e]; simp
theorem Ext.beyond (E : Ext z z') {k : Int} (h0 : (z.cells.length : Int) ≤ k) : nth z'.cells k = free0 := by
  obtain ⟨n, e⟩ := E.cells
  rw [e, nth_right h0, nth_free]
theorem words_free (a : List CellD) (n : Nat) : words (a ++ List.replicate n free0) = words a := by
  unfold words
  rw [List.flatMap_append]
  have : (List.replicate n free0).flatMap (·.fields) = [] := by
    induction n with
    | zero => rfl
    | succ n ih => rw [List.replicate_succ, List.flatMap_cons, ih]; rfl
  rw [this, List.append_nil]
theorem nlive_free (a : List CellD) (n : Nat) : nlive (a ++ List.replicate n free0) = nlive a := by
  unfold nlive
  rw [List.countP_append]
  have : (List.replicate n free0).countP (fun c => decide (0 < c.count)) = 0 := by
    rw [List.countP_eq_zero]; intro c hc; rw [List.eq_of_mem_replicate hc]; simp
  omega
theorem Ext.word_ (E : Ext z z') {f : Int} : word z'.cells f = word z.cells f := by
  apply Bool.eq_iff_iff.2
  rw [word_iff, word_iff, live_iff, live_iff]
  have hl := E.len
  constructor
  · rintro (h | ⟨h1, h2, h3⟩)
    · exact .inl h
    · right
      rcases Int.lt_or_le (f - 1000) z.cells.length with hlt | hge
      · rw [E.nth_ (by omega) hlt] at h3; exact ⟨h1, hlt, h3⟩
      · rw [E.beyond hge] at h3; simp at h3
  · rintro (h | ⟨h1, h2, h3⟩)
    · exact .inl h
    · exact .inr ⟨h1, by omega, by rw [E.nth_ (by omega) h2]; exact h3⟩
theorem Ext.nf (E : Ext z z') : nf z' = nf z := by
  obtain ⟨n, e⟩ := E.cells
  unfold Go.Vc.nf
  rw [e, E.pend, nlive_free]
/-- what is cut off was of no account -/
theorem Ext.lz (E : Ext z z') (L : LZ z'.cells z'.pend []) : LZ z.cells z.pend [] := by
  have hl := E.len
  have hn := fun k h0 h1 => E.nth_ (k := k) h0 h1
  have hmem : ∀ c ∈ z.cells, c ∈ z'.cells := fun c hc => by obtain ⟨n, e⟩ := E.cells; rw [e]; exact List.mem_append_left _ hc
  refine ⟨fun p hp => ?_, by rw [← E.pend]; exact L.pn, fun c hc => L.cell c (hmem c hc), fun k k0 k1 hc hnp => ?_, fun c hc f hf => by rw [← E.word_]; exact L.ptr c (hmem c hc) f hf, fun f hf => (by cases hf), fun k k0 k1 hc => ?_, ?_⟩
  · obtain ⟨p0, p1⟩ := E.pin p hp
    have := (L.pr p (by rw [E.pend]; exact hp)).2.2
    rw [hn p p0 p1] at this
    exact ⟨p0, p1, this⟩
  · rw [← hn k k0 k1] at hc ⊢
    exact L.free k k0 (by omega) hc (by rw [E.pend]; exact hnp)
  · rw [← hn k k0 k1] at hc ⊢
    have := L.cnt k k0 (by omega) hc
    obtain ⟨n, e⟩ := E.cells
    rw [e] at this
    rw [words_free] at this
    rw [e]; exact this
  · obtain ⟨rk, hrk⟩ := L.acyc
    exact ⟨rk, fun k k0 k1 f hf h1 => hrk k k0 (by omega) f (by rw [hn k k0 k1]; exact hf) h1⟩
theorem Ext.lower (E : Ext z z') {k : Int} (h0 : 0 ≤ k) (h1 : k < z.cells.length) : Ext (lowerZ z k) (lowerZ z' k) := by
  obtain ⟨n, e⟩ := E.cells
  have hn := E.nth_ h0 h1
  refine ⟨⟨n, ?_⟩, ?_, fun p hp => ?_⟩
  · unfold lowerZ
    simp only
    rw [hn, e, List.set_append_left _ _ (by omega)]
  · unfold lowerZ
    simp only
    rw [hn, E.pend]
  · unfold lowerZ at hp ⊢
    simp only [List.length_set] at hp ⊢
    split at hp
    · rcases List.mem_append.1 hp with hp | hp
      · exact E.pin p hp
      · rw [List.mem_singleton.1 hp]; exact ⟨h0, h1⟩
    · exact E.pin p hp
theorem Ext.dropF : ∀ (fs : List Int) {z z' : LazyD}, Ext z z' → (∀ f ∈ fs, 1000 ≤ f → f - 1000 < z.cells.length) → Ext (dropF z fs) (dropF z' fs)
  | [], _, _, E, _ => E
  | f :: r, z, z', E, hf => by
    rw [dropF_cons, dropF_cons]
    by_cases h1 : 1000 ≤ f
    · rw [if_pos h1, if_pos h1]
      exact Ext.dropF r (E.lower (by omega) (hf f List.mem_cons_self h1)) fun g hg h2 => by have := hf g (List.mem_cons_of_mem _ hg) h2; simpa [lowerZ] using this
    · rw [if_neg h1, if_neg h1]
      exact Ext.dropF r E fun g hg h2 => hf g (List.mem_cons_of_mem _ hg) h2
theorem Ext.settle1 (E : Ext z z') (L : LZ z.cells z.pend []) : Ext (settle1 z) (settle1 z') := by
  obtain ⟨cells, pend⟩ := z
  obtain ⟨cells', pend'⟩ := z'
  have hp : pend' = pend := E.pend
  subst hp
  cases pend' with
  | nil => exact E
  | cons p r =>
    obtain ⟨p0, p1⟩ := E.pin p List.mem_cons_self
    have hn := E.nth_ p0 p1
    simp only at hn p1
    obtain ⟨n, e⟩ := E.cells
    simp only at e
    show Ext (Go.Vc.dropF ⟨cells.set p.toNat free0, r⟩ (nth cells p).fields) (Go.Vc.dropF ⟨cells'.set p.toNat free0, r⟩ (nth cells' p).fields)
    rw [hn]
    refine Ext.dropF _ ⟨⟨n, ?_⟩, rfl, fun q hq => ?_⟩ fun f hf h1 => ?_
    · simp only
      rw [e, List.set_append_left _ _ (by omega)]
    · have := E.pin q (List.mem_cons_of_mem _ hq); simpa using this
    · have := word_ptr (L.ptr _ (nth_mem p0 p1) f hf) h1
      have := (live_iff.1 this).2.1
      simpa using this
theorem Ext.settleN (E : Ext z z') (L : LZ z.cells z.pend []) (n : Nat) : Ext (settleN n z) (settleN n z') := by
  induction n generalizing z z' with
  | zero => exact E
  | succ n ih => exact ih (E.settle1 L) (LZ.settle1 L).1
theorem Ext.trim (E : Ext z z') : trimZ z = trimZ z' := by
  have hl := E.len
  have hle := trimN_le z.cells z.pend z.cells.length
  have e : trimN z'.cells z'.pend z'.cells.length = trimN z.cells z.pend z.cells.length := by
    refine trimN_eq (by omega) (fun k k0 k1 => ?_) fun hp => ?_
    · rw [E.pend]
      rcases Int.lt_or_le k z.cells.length with hlt | hge
      · rw [E.nth_ (by omega) hlt]
        exact trimN_free k0 hlt
      · rw [E.beyond hge]
        exact ⟨rfl, fun hm => by have := E.pin k hm; omega⟩
    · have := trimN_last hp
      rw [E.pend, E.nth_ (by omega) (by omega)]
      exact this
  unfold trimZ
  rw [e, E.pend]
  obtain ⟨n, ec⟩ := E.cells
  rw [ec, List.take_append_of_le_length hle]
theorem trim_of_last (hl : lastZ z.cells z.pend) : trimZ z = z := by
  have : trimN z.cells z.pend z.cells.length = z.cells.length := trimN_eq (Nat.le_refl _) (fun k k0 k1 => by omega) hl
  unfold trimZ
  rw [this, List.take_length]
/-- settling, and settling again -/
theorem settle_again {z : LazyD} (L : LZ z.cells z.pend []) (m n : Nat) : settleL n (settleL m z) = settleL (m + n) z := by
  have L1 := (LZ.settleN m L).1
  have E := trim_ext L1
  have L2 := E.lz L1
  unfold settleL
  rw [settleN_add]
  exact (E.settleN L2 n).trim
theorem settle_valid {z : LazyD} (L : LZ z.cells z.pend []) (m : Nat) : vlazy (settleL m z) := by
  have L1 := (LZ.settleN m L).1
  exact vlazy_iff.2 ⟨(trim_ext L1).lz L1, trim_last⟩
theorem settle_all {z : LazyD} (L : LZ z.cells z.pend []) {m : Nat} (hm : nf z ≤ m) : settleL m z = settleL (nf z) z ∧ (settleL m z).pend = [] := by
  have h1 := (LZ.settleN (nf z) L).2.2
  have h2 : (settleN (nf z) z).pend = [] := List.eq_nil_of_length_eq_zero (by omega)
  have h3 : settleN m z = settleN (nf z) z := by
    rw [show m = nf z + (m - nf z) from by omega, settleN_add, settleN_nil h2]
  unfold settleL
  rw [h3]
  exact ⟨rfl, h2⟩
end
theorem nf_le {z : LazyD} (L : LZ z.cells z.pend []) : nf z ≤ z.cells.length := by
  -- the pending cells are among those that are not live
  unfold nf
  have h1 : z.pend.length ≤ z.cells.length - nlive z.cells := by
    have h2 : z.pend.length ≤ (((List.range z.cells.length).filter fun (k : Nat) => decide (¬ 0 < (nth z.cells (k : Int)).count)).map fun (k : Nat) => (k : Int)).length := by
      refine List.Nodup.length_le_of_subset L.pn fun p hp => ?_
      obtain ⟨p0, p1, p2⟩ := L.pr p hp
      refine List.mem_map.2 ⟨p.toNat, List.mem_filter.2 ⟨by simp; omega, ?_⟩, by omega⟩
      rw [Int.toNat_of_nonneg p0]; simp; omega
    have h3 : ∀ n : Nat, n ≤ z.cells.length → ((List.range n).filter fun (k : Nat) => decide (¬ 0 < (nth z.cells (k : Int)).count)).length + nlive (z.cells.take n) = n := by
      intro n
      induction n with
      | zero => intro _; simp [nlive]
      | succ n ih =>
        intro hn
        have ih := ih (by omega)
        have e := take_nth (l := z.cells) (i := (n : Int)) (by omega) (by omega)
        rw [show ((n : Int) + 1).toNat = n + 1 from by omega, show (n : Int).toNat = n from by omega] at e
        rw [e, List.range_succ, List.filter_append, List.length_append]
        unfold nlive at ih ⊢
        rw [List.countP_append, List.countP_singleton]
        simp only [List.filter_cons, List.filter_nil]
        by_cases hc : 0 < (nth z.cells (n : Int)).count
        · simp [hc]; simp at ih; omega
        · simp [hc]; simp at ih; omega
    have h4 := h3 z.cells.length (Nat.le_refl _)
    rw [List.take_length] at h4
    rw [List.length_map] at h2
    omega
  have h5 : nlive z.cells ≤ z.cells.length := List.countP_le_length
  omega
end Go.Vc
