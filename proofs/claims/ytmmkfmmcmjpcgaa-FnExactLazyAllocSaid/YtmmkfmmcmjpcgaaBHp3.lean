/- Taking away cells to which no other one points. -/
import Derived.Test.YtmmkfmmcmjpcgaaBHp2
namespace Go.Vc
open Go
set_option linter.all false

def sumN (n : Nat) (f : Nat → Int) : Int := ((List.range n).map f).sum
theorem sumN_succ (n : Nat) (f : Nat → Int) : sumN (n + 1) f = sumN n f + f n := by simp [sumN, List.range_succ]
theorem sumN_zero (f : Nat → Int) : sumN 0 f = 0 := rfl
theorem sumN_congr {n : Nat} {f g : Nat → Int} (h : ∀ i, i < n → f i = g i) : sumN n f = sumN n g := by
  induction n with
  | zero => rfl
  | succ n ih => rw [sumN_succ, sumN_succ, ih fun i hi => h i (by omega), h n (by omega)]
theorem sumN_upd {n i : Nat} {f g : Nat → Int} (hi : i < n) (h : ∀ k, k < n → k ≠ i → f k = g k) : sumN n f = sumN n g + (f i - g i) := by
  induction n with
  | zero => omega
  | succ n ih =>
    rw [sumN_succ, sumN_succ]
    by_cases e : i = n
    · subst e
      rw [sumN_congr (f := f) (g := g) fun k hk => h k (by omega) (by omega)]; omega
    · rw [ih (by omega) fun k hk hne => h k (by omega) hne, h n (by omega) (by omega)]; omega
theorem sumN_nonneg {n : Nat} {f : Nat → Int} (h : ∀ i, i < n → 0 ≤ f i) : 0 ≤ sumN n f := by
  induction n with
  | zero => exact Int.le_refl _
  | succ n ih => rw [sumN_succ]; have := ih fun i hi => h i (by omega); have := h n (by omega); omega
theorem sumN_le {n i : Nat} {f : Nat → Int} (h : ∀ i, i < n → 0 ≤ f i) (hi : i < n) : f i ≤ sumN n f := by
  induction n with
  | zero => omega
  | succ n ih =>
    rw [sumN_succ]
    have h1 := sumN_nonneg (n := n) (f := f) fun i hi => h i (by omega)
    have h2 := h n (by omega)
    by_cases e : i = n
    · subst e; omega
    · have := ih (fun i hi => h i (by omega)) (by omega); omega
theorem sumN_pos {n : Nat} {f : Nat → Int} (h : sumN n f ≠ 0) : ∃ i, i < n ∧ f i ≠ 0 := by
  induction n with
  | zero => exact absurd rfl h
  | succ n ih =>
    rw [sumN_succ] at h
    by_cases e : f n = 0
    · rw [e, Int.add_zero] at h
      obtain ⟨i, h1, h2⟩ := ih h
      exact ⟨i, by omega, h2⟩
    · exact ⟨n, by omega, e⟩

def cntN (h : List CellD) (gone : List Bool) (k : Nat) : Int := sumN h.length fun i => if nth gone (i : Int) then 0 else cnt h (nth h (i : Int)).fields k
theorem cntN_nonneg (h : List CellD) (gone : List Bool) (k : Nat) : 0 ≤ cntN h gone k := sumN_nonneg fun i _ => by split; omega; exact (cnt_le h _ k).1
theorem cntN_start {h : List CellD} {gone : List Bool} (hg : ∀ i : Nat, i < h.length → nth gone (i : Int) = false) (k : Nat) : cntN h gone k = cnt h (words h) k := by
  have : ∀ n : Nat, n ≤ h.length → sumN n (fun i => if nth gone (i : Int) then 0 else cnt h (nth h (i : Int)).fields k) = cnt h (words (h.take n)) k := by
    intro n
    induction n with
    | zero => intro _; simp [sumN_zero, words, cnt]
    | succ n ih =>
      intro hn
      have := words_take (h := h) (i := (n : Int)) (by omega) (by omega)
      rw [show ((n : Int) + 1).toNat = n + 1 from by omega, show (n : Int).toNat = n from by omega] at this
      rw [sumN_succ, ih (by omega), this, cnt_append, hg n (by omega)]; rfl
  rw [cntN, this h.length (Nat.le_refl _), List.take_length]
theorem cntN_go {h : List CellD} {gone : List Bool} {i : Int} (h0 : 0 ≤ i) (h1 : i < h.length) (hl : gone.length = h.length) (hg : nth gone i = false) (k : Nat) :
    cntN h gone k = cntN h (gone.set i.toNat true) k + cnt h (nth h i).fields k := by
  unfold cntN
  rw [sumN_upd (i := i.toNat) (g := fun j => if nth (gone.set i.toNat true) (j : Int) then 0 else cnt h (nth h (j : Int)).fields k) (by omega) fun j hj hne => ?_]
  · rw [nth_set _ _ _ _ h0 (by omega) (by omega), Int.toNat_of_nonneg h0, if_pos rfl, hg]; simp
  · show (if nth gone (j : Int) then 0 else _) = (if nth (gone.set i.toNat true) (j : Int) then 0 else _)
    rw [nth_set _ _ _ _ h0 (by omega) (by omega), if_neg (show ¬ ((j : Int) = i) from by omega)]
theorem cntN_pos {h : List CellD} {gone : List Bool} {k : Nat} (hc : cntN h gone k ≠ 0) : ∃ i : Nat, i < h.length ∧ nth gone (i : Int) = false ∧ cnt h (nth h (i : Int)).fields k ≠ 0 := by
  obtain ⟨i, h1, h2⟩ := sumN_pos hc
  cases hg : nth gone (i : Int) with
  | true => rw [hg] at h2; simp at h2
  | false => rw [hg] at h2; exact ⟨i, h1, hg, by simpa using h2⟩
theorem cntN_zero {h : List CellD} {gone : List Bool} {k : Nat} (hc : cntN h gone k = 0) {i : Nat} (hi : i < h.length) (hn : cnt h (nth h (i : Int)).fields k ≠ 0) : nth gone (i : Int) = true := by
  cases hg : nth gone (i : Int) with
  | true => rfl
  | false =>
    have := sumN_le (f := fun i => if nth gone (i : Int) then 0 else cnt h (nth h (i : Int)).fields k) (n := h.length) (fun i _ => by split; omega; exact (cnt_le h _ k).1) hi
    rw [show sumN _ _ = cntN h gone k from rfl, hc] at this
    have h2 := (cnt_le h (nth h (i : Int)).fields k).1
    simp [hg] at this
    omega
theorem cnt_pos {h : List CellD} {ws : List Int} {k : Nat} (hc : cnt h ws k ≠ 0) : ∃ f ∈ ws, live h f = true ∧ f = 1000 + k := by
  have : 0 < ws.countP (fun w => live h w && decide (w = 1000 + (k : Int))) := by simp only [cnt] at hc; omega
  obtain ⟨f, h1, h2⟩ := List.countP_pos_iff.1 this
  simp only [Bool.and_eq_true, decide_eq_true_eq] at h2
  exact ⟨f, h1, h2⟩
theorem cnt_mem {h : List CellD} {ws : List Int} {f : Int} (hf : f ∈ ws) (hl : live h f = true) : cnt h ws (f - 1000).toNat ≠ 0 := by
  obtain ⟨p1, _, _⟩ := live_spec hl
  have : 0 < ws.countP (fun w => live h w && decide (w = 1000 + ((f - 1000).toNat : Int))) := List.countP_pos_iff.2 ⟨f, hf, by simp only [Bool.and_eq_true, decide_eq_true_eq]; exact ⟨hl, by omega⟩⟩
  simp only [cnt]; omega

/-- the state of the taking away: 'rest' are the words of the cell at hand that are not yet seen -/
structure Kahn (h : List CellD) (left work : List Int) (gone : List Bool) (rest : List Int) (many : Int) : Prop where
  ll : left.length = h.length
  gl : gone.length = h.length
  left_ : ∀ k : Nat, k < h.length → nth left (k : Int) = cntN h gone k + cnt h rest k
  wk : ∀ k ∈ work, 0 ≤ k ∧ k < h.length
  nd : work.Nodup
  mem : ∀ k : Int, 0 ≤ k → k < h.length → (k ∈ work ↔ nth left k = 0 ∧ nth gone k = false)
  zero : ∀ k : Int, 0 ≤ k → k < h.length → nth gone k = true → nth left k = 0
  many_ : many = (gone.count true : Nat)
  ord : ∃ o : Nat → Nat, ∀ k : Nat, k < h.length → nth gone (k : Int) = true → (o k : Int) < many ∧ ∀ i : Nat, i < h.length → cnt h (nth h (i : Int)).fields k ≠ 0 → nth gone (i : Int) = true ∧ o i < o k

theorem Kahn.bound {h : List CellD} {left work : List Int} {gone : List Bool} {rest : List Int} {many : Int} (K : Kahn h left work gone rest many) : many ≤ h.length := by
  have : gone.count true ≤ gone.length := List.count_le_length
  have := K.gl; have := K.many_
  omega

theorem Kahn.start {h : List CellD} {left work : List Int} (hl : left = refL h) (hw : ∀ k ∈ work, 0 ≤ k ∧ k < h.length) (hn : work.Nodup) (hm : ∀ k : Int, 0 ≤ k → k < h.length → (k ∈ work ↔ nth left k = 0)) :
    Kahn h left work (List.replicate h.length false) [] 0 := by
  have hr : ∀ k : Int, 0 ≤ k → k < h.length → nth (List.replicate h.length false) k = false := fun k h0 h1 => nth_of (List.getElem?_replicate_of_lt (by omega))
  refine ⟨by rw [hl, length_refs], by simp, fun k hk => ?_, hw, hn, fun k h0 h1 => ?_, fun k h0 h1 hg => ?_, by simp [List.count_replicate], fun _ => 0, fun k hk hg => ?_⟩
  · rw [hl, refL, nth_refsW (by omega) (by omega), cntN_start fun i hi => hr _ (by omega) (by omega)]; simp [cnt]
  · rw [hm k h0 h1, hr k h0 h1]; simp
  · rw [hr k h0 h1] at hg; cases hg
  · rw [hr k (by omega) (by omega)] at hg; cases hg

/-- a cell is taken -/
theorem Kahn.pop {h : List CellD} {left ws : List Int} {gone : List Bool} {many at_ : Int} (K : Kahn h left (ws ++ [at_]) gone [] many) :
    0 ≤ at_ ∧ at_ < h.length ∧ Kahn h left ws (gone.set at_.toNat true) (nth h at_).fields (many + 1) := by
  obtain ⟨a0, a1⟩ := K.wk at_ (by simp)
  have hm := (K.mem at_ a0 a1).1 (by simp)
  have hgl := K.gl
  have hnd := List.nodup_append.1 K.nd
  have hset : ∀ k : Int, 0 ≤ k → nth (gone.set at_.toNat true) k = if k = at_ then true else nth gone k := fun k k0 => nth_set _ _ _ _ a0 (by omega) k0
  refine ⟨a0, a1, K.ll, by simpa using hgl, fun k hk => ?_, fun k hk => K.wk k (List.mem_append_left _ hk), hnd.1, fun k k0 k1 => ?_, fun k k0 k1 hg => ?_, ?_, ?_⟩
  · rw [K.left_ k hk, cntN_go a0 a1 hgl hm.2]; simp [cnt]
  · rw [hset k k0]
    by_cases e : k = at_
    · subst e
      simp only [if_pos rfl]
      constructor
      · intro hk; exact absurd rfl (hnd.2.2 k hk k (by simp))
      · rintro ⟨_, h⟩; cases h
    · rw [if_neg e, ← K.mem k k0 k1]; simp [e]
  · rw [hset k k0] at hg
    by_cases e : k = at_
    · subst e; exact hm.1
    · rw [if_neg e] at hg; exact K.zero k k0 k1 hg
  · rw [count_set_true a0 (by omega) hm.2, K.many_]; omega
  · obtain ⟨o, ho⟩ := K.ord
    have hmany : 0 ≤ many := by rw [K.many_]; omega
    refine ⟨fun k => if (k : Int) = at_ then many.toNat else o k, fun k hk hg => ?_⟩
    rw [hset k (by omega)] at hg
    by_cases e : (k : Int) = at_
    · refine ⟨by simp [e]; omega, fun i hi hc => ?_⟩
      have hz : cntN h gone k = 0 := by
        have := K.left_ k hk
        rw [e, hm.1] at this
        have := cntN_nonneg h gone k
        have := (cnt_le h [] k).1
        omega
      have hgi := cntN_zero hz hi hc
      have hne : (i : Int) ≠ at_ := fun e2 => by rw [e2, hm.2] at hgi; cases hgi
      refine ⟨by rw [hset i (by omega), if_neg hne]; exact hgi, ?_⟩
      simp only [if_neg hne, if_pos e]
      have := (ho i hi hgi).1
      omega
    · rw [if_neg e] at hg
      obtain ⟨h1, h2⟩ := ho k hk hg
      refine ⟨by simp only [if_neg e]; omega, fun i hi hc => ?_⟩
      obtain ⟨h3, h4⟩ := h2 i hi hc
      have hne : (i : Int) ≠ at_ := fun e2 => by rw [e2, hm.2] at h3; cases h3
      refine ⟨by rw [hset i (by omega), if_neg hne]; exact h3, ?_⟩
      simp only [if_neg hne, if_neg e]
      exact h4

theorem cnt_cons (h : List CellD) (f : Int) (r : List Int) (k : Nat) : cnt h (f :: r) k = cnt h [f] k + cnt h r k := by
  rw [show f :: r = [f] ++ r from rfl, cnt_append]

/-- a word that is no pointer -/
theorem Kahn.skip {h : List CellD} {left ws rest : List Int} {gone : List Bool} {many f : Int} (K : Kahn h left ws gone (f :: rest) many) (hf : live h f = false) : Kahn h left ws gone rest many := by
  refine ⟨K.ll, K.gl, fun k hk => ?_, K.wk, K.nd, K.mem, K.zero, K.many_, K.ord⟩
  rw [K.left_ k hk, cnt_cons]
  simp [cnt, hf]

/-- a pointer -/
theorem Kahn.dec {h : List CellD} {left ws rest : List Int} {gone : List Bool} {many f : Int} (K : Kahn h left ws gone (f :: rest) many) (hf : live h f = true) :
    0 < nth left (f - 1000) ∧
    (nth left (f - 1000) - 1 = 0 → Kahn h (left.set (f - 1000).toNat (nth left (f - 1000) - 1)) (ws ++ [f - 1000]) gone rest many) ∧
    (nth left (f - 1000) - 1 ≠ 0 → Kahn h (left.set (f - 1000).toNat (nth left (f - 1000) - 1)) ws gone rest many) := by
  obtain ⟨p1, p2, p3⟩ := live_spec hf
  have hll := K.ll
  have hset : ∀ k : Int, 0 ≤ k → nth (left.set (f - 1000).toNat (nth left (f - 1000) - 1)) k = if k = f - 1000 then nth left (f - 1000) - 1 else nth left k := fun k k0 => nth_set _ _ _ _ (by omega) (by omega) k0
  have hc1 : ∀ k : Nat, cnt h [f] k = if (k : Int) = f - 1000 then 1 else 0 := fun k => by
    by_cases e : (k : Int) = f - 1000
    · rw [if_pos e]; have : f = 1000 + (k : Int) := by omega
      rw [this] at hf ⊢; simp [cnt, hf]
    · rw [if_neg e]; have : ¬ f = 1000 + (k : Int) := by omega
      simp [cnt, this]
  have hpos : 0 < nth left (f - 1000) := by
    have := K.left_ (f - 1000).toNat (by omega)
    rw [Int.toNat_of_nonneg (by omega), cnt_cons, hc1, if_pos (by omega)] at this
    have := cntN_nonneg h gone (f - 1000).toNat
    have := (cnt_le h rest (f - 1000).toNat).1
    omega
  have hng : nth gone (f - 1000) = false := by
    cases hg : nth gone (f - 1000) with
    | false => rfl
    | true => have := K.zero _ (by omega) p2 hg; omega
  have hnw : f - 1000 ∉ ws := fun hm => by have := ((K.mem _ (by omega) p2).1 hm).1; omega
  have hleft : ∀ k : Nat, k < h.length → nth (left.set (f - 1000).toNat (nth left (f - 1000) - 1)) (k : Int) = cntN h gone k + cnt h rest k := fun k hk => by
    rw [hset k (by omega)]
    have := K.left_ k hk
    rw [cnt_cons, hc1] at this
    by_cases e : (k : Int) = f - 1000
    · rw [if_pos e] at this ⊢; rw [← e]; omega
    · rw [if_neg e] at this ⊢; omega
  have hzero : ∀ k : Int, 0 ≤ k → k < h.length → nth gone k = true → nth (left.set (f - 1000).toNat (nth left (f - 1000) - 1)) k = 0 := fun k k0 k1 hg => by
    have hne : k ≠ f - 1000 := fun e => by rw [e, hng] at hg; cases hg
    rw [hset k k0, if_neg hne]; exact K.zero k k0 k1 hg
  refine ⟨hpos, fun hz => ⟨by simpa using hll, K.gl, hleft, fun k hk => ?_, ?_, fun k k0 k1 => ?_, hzero, K.many_, K.ord⟩, fun hz => ⟨by simpa using hll, K.gl, hleft, K.wk, K.nd, fun k k0 k1 => ?_, hzero, K.many_, K.ord⟩⟩
  · rcases List.mem_append.1 hk with hk | hk
    · exact K.wk k hk
    · rw [List.mem_singleton.1 hk]; omega
  · exact List.nodup_append.2 ⟨K.nd, by simp, fun a ha b hb e => by rw [List.mem_singleton.1 hb] at e; subst e; exact hnw ha⟩
  · rw [hset k k0]
    by_cases e : k = f - 1000
    · subst e; simp [hz, hng]
    · rw [if_neg e, ← K.mem k k0 k1]; simp [e]
  · rw [hset k k0]
    by_cases e : k = f - 1000
    · subst e; simp [hz, hnw]
    · rw [if_neg e]; exact K.mem k k0 k1

theorem Kahn.end_ {h : List CellD} {left : List Int} {gone : List Bool} {many : Int} (K : Kahn h left [] gone [] many) : many = h.length ↔ Acyc h := by
  have hgl := K.gl
  constructor
  · intro e
    have hall : ∀ i : Nat, i < h.length → nth gone (i : Int) = true := fun i hi => count_all (by rw [← Int.ofNat_inj]; have := K.many_; omega) (by omega) (by omega)
    obtain ⟨o, ho⟩ := K.ord
    refine ⟨fun k => h.length - o k, fun i c f hi hf hlv => ?_⟩
    have hlt : i < h.length := by rcases Nat.lt_or_ge i h.length with hl | hg; exact hl; rw [List.getElem?_eq_none hg] at hi; cases hi
    have hci : nth h (i : Int) = c := nth_of (by simpa using hi)
    obtain ⟨p1, p2, p3⟩ := live_spec hlv
    have h1 := ho (f - 1000).toNat (by omega) (hall _ (by omega))
    have h2 := h1.2 i hlt (by rw [hci]; exact cnt_mem hf hlv)
    have := h1.1
    show h.length - o (f - 1000).toNat < h.length - o i
    omega
  · rintro ⟨rk, hrk⟩
    have hmax : ∃ M, ∀ i, i < h.length → rk i ≤ M := by
      have : ∀ n : Nat, ∃ M, ∀ i, i < n → rk i ≤ M := by
        intro n
        induction n with
        | zero => exact ⟨0, fun i hi => by omega⟩
        | succ n ih =>
          obtain ⟨M, hM⟩ := ih
          refine ⟨max M (rk n), fun i hi => ?_⟩
          by_cases e : i = n
          · subst e; omega
          · have := hM i (by omega); omega
      exact this h.length
    obtain ⟨M, hM⟩ := hmax
    have hall : ∀ (d : Nat) (k : Nat), k < h.length → M - rk k < d → nth gone (k : Int) = true := by
      intro d
      induction d with
      | zero => intro k _ h; omega
      | succ d ih =>
        intro k hk hd
        cases hg : nth gone (k : Int) with
        | true => rfl
        | false =>
          have hl : nth left (k : Int) ≠ 0 := fun e => by
            have := (K.mem k (by omega) (by omega)).2 ⟨e, hg⟩
            cases this
          have hc : cntN h gone k ≠ 0 := by have := K.left_ k hk; simp [cnt] at this; omega
          obtain ⟨i, hi, hgi, hci⟩ := cntN_pos hc
          obtain ⟨f, hf, hlv, hfe⟩ := cnt_pos hci
          have hr := hrk i _ f (nth_get (l := h) (i := (i : Int)) (by omega) (by omega)) hf hlv
          rw [show (f - 1000).toNat = k from by omega] at hr
          have := hM i hi
          have := ih i hi (by omega)
          rw [hgi] at this; cases this
    have : gone.count true = gone.length := by
      rw [List.count_eq_length]
      intro b hb
      obtain ⟨i, hi, rfl⟩ := List.getElem_of_mem hb
      have := hall (M - rk i + 1) i (by omega) (by omega)
      rw [nth_nat (l := gone) hi] at this
      exact this.symm
    have := K.many_
    omega
end Go.Vc
