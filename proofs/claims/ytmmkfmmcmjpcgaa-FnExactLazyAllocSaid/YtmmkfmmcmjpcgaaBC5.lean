/- Part of the proofs about the heaps: a law is joined in the text whose name ends in W and the law. -/
import Derived.Test.YtmmkfmmcmjpcgaaBHp3
import Derived.Test.YtmmkfmmcmjpcgaaBC4
namespace Go.Vc
open Go Go.Proofs Go.RowKit
set_option linter.all false
section
variable {u v w : World} {x y : Sl} {l m : List Int} {h : List CellD} {n k : Int} {a : Addr} {I J L R : Items} {F : Items → Items}

theorem c_liveAt (hx : Read v x h) (hn : InI n) : Fn Try.prog 59 #[x.val, .int .i64 n] v (.tuple #[.int .i64 (atI n), .bool (live h n)]) := by
  refine of59 _ _ _ _ ?_
  unfold vc59
  have hxn := hx.n
  have hl := hx.le
  have hS := St.refl v
  refine go_at ?_
  have key : (decide (n ≥ 1000) && decide (atI n < (x.n : Int))) = true → atI n = n - 1000 ∧ 0 ≤ atI n ∧ atI n < h.length := by
    intro hc
    simp only [decide_eq_true_eq, decide_eq_false_iff_not, Bool.and_eq_true, Bool.and_eq_false_iff, Bool.or_eq_true, Bool.or_eq_false_iff, Bool.not_eq_true', Bool.not_eq_false', Bool.not_true, Bool.not_false, Bool.false_eq_true, Bool.true_eq_false, Int.not_lt, Int.not_le, ge_iff_le, gt_iff_lt, Bool.not_eq_eq_eq_not, Bool.true_or, Bool.or_true, Bool.false_or, Bool.or_false, Bool.true_and, Bool.and_true, false_or, or_false, true_and, and_true, Decidable.not_not] at hc
    have := atI_of hc.1 hn.2
    omega
  refine ⟨fun hc => hx.ix (key hc).2.1 (key hc).2.2, ?_⟩
  refine ld_countg (hx.src hS.sub) (fun hc => (key hc).2) ?_
  refine ⟨?_, hS.sub⟩
  have : (decide (n ≥ 1000) && decide (atI n < (x.n : Int)) && decide ((nth h (atI n)).count > 0)) = live h n := by
    apply Bool.eq_iff_iff.2
    simp only [live, decide_eq_true_eq, decide_eq_false_iff_not, Bool.and_eq_true, Bool.and_eq_false_iff, Bool.or_eq_true, Bool.or_eq_false_iff, Bool.not_eq_true', Bool.not_eq_false', Bool.not_true, Bool.not_false, Bool.false_eq_true, Bool.true_eq_false, Int.not_lt, Int.not_le, ge_iff_le, gt_iff_lt, Bool.not_eq_eq_eq_not, Bool.true_or, Bool.or_true, Bool.false_or, Bool.or_false, Bool.true_and, Bool.and_true, false_or, or_false, true_and, and_true, Decidable.not_not]
    constructor
    · rintro ⟨⟨h1, h2⟩, h3⟩
      have := atI_of h1 hn.2
      rw [this] at h2 h3
      exact ⟨⟨h1, by omega⟩, h3⟩
    · rintro ⟨⟨h1, h2⟩, h3⟩
      have := atI_of h1 hn.2
      rw [this]
      exact ⟨⟨h1, by omega⟩, h3⟩
  rw [this]

theorem live_at {n : Int} (hl : live h n = true) (hn : n ≤ 9223372036854775807) : atI n = n - 1000 := atI_of (live_spec hl).1 hn

theorem c_wordValid (hx : Read v x h) (hn : InI n) : Fn Try.prog 74 #[x.val, .int .i64 n] v (.bool (word h n)) := by
  refine of74 _ _ _ _ ?_
  unfold vc74
  refine ⟨_, _, c_liveAt hx hn, _, fun _ => c_isInt, ?_, .refl v⟩
  rw [word, Bool.or_comm]

theorem c_cellValid {c : CellD} {f : Sl} (hx : Read v x h) (hf : Read v f c.fields) (hc : InI c.count) (ht : InI c.tag) : Fn Try.prog 89 #[x.val, .agg #[.int .i64 c.count, .int .i64 c.tag, f.val]] v (.bool (icell h c)) := by
  refine of89 _ _ _ _ _ _ ?_
  unfold vc89
  have hfn := hf.n
  have hl := hf.le
  have vf : ¬ icell h c = true → Value.bool false = .bool (icell h c) := fun hh => by rw [Bool.eq_false_iff.2 hh]
  have vt : icell h c = true → Value.bool true = .bool (icell h c) := fun hh => by rw [hh]
  refine ⟨fun hc => ?_, fun hc => ⟨fun hc1 => ?_, fun hc1 => ?_⟩⟩
  · simp only [decide_eq_true_eq, decide_eq_false_iff_not, Bool.and_eq_true, Bool.and_eq_false_iff, Bool.or_eq_true, Bool.or_eq_false_iff, Bool.not_eq_true', Bool.not_eq_false', Bool.not_true, Bool.not_false, Bool.false_eq_true, Bool.true_eq_false, Int.not_lt, Int.not_le, ge_iff_le, gt_iff_lt, Bool.not_eq_eq_eq_not, Bool.true_or, Bool.or_true, Bool.false_or, Bool.or_false, Bool.true_and, Bool.and_true, false_or, or_false, true_and, and_true, Decidable.not_not] at hc
    refine ⟨vf ?_, .refl v⟩
    simp only [icell, decide_eq_true_eq, decide_eq_false_iff_not, Bool.and_eq_true, Bool.and_eq_false_iff, Bool.or_eq_true, Bool.or_eq_false_iff, Bool.not_eq_true', Bool.not_eq_false', Bool.not_true, Bool.not_false, Bool.false_eq_true, Bool.true_eq_false, Int.not_lt, Int.not_le, ge_iff_le, gt_iff_lt, Bool.not_eq_eq_eq_not, Bool.true_or, Bool.or_true, Bool.false_or, Bool.or_false, Bool.true_and, Bool.and_true, false_or, or_false, true_and, and_true, Decidable.not_not]; omega
  · simp only [decide_eq_true_eq, decide_eq_false_iff_not, Bool.and_eq_true, Bool.and_eq_false_iff, Bool.or_eq_true, Bool.or_eq_false_iff, Bool.not_eq_true', Bool.not_eq_false', Bool.not_true, Bool.not_false, Bool.false_eq_true, Bool.true_eq_false, Int.not_lt, Int.not_le, ge_iff_le, gt_iff_lt, Bool.not_eq_eq_eq_not, Bool.true_or, Bool.or_true, Bool.false_or, Bool.or_false, Bool.true_and, Bool.and_true, false_or, or_false, true_and, and_true, Decidable.not_not] at hc hc1
    refine ⟨vf ?_, .refl v⟩
    simp only [icell, decide_eq_true_eq, decide_eq_false_iff_not, Bool.and_eq_true, Bool.and_eq_false_iff, Bool.or_eq_true, Bool.or_eq_false_iff, Bool.not_eq_true', Bool.not_eq_false', Bool.not_true, Bool.not_false, Bool.false_eq_true, Bool.true_eq_false, Int.not_lt, Int.not_le, ge_iff_le, gt_iff_lt, Bool.not_eq_eq_eq_not, Bool.true_or, Bool.or_true, Bool.false_or, Bool.or_false, Bool.true_and, Bool.and_true, false_or, or_false, true_and, and_true, Decidable.not_not]
    rintro ⟨⟨⟨⟨⟨⟨h1, h2⟩, h3⟩, h4⟩, h5⟩, h6⟩, h7⟩
    rcases hc1 with hc1 | hc1
    · exact hc1.2 (h5 hc1.1)
    · have := h6 hc1.1
      rw [this] at hfn
      simp at hfn
      omega
  · simp only [decide_eq_true_eq, decide_eq_false_iff_not, Bool.and_eq_true, Bool.and_eq_false_iff, Bool.or_eq_true, Bool.or_eq_false_iff, Bool.not_eq_true', Bool.not_eq_false', Bool.not_true, Bool.not_false, Bool.false_eq_true, Bool.true_eq_false, Int.not_lt, Int.not_le, ge_iff_le, gt_iff_lt, Bool.not_eq_eq_eq_not, Bool.true_or, Bool.or_true, Bool.false_or, Bool.or_false, Bool.true_and, Bool.and_true, false_or, or_false, true_and, and_true, Decidable.not_not] at hc hc1
    refine ⟨fun i w => St v w [] ∧ 0 ≤ i ∧ i ≤ c.fields.length ∧ ∀ g ∈ c.fields.take i.toNat, word h g = true ∧ (c.count < 0 → g = 0), fun i _ => (c.fields.length - i).toNat, ⟨.refl v, by omega, by omega, by simp⟩, ?_⟩
    rintro i w ⟨hS, h0, h1, h2⟩
    dsimp only
    refine ⟨fun hi => ?_, fun hi => ?_⟩
    · simp only [decide_eq_true_eq, decide_eq_false_iff_not, Bool.and_eq_true, Bool.and_eq_false_iff, Bool.or_eq_true, Bool.or_eq_false_iff, Bool.not_eq_true', Bool.not_eq_false', Bool.not_true, Bool.not_false, Bool.false_eq_true, Bool.true_eq_false, Int.not_lt, Int.not_le, ge_iff_le, gt_iff_lt, Bool.not_eq_eq_eq_not, Bool.true_or, Bool.or_true, Bool.false_or, Bool.or_false, Bool.true_and, Bool.and_true, false_or, or_false, true_and, and_true, Decidable.not_not] at hi
      refine go_ix hf h0 (by omega) ?_
      refine ld_int (hf.mono hS.sub) h0 (by omega) ?_
      intro a0 a1
      refine ⟨_, c_wordValid (hx.mono hS.sub) ⟨a0, a1⟩, fun hw => ?_, fun hw => ?_⟩
      · refine ⟨vf ?_, hS.sub⟩
        simp only [decide_eq_true_eq, decide_eq_false_iff_not, Bool.and_eq_true, Bool.and_eq_false_iff, Bool.or_eq_true, Bool.or_eq_false_iff, Bool.not_eq_true', Bool.not_eq_false', Bool.not_true, Bool.not_false, Bool.false_eq_true, Bool.true_eq_false, Int.not_lt, Int.not_le, ge_iff_le, gt_iff_lt, Bool.not_eq_eq_eq_not, Bool.true_or, Bool.or_true, Bool.false_or, Bool.or_false, Bool.true_and, Bool.and_true, false_or, or_false, true_and, and_true, Decidable.not_not] at hw
        simp only [icell, decide_eq_true_eq, decide_eq_false_iff_not, Bool.and_eq_true, Bool.and_eq_false_iff, Bool.or_eq_true, Bool.or_eq_false_iff, Bool.not_eq_true', Bool.not_eq_false', Bool.not_true, Bool.not_false, Bool.false_eq_true, Bool.true_eq_false, Int.not_lt, Int.not_le, ge_iff_le, gt_iff_lt, Bool.not_eq_eq_eq_not, Bool.true_or, Bool.or_true, Bool.false_or, Bool.or_false, Bool.true_and, Bool.and_true, false_or, or_false, true_and, and_true, Decidable.not_not, List.all_eq_true]
        intro hh
        have := hh.2 _ (nth_mem h0 (by omega))
        rcases hw with hw | hw
        · rw [hw] at this; exact Bool.noConfusion this.1
        · exact hw.2 (this.2 hw.1)
      · simp only [decide_eq_true_eq, decide_eq_false_iff_not, Bool.and_eq_true, Bool.and_eq_false_iff, Bool.or_eq_true, Bool.or_eq_false_iff, Bool.not_eq_true', Bool.not_eq_false', Bool.not_true, Bool.not_false, Bool.false_eq_true, Bool.true_eq_false, Int.not_lt, Int.not_le, ge_iff_le, gt_iff_lt, Bool.not_eq_eq_eq_not, Bool.true_or, Bool.or_true, Bool.false_or, Bool.or_false, Bool.true_and, Bool.and_true, false_or, or_false, true_and, and_true, Decidable.not_not] at hw
        refine go_wr (by omega) (by omega) ?_
        refine ⟨rfl, rfl, rfl, ⟨hS, by omega, by omega, ?_⟩, by omega⟩
        rw [take_nth h0 (by omega)]; intro k hk
        rcases List.mem_append.1 hk with hk | hk
        · exact h2 k hk
        · rw [List.mem_singleton.1 hk]; exact ⟨hw.1, fun hlt => by rcases hw.2 with h | h; omega; exact h⟩
    · simp only [decide_eq_true_eq, decide_eq_false_iff_not, Bool.and_eq_true, Bool.and_eq_false_iff, Bool.or_eq_true, Bool.or_eq_false_iff, Bool.not_eq_true', Bool.not_eq_false', Bool.not_true, Bool.not_false, Bool.false_eq_true, Bool.true_eq_false, Int.not_lt, Int.not_le, ge_iff_le, gt_iff_lt, Bool.not_eq_eq_eq_not, Bool.true_or, Bool.or_true, Bool.false_or, Bool.or_false, Bool.true_and, Bool.and_true, false_or, or_false, true_and, and_true, Decidable.not_not] at hi
      rw [take_all (by omega)] at h2
      refine ⟨vt ?_, hS.sub⟩
      simp only [icell, decide_eq_true_eq, decide_eq_false_iff_not, Bool.and_eq_true, Bool.and_eq_false_iff, Bool.or_eq_true, Bool.or_eq_false_iff, Bool.not_eq_true', Bool.not_eq_false', Bool.not_true, Bool.not_false, Bool.false_eq_true, Bool.true_eq_false, Int.not_lt, Int.not_le, ge_iff_le, gt_iff_lt, Bool.not_eq_eq_eq_not, Bool.true_or, Bool.or_true, Bool.false_or, Bool.or_false, Bool.true_and, Bool.and_true, false_or, or_false, true_and, and_true, Decidable.not_not, List.all_eq_true]
      refine ⟨⟨⟨⟨⟨⟨by omega, by omega⟩, by omega⟩, by omega⟩, fun hlt => ?_⟩, fun he => ?_⟩, h2⟩
      · rcases hc1.1 with h | h
        · omega
        · exact h
      · rcases hc1.2 with h | h
        · omega
        · exact List.eq_nil_of_length_eq_zero (by omega)

theorem c_checkedHeap (hx : Read v x h) : Mk Try.prog 54 #[x.val] v fun r J => ∃ y : Sl, r = .tuple #[y.val, .bool (vheapB h)] ∧ (vheapB h = true → Own v y (refL h) J) := by
  have vf : ¬ vheap h → vheapB h = false := fun hh => Bool.eq_false_iff.2 (fun e => hh (vheapB_iff.1 e))
  have bad : ∀ w I, St v w (I ++ []) → ¬ vheap h → ∃ J, St v w J ∧ ∃ y : Sl, Value.tuple #[.slice none 0 0, .bool false] = .tuple #[y.val, .bool (vheapB h)] ∧ (vheapB h = true → Own v y (refL h) J) :=
    fun w I hS hh => ⟨I, by simpa using hS, ⟨none, 0, 0⟩, by rw [vf hh]; rfl, fun e => by rw [vf hh] at e; cases e⟩
  refine of54 _ _ _ ?_
  unfold vc54
  have hn := hx.n
  have hl := hx.le
  refine St.makeInts (.refl v) (by omega) (by omega) (by decide) ?_
  intro y w1 I1 hO hS hs
  refine ⟨_, rfl, ?_⟩
  refine ⟨fun i w => ∃ I, Own v y (refsW h h.length (words (h.take i.toNat))) I ∧ St v w (I ++ []) ∧ 0 ≤ i ∧ i ≤ h.length ∧ ∀ c ∈ h.take i.toNat, icell h c = true, fun i _ => (h.length - i).toNat, ⟨I1, ?_, hS, by omega, by omega, by simp⟩, ?_⟩
  · rw [hn] at hO; simpa [words, refsW_nil] using hO
  rintro i w ⟨I, hO, hS, h0, h1, hic⟩
  dsimp only
  refine ⟨fun hi => ?_, fun hi => ?_⟩
  · simp only [decide_eq_true_eq, decide_eq_false_iff_not, Bool.and_eq_true, Bool.and_eq_false_iff, Bool.or_eq_true, Bool.or_eq_false_iff, Bool.not_eq_true', Bool.not_eq_false', Bool.not_true, Bool.not_false, Bool.false_eq_true, Bool.true_eq_false, Int.not_lt, Int.not_le, ge_iff_le, gt_iff_lt, Bool.not_eq_eq_eq_not, Bool.true_or, Bool.or_true, Bool.false_or, Bool.or_false, Bool.true_and, Bool.and_true, false_or, or_false, true_and, and_true, Decidable.not_not] at hi
    have hm := nth_mem h0 (l := h) (by omega)
    refine go_ix hx h0 (by omega) ?_
    refine ld_cell (hx.src hS.sub) h0 (by omega) ?_
    intro f hf hcI htI
    have hfn := hf.n
    refine ⟨_, c_cellValid (hx.mono hS.sub) (hf.mono hS.sub) hcI htI, fun hv => ?_, fun hv => ?_⟩
    · simp only [decide_eq_true_eq, decide_eq_false_iff_not, Bool.and_eq_true, Bool.and_eq_false_iff, Bool.or_eq_true, Bool.or_eq_false_iff, Bool.not_eq_true', Bool.not_eq_false', Bool.not_true, Bool.not_false, Bool.false_eq_true, Bool.true_eq_false, Int.not_lt, Int.not_le, ge_iff_le, gt_iff_lt, Bool.not_eq_eq_eq_not, Bool.true_or, Bool.or_true, Bool.false_or, Bool.or_false, Bool.true_and, Bool.and_true, false_or, or_false, true_and, and_true, Decidable.not_not] at hv
      exact bad _ _ hS fun hh => by have := vcell_i (hh.2.1 _ hm); rw [hv] at this; cases this
    · simp only [decide_eq_true_eq, decide_eq_false_iff_not, Bool.and_eq_true, Bool.and_eq_false_iff, Bool.or_eq_true, Bool.or_eq_false_iff, Bool.not_eq_true', Bool.not_eq_false', Bool.not_true, Bool.not_false, Bool.false_eq_true, Bool.true_eq_false, Int.not_lt, Int.not_le, ge_iff_le, gt_iff_lt, Bool.not_eq_eq_eq_not, Bool.true_or, Bool.or_true, Bool.false_or, Bool.or_false, Bool.true_and, Bool.and_true, false_or, or_false, true_and, and_true, Decidable.not_not] at hv
      have hc3 := icell_len hv
      have hwl : (words (h.take i.toNat)).length ≤ 3 * h.length := by
        have := words_len (h := h.take i.toNat) (fun c hc => icell_len (hic c hc))
        rw [List.length_take] at this; omega
      refine ⟨fun j w => ∃ I, Own v y (refsW h h.length (words (h.take i.toNat) ++ (nth h i).fields.take j.toNat)) I ∧ St v w (I ++ []) ∧ 0 ≤ j ∧ j ≤ (nth h i).fields.length, fun j _ => ((nth h i).fields.length - j).toNat, ⟨I, by simpa using hO, hS, by omega, by omega⟩, ?_⟩
      rintro j w ⟨I, hO, hS, j0, j1⟩
      dsimp only
      refine ⟨fun hj => ?_, fun hj => ?_⟩
      · simp only [decide_eq_true_eq, decide_eq_false_iff_not, Bool.and_eq_true, Bool.and_eq_false_iff, Bool.or_eq_true, Bool.or_eq_false_iff, Bool.not_eq_true', Bool.not_eq_false', Bool.not_true, Bool.not_false, Bool.false_eq_true, Bool.true_eq_false, Int.not_lt, Int.not_le, ge_iff_le, gt_iff_lt, Bool.not_eq_eq_eq_not, Bool.true_or, Bool.or_true, Bool.false_or, Bool.or_false, Bool.true_and, Bool.and_true, false_or, or_false, true_and, and_true, Decidable.not_not] at hj
        refine go_ix hf j0 (by omega) ?_
        refine ld_int (hf.mono hS.sub) j0 (by omega) ?_
        intro a0 a1
        have hstep : (nth h i).fields.take (j + 1).toNat = (nth h i).fields.take j.toNat ++ [nth (nth h i).fields j] := take_nth j0 (by omega)
        refine ⟨_, _, c_liveAt (hx.mono hS.sub) ⟨a0, a1⟩, fun hlv => ?_, fun hlv => ?_⟩
        · obtain ⟨p1, p2, p3⟩ := live_spec hlv
          rw [live_at hlv a1]
          refine go_oix hO (by omega) (by rw [length_refsW]; omega) ?_
          refine ld_int (Own.read hO hS) (by omega) (by rw [length_refsW]; omega) ?_
          intro b0 b1
          have hc := (cnt_le h (words (h.take i.toNat) ++ (nth h i).fields.take j.toNat) (nth (nth h i).fields j - 1000).toNat)
          rw [← nth_refsW (h := h) (n := h.length) (by omega) (by omega), List.length_append, List.length_take] at hc
          refine go_wr (by omega) (by omega) ?_
          refine go_oix hO (by omega) (by rw [length_refsW]; omega) ?_
          refine st_int hO hS (by omega) (by rw [length_refsW]; omega) (by constructor <;> omega) ?_
          intro w2 I2 hO2 hS
          refine go_wr (by omega) (by omega) ?_
          refine ⟨rfl, rfl, rfl, ⟨I2, ?_, hS, by omega, by omega⟩, by omega⟩
          rw [hstep, ← List.append_assoc, refsW_live hlv (Nat.le_refl _)]; exact hO2
        · refine go_wr (by omega) (by omega) ?_
          refine ⟨rfl, rfl, rfl, ⟨I, ?_, hS, by omega, by omega⟩, by omega⟩
          rw [hstep, ← List.append_assoc, refsW_dead hlv]; exact hO
      · simp only [decide_eq_true_eq, decide_eq_false_iff_not, Bool.and_eq_true, Bool.and_eq_false_iff, Bool.or_eq_true, Bool.or_eq_false_iff, Bool.not_eq_true', Bool.not_eq_false', Bool.not_true, Bool.not_false, Bool.false_eq_true, Bool.true_eq_false, Int.not_lt, Int.not_le, ge_iff_le, gt_iff_lt, Bool.not_eq_eq_eq_not, Bool.true_or, Bool.or_true, Bool.false_or, Bool.or_false, Bool.true_and, Bool.and_true, false_or, or_false, true_and, and_true, Decidable.not_not] at hj
        refine go_wr (by omega) (by omega) ?_
        refine ⟨⟨I, ?_, hS, by omega, by omega, ?_⟩, by omega⟩
        · rw [words_take h0 (by omega)]
          rw [take_all (l := (nth h i).fields) (by omega)] at hO; exact hO
        · rw [take_nth h0 (by omega)]; intro k hk
          rcases List.mem_append.1 hk with hk | hk
          · exact hic k hk
          · rw [List.mem_singleton.1 hk]; exact hv
  · simp only [decide_eq_true_eq, decide_eq_false_iff_not, Bool.and_eq_true, Bool.and_eq_false_iff, Bool.or_eq_true, Bool.or_eq_false_iff, Bool.not_eq_true', Bool.not_eq_false', Bool.not_true, Bool.not_false, Bool.false_eq_true, Bool.true_eq_false, Int.not_lt, Int.not_le, ge_iff_le, gt_iff_lt, Bool.not_eq_eq_eq_not, Bool.true_or, Bool.or_true, Bool.false_or, Bool.or_false, Bool.true_and, Bool.and_true, false_or, or_false, true_and, and_true, Decidable.not_not] at hi
    rw [take_all (by omega)] at hO hic
    refine ⟨(x.n : Int) - 1, fun hc => wrap_i64 (by omega) (by omega), fun hc => hx.ix (by simp only [decide_eq_true_eq, decide_eq_false_iff_not, Bool.and_eq_true, Bool.and_eq_false_iff, Bool.or_eq_true, Bool.or_eq_false_iff, Bool.not_eq_true', Bool.not_eq_false', Bool.not_true, Bool.not_false, Bool.false_eq_true, Bool.true_eq_false, Int.not_lt, Int.not_le, ge_iff_le, gt_iff_lt, Bool.not_eq_eq_eq_not, Bool.true_or, Bool.or_true, Bool.false_or, Bool.or_false, Bool.true_and, Bool.and_true, false_or, or_false, true_and, and_true, Decidable.not_not] at hc; omega) (by omega), ?_⟩
    refine ld_countg (hx.src hS.sub) (fun hc => ⟨by simp only [decide_eq_true_eq, decide_eq_false_iff_not, Bool.and_eq_true, Bool.and_eq_false_iff, Bool.or_eq_true, Bool.or_eq_false_iff, Bool.not_eq_true', Bool.not_eq_false', Bool.not_true, Bool.not_false, Bool.false_eq_true, Bool.true_eq_false, Int.not_lt, Int.not_le, ge_iff_le, gt_iff_lt, Bool.not_eq_eq_eq_not, Bool.true_or, Bool.or_true, Bool.false_or, Bool.or_false, Bool.true_and, Bool.and_true, false_or, or_false, true_and, and_true, Decidable.not_not] at hc; omega, by omega⟩) ?_
    refine ⟨fun hc => ?_, fun hc => ?_⟩
    · simp only [decide_eq_true_eq, decide_eq_false_iff_not, Bool.and_eq_true, Bool.and_eq_false_iff, Bool.or_eq_true, Bool.or_eq_false_iff, Bool.not_eq_true', Bool.not_eq_false', Bool.not_true, Bool.not_false, Bool.false_eq_true, Bool.true_eq_false, Int.not_lt, Int.not_le, ge_iff_le, gt_iff_lt, Bool.not_eq_eq_eq_not, Bool.true_or, Bool.or_true, Bool.false_or, Bool.or_false, Bool.true_and, Bool.and_true, false_or, or_false, true_and, and_true, Decidable.not_not] at hc
      refine bad _ _ hS fun hh => hh.1 (by omega) ?_
      rw [← hn]; exact hc.2
    simp only [decide_eq_true_eq, decide_eq_false_iff_not, Bool.and_eq_true, Bool.and_eq_false_iff, Bool.or_eq_true, Bool.or_eq_false_iff, Bool.not_eq_true', Bool.not_eq_false', Bool.not_true, Bool.not_false, Bool.false_eq_true, Bool.true_eq_false, Int.not_lt, Int.not_le, ge_iff_le, gt_iff_lt, Bool.not_eq_eq_eq_not, Bool.true_or, Bool.or_true, Bool.false_or, Bool.or_false, Bool.true_and, Bool.and_true, false_or, or_false, true_and, and_true, Decidable.not_not] at hc
    have hlast : lastOk h := fun hp => by rw [← hn]; rcases hc with hc | hc; omega; exact hc
    refine Mk.usew (c_cloneInts (Own.read hO hS)) hS ?_
    rintro _ w2 J2 ⟨z, rfl, hZ⟩ hS hsub
    replace hZ : Own v z (refL h) J2 := hZ.ofInts
    have hrl := length_refs h
    refine ⟨_, rfl, ?_⟩
    refine ⟨fun ws i w => ∃ I3 work, Own v ws work I3 ∧ St v w (I3 ++ (J2 ++ (I ++ []))) ∧ 0 ≤ i ∧ i ≤ h.length ∧ work.Nodup ∧ (∀ k ∈ work, 0 ≤ k ∧ k < i) ∧ (∀ k : Int, 0 ≤ k → k < i → (k ∈ work ↔ nth (refL h) k = 0)) ∧
        (∀ k : Int, 0 ≤ k → k < i → 0 < (nth h k).count → nth (refL h) k ≤ (nth h k).count ∧ (nth h k).count ≤ 999999) ∧ work.length ≤ i,
      fun _ i _ => (h.length - i).toNat, ⟨[], [], Own.nil v, hS, by omega, by omega, by simp, by simp, by omega, by omega, by simp⟩, ?_⟩
    rintro ws i w ⟨I3, work, hW, hS, h0, h1, hnd, hwk, hmem, hcnt, hwl⟩
    dsimp only
    refine ⟨fun hi => ?_, fun hi => ?_⟩
    · simp only [decide_eq_true_eq, decide_eq_false_iff_not, Bool.and_eq_true, Bool.and_eq_false_iff, Bool.or_eq_true, Bool.or_eq_false_iff, Bool.not_eq_true', Bool.not_eq_false', Bool.not_true, Bool.not_false, Bool.false_eq_true, Bool.true_eq_false, Int.not_lt, Int.not_le, ge_iff_le, gt_iff_lt, Bool.not_eq_eq_eq_not, Bool.true_or, Bool.or_true, Bool.false_or, Bool.or_false, Bool.true_and, Bool.and_true, false_or, or_false, true_and, and_true, Decidable.not_not] at hi
      refine go_ix hx h0 (by omega) ?_
      refine ld_cell (hx.src hS.sub) h0 (by omega) ?_
      intro f hf hcI htI
      refine ⟨fun _ => hO.ix h0 (by rw [length_refsW]; omega), ?_⟩
      refine ld_intg (Own.read hO hS) (fun hc => ⟨h0, by rw [length_refsW]; omega⟩) ?_
      change (_ → _) ∧ (_ → _)
      refine ⟨fun hc => ?_, fun hc => ?_⟩
      · simp only [decide_eq_true_eq, decide_eq_false_iff_not, Bool.and_eq_true, Bool.and_eq_false_iff, Bool.or_eq_true, Bool.or_eq_false_iff, Bool.not_eq_true', Bool.not_eq_false', Bool.not_true, Bool.not_false, Bool.false_eq_true, Bool.true_eq_false, Int.not_lt, Int.not_le, ge_iff_le, gt_iff_lt, Bool.not_eq_eq_eq_not, Bool.true_or, Bool.or_true, Bool.false_or, Bool.or_false, Bool.true_and, Bool.and_true, false_or, or_false, true_and, and_true, Decidable.not_not] at hc
        refine bad w (I3 ++ (J2 ++ I)) (by simpa using hS) fun hh => ?_
        have h1 := hh.2.1 _ (nth_mem h0 (l := h) (by omega))
        have h2 := hh.2.2.1 i.toNat (by omega) (by rw [Int.toNat_of_nonneg h0]; omega)
        rw [Int.toNat_of_nonneg h0] at h2
        simp only [vcell, decide_eq_true_eq, decide_eq_false_iff_not, Bool.and_eq_true, Bool.and_eq_false_iff, Bool.or_eq_true, Bool.or_eq_false_iff, Bool.not_eq_true', Bool.not_eq_false', Bool.not_true, Bool.not_false, Bool.false_eq_true, Bool.true_eq_false, Int.not_lt, Int.not_le, ge_iff_le, gt_iff_lt, Bool.not_eq_eq_eq_not, Bool.true_or, Bool.or_true, Bool.false_or, Bool.or_false, Bool.true_and, Bool.and_true, false_or, or_false, true_and, and_true, Decidable.not_not] at h1
        unfold refL at h2
        omega
      simp only [decide_eq_true_eq, decide_eq_false_iff_not, Bool.and_eq_true, Bool.and_eq_false_iff, Bool.or_eq_true, Bool.or_eq_false_iff, Bool.not_eq_true', Bool.not_eq_false', Bool.not_true, Bool.not_false, Bool.false_eq_true, Bool.true_eq_false, Int.not_lt, Int.not_le, ge_iff_le, gt_iff_lt, Bool.not_eq_eq_eq_not, Bool.true_or, Bool.or_true, Bool.false_or, Bool.or_false, Bool.true_and, Bool.and_true, false_or, or_false, true_and, and_true, Decidable.not_not] at hc
      have hcnt' : ∀ k : Int, 0 ≤ k → k < i + 1 → 0 < (nth h k).count → nth (refL h) k ≤ (nth h k).count ∧ (nth h k).count ≤ 999999 := fun k k0 k1 hp => by
        rcases Int.lt_or_le k i with hlt | hge
        · exact hcnt k k0 hlt hp
        · have : k = i := by omega
          subst this
          unfold refL
          omega
      refine go_oix hO h0 (by rw [length_refsW]; omega) ?_
      refine ld_int (Own.read hO hS) h0 (by rw [length_refsW]; omega) ?_
      intro b0 b1
      refine ⟨fun hz => ?_, fun hz => ?_⟩
      · simp only [decide_eq_true_eq, decide_eq_false_iff_not, Bool.and_eq_true, Bool.and_eq_false_iff, Bool.or_eq_true, Bool.or_eq_false_iff, Bool.not_eq_true', Bool.not_eq_false', Bool.not_true, Bool.not_false, Bool.false_eq_true, Bool.true_eq_false, Int.not_lt, Int.not_le, ge_iff_le, gt_iff_lt, Bool.not_eq_eq_eq_not, Bool.true_or, Bool.or_true, Bool.false_or, Bool.or_false, Bool.true_and, Bool.and_true, false_or, or_false, true_and, and_true, Decidable.not_not] at hz
        refine St.build (α := Int) hS (by (repeat' (first | exact VsOf.nil | apply VsOf.cons | (apply VOf.int; first | assumption | (constructor <;> first | omega | (simp only [List.length_set, List.length_append, List.length_replicate, List.length_cons, List.length_nil, List.length_take, List.length_drop, List.length_map, List.length_singleton] at *; omega))) | exact VOf.bool | exact VOf.str))) rfl (by decide) ?_
        intro x4 w4 I4 hO4 hS hs
        refine ⟨_, rfl, ?_⟩
        refine Own.append hW hS (hO4.src hS) (by simp; omega) (by decide) ?_
        intro x5 w5 I5 hO5 hS
        refine ⟨_, rfl, ?_⟩
        refine go_wr (by omega) (by omega) ?_
        refine ⟨⟨I5, _, hO5, hS.to, by omega, by omega, ?_, ?_, ?_, hcnt', by simp; omega⟩, by omega⟩
        · exact List.nodup_append.2 ⟨hnd, by simp, fun a ha b hb e => by rw [List.mem_singleton.1 hb] at e; subst e; have := hwk _ ha; omega⟩
        · intro k hk
          rcases List.mem_append.1 hk with hk | hk
          · have := hwk k hk; omega
          · rw [List.mem_singleton.1 hk]; omega
        · intro k k0 k1
          rcases Int.lt_or_le k i with hlt | hge
          · rw [← hmem k k0 hlt]; simp; omega
          · have : k = i := by omega
            subst this
            simp; exact hz
      · simp only [decide_eq_true_eq, decide_eq_false_iff_not, Bool.and_eq_true, Bool.and_eq_false_iff, Bool.or_eq_true, Bool.or_eq_false_iff, Bool.not_eq_true', Bool.not_eq_false', Bool.not_true, Bool.not_false, Bool.false_eq_true, Bool.true_eq_false, Int.not_lt, Int.not_le, ge_iff_le, gt_iff_lt, Bool.not_eq_eq_eq_not, Bool.true_or, Bool.or_true, Bool.false_or, Bool.or_false, Bool.true_and, Bool.and_true, false_or, or_false, true_and, and_true, Decidable.not_not] at hz
        refine go_wr (by omega) (by omega) ?_
        refine ⟨⟨I3, _, hW, hS, by omega, by omega, hnd, fun k hk => by have := hwk k hk; omega, fun k k0 k1 => ?_, hcnt', by omega⟩, by omega⟩
        rcases Int.lt_or_le k i with hlt | hge
        · exact hmem k k0 hlt
        · have : k = i := by omega
          subst this
          constructor
          · intro hk; have := hwk _ hk; omega
          · intro he; exact absurd he hz
    · simp only [decide_eq_true_eq, decide_eq_false_iff_not, Bool.and_eq_true, Bool.and_eq_false_iff, Bool.or_eq_true, Bool.or_eq_false_iff, Bool.not_eq_true', Bool.not_eq_false', Bool.not_true, Bool.not_false, Bool.false_eq_true, Bool.true_eq_false, Int.not_lt, Int.not_le, ge_iff_le, gt_iff_lt, Bool.not_eq_eq_eq_not, Bool.true_or, Bool.or_true, Bool.false_or, Bool.or_false, Bool.true_and, Bool.and_true, false_or, or_false, true_and, and_true, Decidable.not_not] at hi
      have hie : i = h.length := by omega
      subst hie
      have K0 : Kahn h (refL h) work (List.replicate h.length false) [] 0 := Kahn.start rfl hwk hnd hmem
      refine ⟨fun ws many w => ∃ I3 J3 work left gone, Own v ws work I3 ∧ Own v z left J3 ∧ St v w (I3 ++ (J3 ++ (I ++ []))) ∧ Kahn h left work gone [] many, fun _ many _ => (h.length - many).toNat, ⟨I3, J2, work, _, _, hW, hZ, hS, K0⟩, ?_⟩
      rintro ws many w ⟨I3, J3, work, left, gone, hW, hZ, hS, K⟩
      dsimp only
      have hwn := hW.n
      have hwle := hW.le
      refine ⟨fun hi => ?_, fun hi => ?_⟩
      · simp only [decide_eq_true_eq, decide_eq_false_iff_not, Bool.and_eq_true, Bool.and_eq_false_iff, Bool.or_eq_true, Bool.or_eq_false_iff, Bool.not_eq_true', Bool.not_eq_false', Bool.not_true, Bool.not_false, Bool.false_eq_true, Bool.true_eq_false, Int.not_lt, Int.not_le, ge_iff_le, gt_iff_lt, Bool.not_eq_eq_eq_not, Bool.true_or, Bool.or_true, Bool.false_or, Bool.or_false, Bool.true_and, Bool.and_true, false_or, or_false, true_and, and_true, Decidable.not_not] at hi
        refine go_wr (by omega) (by omega) ?_
        refine go_oix hW (by omega) (by omega) ?_
        refine ld_int (Own.read hW hS) (by omega) (by omega) ?_
        intro b0 b1
        obtain ⟨ws0, at_, rfl⟩ : ∃ ws0 at_, work = ws0 ++ [at_] := by
          have hne : work ≠ [] := fun e => by rw [e] at hwn; simp at hwn; omega
          exact ⟨_, _, (List.dropLast_concat_getLast hne).symm⟩
        have hnth : nth (ws0 ++ [at_]) ((ws.n : Int) - 1) = at_ := by
          refine nth_of ?_
          rw [hwn]; simp
        rw [hnth]
        obtain ⟨a0, a1, K⟩ := K.pop
        have hbd := K.bound
        have hmz := K.many_
        refine go_ix hx a0 (by omega) ?_
        refine ld_cell (hx.src hS.sub) a0 (by omega) ?_
        intro f hf hcI htI
        have hfn := hf.n
        have hfl := icell_len (hic _ (nth_mem (l := h) a0 a1))
        refine go_wr (by omega) (by omega) ?_
        refine ⟨⟨by omega, by omega, ?_⟩, ?_⟩
        · obtain ⟨_, hr, _⟩ := Own.read hW hS; have := hr.2.1; omega
        have hcut := hW.cut (lo := 0) (hi := (ws.n : Int) - 1) (by omega) (by omega) (by omega)
        have hct : ((ws0 ++ [at_]).take ((ws.n : Int) - 1).toNat).drop (0 : Int).toNat = ws0 := by
          rw [hwn]; simp
        rw [hct] at hcut
        refine ⟨fun ws j w => ∃ I3 J3 work left, Own v ws work I3 ∧ Own v z left J3 ∧ St v w (I3 ++ (J3 ++ (I ++ []))) ∧ Kahn h left work (gone.set at_.toNat true) ((nth h at_).fields.drop j.toNat) (many + 1) ∧ 0 ≤ j ∧ j ≤ (nth h at_).fields.length,
          fun _ j _ => ((nth h at_).fields.length - j).toNat, ⟨I3, J3, _, _, hcut, hZ, hS, K, by omega, by omega⟩, ?_⟩
        clear hcut hct hW hZ hS K hwn hwle b0 b1 hi hnth
        rintro ws j w ⟨I3, J3, work, left, hW, hZ, hS, K, j0, j1⟩
        dsimp only
        refine ⟨fun hj => ?_, fun hj => ?_⟩
        · simp only [decide_eq_true_eq, decide_eq_false_iff_not, Bool.and_eq_true, Bool.and_eq_false_iff, Bool.or_eq_true, Bool.or_eq_false_iff, Bool.not_eq_true', Bool.not_eq_false', Bool.not_true, Bool.not_false, Bool.false_eq_true, Bool.true_eq_false, Int.not_lt, Int.not_le, ge_iff_le, gt_iff_lt, Bool.not_eq_eq_eq_not, Bool.true_or, Bool.or_true, Bool.false_or, Bool.or_false, Bool.true_and, Bool.and_true, false_or, or_false, true_and, and_true, Decidable.not_not] at hj
          have hdrop : (nth h at_).fields.drop j.toNat = nth (nth h at_).fields j :: (nth h at_).fields.drop (j + 1).toNat := by
            rw [show (j + 1).toNat = j.toNat + 1 from by omega]
            have hlt : j.toNat < (nth h at_).fields.length := by omega
            rw [List.drop_eq_getElem_cons hlt]
            congr 1
            exact (nth_of (i := j) (by simp [hlt])).symm
          rw [hdrop] at K
          have hll := K.ll
          refine go_ix hf j0 (by omega) ?_
          refine ld_int (hf.mono hS.sub) j0 (by omega) ?_
          intro a2 a3
          refine ⟨_, _, c_liveAt (hx.mono hS.sub) ⟨a2, a3⟩, fun hlv => ?_, fun hlv => ?_⟩
          · obtain ⟨p1, p2, p3⟩ := live_spec hlv
            rw [live_at hlv a3]
            obtain ⟨k1, k2, k3⟩ := K.dec hlv
            refine go_oix hZ (by omega) (by omega) ?_
            refine ld_int (Own.read hZ hS) (by omega) (by omega) ?_
            intro b0 b1
            refine go_wr (by omega) (by omega) ?_
            refine go_oix hZ (by omega) (by omega) ?_
            refine st_int hZ hS (by omega) (by omega) (by constructor <;> omega) ?_
            intro w5 J5 hZ5 hS
            refine go_oix hZ5 (by omega) (by simp; omega) ?_
            refine ld_int (Own.read hZ5 hS) (by omega) (by simp; omega) ?_
            intro b2 b3
            rw [nth_set _ _ _ _ (by omega) (by omega) (by omega), if_pos rfl] at *
            refine ⟨fun hz => ?_, fun hz => ?_⟩
            · simp only [decide_eq_true_eq, decide_eq_false_iff_not, Bool.and_eq_true, Bool.and_eq_false_iff, Bool.or_eq_true, Bool.or_eq_false_iff, Bool.not_eq_true', Bool.not_eq_false', Bool.not_true, Bool.not_false, Bool.false_eq_true, Bool.true_eq_false, Int.not_lt, Int.not_le, ge_iff_le, gt_iff_lt, Bool.not_eq_eq_eq_not, Bool.true_or, Bool.or_true, Bool.false_or, Bool.or_false, Bool.true_and, Bool.and_true, false_or, or_false, true_and, and_true, Decidable.not_not] at hz
              have K := k2 hz
              have hwl : work.length + 1 ≤ h.length := by
                have h2 := (K.nd)
                have h3 : (work ++ [nth (nth h at_).fields j - 1000]).length ≤ h.length := by
                  have := List.Nodup.length_le_of_subset (l₁ := (work ++ [nth (nth h at_).fields j - 1000])) (l₂ := (List.range h.length).map (fun (k : Nat) => (k : Int))) h2 (fun k hk => by
                    have := K.wk k hk
                    exact List.mem_map.2 ⟨k.toNat, by simp; omega, by omega⟩)
                  simpa using this
                simp at h3; omega
              refine St.build (α := Int) hS (by (repeat' (first | exact VsOf.nil | apply VsOf.cons | (apply VOf.int; first | assumption | (constructor <;> first | omega | (simp only [List.length_set, List.length_append, List.length_replicate, List.length_cons, List.length_nil, List.length_take, List.length_drop, List.length_map, List.length_singleton] at *; omega))) | exact VOf.bool | exact VOf.str))) rfl (by decide) ?_
              intro x6 w6 I6 hO6 hS hs
              refine ⟨_, rfl, ?_⟩
              refine Own.append hW hS (hO6.src hS) (by simp; omega) (by decide) ?_
              intro x7 w7 I7 hO7 hS
              refine ⟨_, rfl, ?_⟩
              refine go_wr (by omega) (by omega) ?_
              exact ⟨rfl, rfl, rfl, ⟨I7, J5, _, _, hO7, hZ5, hS.to, K, by omega, by omega⟩, by omega⟩
            · simp only [decide_eq_true_eq, decide_eq_false_iff_not, Bool.and_eq_true, Bool.and_eq_false_iff, Bool.or_eq_true, Bool.or_eq_false_iff, Bool.not_eq_true', Bool.not_eq_false', Bool.not_true, Bool.not_false, Bool.false_eq_true, Bool.true_eq_false, Int.not_lt, Int.not_le, ge_iff_le, gt_iff_lt, Bool.not_eq_eq_eq_not, Bool.true_or, Bool.or_true, Bool.false_or, Bool.or_false, Bool.true_and, Bool.and_true, false_or, or_false, true_and, and_true, Decidable.not_not] at hz
              refine go_wr (by omega) (by omega) ?_
              exact ⟨rfl, rfl, rfl, ⟨I3, J5, _, _, hW, hZ5, hS, k3 hz, by omega, by omega⟩, by omega⟩
          · refine go_wr (by omega) (by omega) ?_
            exact ⟨rfl, rfl, rfl, ⟨I3, J3, _, _, hW, hZ, hS, K.skip hlv, by omega, by omega⟩, by omega⟩
        · simp only [decide_eq_true_eq, decide_eq_false_iff_not, Bool.and_eq_true, Bool.and_eq_false_iff, Bool.or_eq_true, Bool.or_eq_false_iff, Bool.not_eq_true', Bool.not_eq_false', Bool.not_true, Bool.not_false, Bool.false_eq_true, Bool.true_eq_false, Int.not_lt, Int.not_le, ge_iff_le, gt_iff_lt, Bool.not_eq_eq_eq_not, Bool.true_or, Bool.or_true, Bool.false_or, Bool.or_false, Bool.true_and, Bool.and_true, false_or, or_false, true_and, and_true, Decidable.not_not] at hj
          refine go_wr (by omega) (by omega) ?_
          rw [List.drop_eq_nil_of_le (by omega)] at K
          exact ⟨⟨I3, J3, work, left, _, hW, hZ, hS, K⟩, by omega⟩
      · simp only [decide_eq_true_eq, decide_eq_false_iff_not, Bool.and_eq_true, Bool.and_eq_false_iff, Bool.or_eq_true, Bool.or_eq_false_iff, Bool.not_eq_true', Bool.not_eq_false', Bool.not_true, Bool.not_false, Bool.false_eq_true, Bool.true_eq_false, Int.not_lt, Int.not_le, ge_iff_le, gt_iff_lt, Bool.not_eq_eq_eq_not, Bool.true_or, Bool.or_true, Bool.false_or, Bool.or_false, Bool.true_and, Bool.and_true, false_or, or_false, true_and, and_true, Decidable.not_not] at hi
        have hnil : work = [] := List.eq_nil_of_length_eq_zero (by omega)
        subst hnil
        refine ⟨I, hS.right.right.left, y, ?_, fun _ => hO⟩
        have : decide (many = (x.n : Int)) = vheapB h := by
          apply Bool.eq_iff_iff.2
          rw [vheapB_iff, decide_eq_true_eq, hn, K.end_]
          constructor
          · intro ha
            refine ⟨hlast, fun c hc => ?_, fun k hk hp => (hcnt k (by omega) (by omega) hp).1, ha⟩
            obtain ⟨i, i0, i1, rfl⟩ := mem_nth hc
            simp only [vcell, decide_eq_true_eq, decide_eq_false_iff_not, Bool.and_eq_true, Bool.and_eq_false_iff, Bool.or_eq_true, Bool.or_eq_false_iff, Bool.not_eq_true', Bool.not_eq_false', Bool.not_true, Bool.not_false, Bool.false_eq_true, Bool.true_eq_false, Int.not_lt, Int.not_le, ge_iff_le, gt_iff_lt, Bool.not_eq_eq_eq_not, Bool.true_or, Bool.or_true, Bool.false_or, Bool.or_false, Bool.true_and, Bool.and_true, false_or, or_false, true_and, and_true, Decidable.not_not]
            refine ⟨hic _ hc, ?_⟩
            rcases Int.lt_or_le 0 (nth h i).count with hp | hp
            · exact (hcnt i i0 i1 hp).2
            · omega
          · exact fun hh => hh.2.2.2
        rw [this]

theorem c_implValidHeap (hx : Read v x h) : Fn Try.prog 16 #[x.val] v (.bool (vheapB h)) := by
  refine of16 _ _ _ ?_
  unfold vc16
  refine Mk.use (c_checkedHeap hx) (.refl v) ?_
  rintro _ w J ⟨y, rfl, _⟩ hS hsub
  exact ⟨_, _, rfl, rfl, hS.sub⟩
end
end Go.Vc
