/- Part of the proofs about the heaps: a law is joined in the text whose name ends in W and the law. -/
import Derived.Test.YtmmkfmmcmjpcgaaBC3
namespace Go.Vc
open Go Go.Proofs Go.RowKit
set_option linter.all false
section
variable {u v w : World} {x y : Sl} {l m : List Int} {h : List CellD} {n k : Int} {a : Addr} {I J L R : Items} {F : Items → Items}

theorem c_isAcyclic (hx : Read v x h) (hw : wordsOk h) : Fn Try.prog 91 #[x.val] v (.bool (acycB h)) := by
  refine of91 _ _ _ ?_
  unfold vc91
  have hn := hx.n
  have hl := hx.le
  refine St.makeBools (.refl v) (by omega) (by omega) (by decide) ?_
  intro y w1 I1 hO hS hs
  refine ⟨_, rfl, ?_⟩
  let Inv : List Bool → Int → Prop := fun ms many => ms.length = h.length ∧ many = (ms.count true : Nat) ∧ ∃ rk, Rk h ms rk many
  refine ⟨fun many more w => ∃ I ms, Own v y ms I ∧ St v w (I ++ []) ∧ Inv ms many ∧ (more = false → ∀ i : Int, 0 ≤ i → i < h.length → nth ms i = false → ¬ allM ms (nth h i).fields),
    fun many more _ => (2 * (h.length - many) + if more then 1 else 0).toNat, ⟨I1, _, hO, hS, ⟨by simp; omega, by simp [List.count_replicate], fun _ => 0, fun i h0 h1 hm => ?_⟩, by simp⟩, ?_⟩
  · have : nth (List.replicate (x.n : Int).toNat false) i = false := nth_of (List.getElem?_replicate_of_lt (by omega))
    rw [this] at hm; cases hm
  rintro many more w ⟨I, ms, hO, hS, ⟨hml, hmc, rk, hrk⟩, hstop⟩
  dsimp only
  have hcl : ms.count true ≤ ms.length := List.count_le_length
  refine ⟨fun hmore => ?_, fun hmore => ?_⟩
  · refine ⟨fun many' more' j w => ∃ I ms', Own v y ms' I ∧ St v w (I ++ []) ∧ Inv ms' many' ∧ 0 ≤ j ∧ j ≤ h.length ∧ many ≤ many' ∧ (more' = true → many < many') ∧
        (more' = false → ∀ i : Int, 0 ≤ i → i < j → nth ms' i = false → ¬ allM ms' (nth h i).fields),
      fun _ _ j _ => (h.length - j).toNat, ⟨I, ms, hO, hS, ⟨hml, hmc, rk, hrk⟩, by omega, by omega, by omega, by simp, fun _ i h0 h1 => by omega⟩, ?_⟩
    rintro many' more' j w' ⟨I', ms', hO', hS', ⟨hml', hmc', rk', hrk'⟩, j0, j1, hge, ht, hf⟩
    dsimp only
    have hS := hS'
    have hcl' : ms'.count true ≤ ms'.length := List.count_le_length
    refine ⟨fun hj => ?_, fun hj => ?_⟩
    · simp only [decide_eq_true_eq, decide_eq_false_iff_not, Bool.and_eq_true, Bool.and_eq_false_iff, Bool.or_eq_true, Bool.or_eq_false_iff, Bool.not_eq_true', Bool.not_eq_false', Bool.not_true, Bool.not_false, Bool.false_eq_true, Bool.true_eq_false, Int.not_lt, Int.not_le, ge_iff_le, gt_iff_lt, Bool.not_eq_eq_eq_not, Bool.true_or, Bool.or_true, Bool.false_or, Bool.or_false, Bool.true_and, Bool.and_true, false_or, or_false, true_and, and_true, Decidable.not_not] at hj
      refine go_oix hO' j0 (by omega) ?_
      refine ld_bool (Own.read hO' hS) j0 (by omega) ?_
      refine ⟨fun _ => hx.ix j0 (by omega), ?_⟩
      refine ld_fieldsg (hx.src hS.sub) (fun _ => ⟨j0, by omega⟩) ?_
      intro f hfl
      refine ⟨_, fun hc => c_allMarked (Own.read hO' hS) ((hfl hc).mono hS.sub) (fun g hg hp => by rw [hml']; exact (live_spec (hw.ptr j0 (by omega) g hg hp)).2.1), ?_⟩
      refine ⟨fun hc => ?_, fun hc => ?_⟩
      · simp only [Bool.and_eq_true, Bool.not_eq_true'] at hc
        have ha := @of_decide_eq_true _ (Classical.propDecidable _) hc.2
        refine go_oix hO' j0 (by omega) ?_
        refine st_bool hO' hS j0 (by omega) ?_
        intro w2 I2 hO2 hS
        have hcnt := count_set_true (m := ms') j0 (by omega) hc.1
        refine go_wr (by omega) (by omega) ?_
        refine go_wr (by omega) (by omega) ?_
        exact ⟨⟨I2, _, hO2, hS, ⟨by simpa using hml', by rw [hcnt]; omega, _, hrk'.grow hml' (by omega) j0 (by omega) hc.1 ha hw⟩, by omega, by omega, by omega, fun _ => by omega, fun h => by cases h⟩, by omega⟩
      · refine go_wr (by omega) (by omega) ?_
        refine ⟨⟨I', ms', hO', hS, ⟨hml', hmc', rk', hrk'⟩, by omega, by omega, hge, ht, fun hm i h0 h1 hu => ?_⟩, by omega⟩
        rcases Int.lt_or_le i j with hlt | hge
        · exact hf hm i h0 hlt hu
        · have : i = j := by omega
          subst this
          intro ha
          rw [hu, @decide_eq_true _ (Classical.propDecidable _) ha] at hc
          cases hc
    · simp only [decide_eq_true_eq, decide_eq_false_iff_not, Bool.and_eq_true, Bool.and_eq_false_iff, Bool.or_eq_true, Bool.or_eq_false_iff, Bool.not_eq_true', Bool.not_eq_false', Bool.not_true, Bool.not_false, Bool.false_eq_true, Bool.true_eq_false, Int.not_lt, Int.not_le, ge_iff_le, gt_iff_lt, Bool.not_eq_eq_eq_not, Bool.true_or, Bool.or_true, Bool.false_or, Bool.or_false, Bool.true_and, Bool.and_true, false_or, or_false, true_and, and_true, Decidable.not_not] at hj
      refine ⟨⟨I', ms', hO', hS, ⟨hml', hmc', rk', hrk'⟩, fun hm i h0 h1 hu => hf hm i h0 (by omega) hu⟩, ?_⟩
      rw [hmore]
      cases hm : more' with
      | true => have := ht hm; simp; omega
      | false => simp; omega
  · refine ⟨?_, hS.sub⟩
    have := acyc_of_marks hrk hml hw hmc (hstop hmore)
    congr 1
    apply Bool.eq_iff_iff.2
    rw [acycB_iff, ← this, decide_eq_true_eq, hn]

theorem mem_nth {h : List CellD} {c : CellD} (hc : c ∈ h) : ∃ i : Int, 0 ≤ i ∧ i < h.length ∧ nth h i = c := by
  obtain ⟨i, hi, rfl⟩ := List.getElem_of_mem hc
  exact ⟨i, by omega, by omega, nth_nat hi⟩

theorem vcell_word {h : List CellD} {c : CellD} (hc : vcell h c = true) : ∀ f ∈ c.fields, word h f = true := by
  intro f hf
  have := vcell_i hc
  simp only [icell, Bool.and_eq_true, List.all_eq_true] at this
  exact (this.2 f hf).1

theorem c_validHeap (hx : Read v x h) : Fn Try.prog 55 #[x.val] v (.bool (vheapB h)) := by
  have vf : ¬ vheap h → Value.bool false = .bool (vheapB h) := fun hh => by rw [Bool.eq_false_iff.2 (fun e => hh (vheapB_iff.1 e))]
  refine of55 _ _ _ ?_
  unfold vc55
  have hn := hx.n
  have hl := hx.le
  have hS := St.refl v
  refine ⟨(x.n : Int) - 1, fun hc => wrap_i64 (by omega) (by omega), fun hc => hx.ix (by simp only [decide_eq_true_eq, decide_eq_false_iff_not, Bool.and_eq_true, Bool.and_eq_false_iff, Bool.or_eq_true, Bool.or_eq_false_iff, Bool.not_eq_true', Bool.not_eq_false', Bool.not_true, Bool.not_false, Bool.false_eq_true, Bool.true_eq_false, Int.not_lt, Int.not_le, ge_iff_le, gt_iff_lt, Bool.not_eq_eq_eq_not, Bool.true_or, Bool.or_true, Bool.false_or, Bool.or_false, Bool.true_and, Bool.and_true, false_or, or_false, true_and, and_true, Decidable.not_not] at hc; omega) (by omega), ?_⟩
  refine ld_countg (hx.src hS.sub) (fun hc => ⟨by simp only [decide_eq_true_eq, decide_eq_false_iff_not, Bool.and_eq_true, Bool.and_eq_false_iff, Bool.or_eq_true, Bool.or_eq_false_iff, Bool.not_eq_true', Bool.not_eq_false', Bool.not_true, Bool.not_false, Bool.false_eq_true, Bool.true_eq_false, Int.not_lt, Int.not_le, ge_iff_le, gt_iff_lt, Bool.not_eq_eq_eq_not, Bool.true_or, Bool.or_true, Bool.false_or, Bool.or_false, Bool.true_and, Bool.and_true, false_or, or_false, true_and, and_true, Decidable.not_not] at hc; omega, by omega⟩) ?_
  refine ⟨fun hc => ?_, fun hc => ?_⟩
  · simp only [decide_eq_true_eq, decide_eq_false_iff_not, Bool.and_eq_true, Bool.and_eq_false_iff, Bool.or_eq_true, Bool.or_eq_false_iff, Bool.not_eq_true', Bool.not_eq_false', Bool.not_true, Bool.not_false, Bool.false_eq_true, Bool.true_eq_false, Int.not_lt, Int.not_le, ge_iff_le, gt_iff_lt, Bool.not_eq_eq_eq_not, Bool.true_or, Bool.or_true, Bool.false_or, Bool.or_false, Bool.true_and, Bool.and_true, false_or, or_false, true_and, and_true, Decidable.not_not] at hc
    refine ⟨vf fun hh => hh.1 (by omega) ?_, .refl v⟩
    rw [← hn]; exact hc.2
  · simp only [decide_eq_true_eq, decide_eq_false_iff_not, Bool.and_eq_true, Bool.and_eq_false_iff, Bool.or_eq_true, Bool.or_eq_false_iff, Bool.not_eq_true', Bool.not_eq_false', Bool.not_true, Bool.not_false, Bool.false_eq_true, Bool.true_eq_false, Int.not_lt, Int.not_le, ge_iff_le, gt_iff_lt, Bool.not_eq_eq_eq_not, Bool.true_or, Bool.or_true, Bool.false_or, Bool.or_false, Bool.true_and, Bool.and_true, false_or, or_false, true_and, and_true, Decidable.not_not] at hc
    have hlast : lastOk h := fun hp => by rw [← hn]; rcases hc with hc | hc; omega; exact hc
    refine ⟨fun i w => St v w [] ∧ 0 ≤ i ∧ i ≤ h.length ∧ ∀ c ∈ h.take i.toNat, vcell h c = true, fun i _ => (h.length - i).toNat, ⟨.refl v, by omega, by omega, by simp⟩, ?_⟩
    rintro i w ⟨hS, h0, h1, h2⟩
    dsimp only
    refine ⟨fun hi => ?_, fun hi => ?_⟩
    · simp only [decide_eq_true_eq, decide_eq_false_iff_not, Bool.and_eq_true, Bool.and_eq_false_iff, Bool.or_eq_true, Bool.or_eq_false_iff, Bool.not_eq_true', Bool.not_eq_false', Bool.not_true, Bool.not_false, Bool.false_eq_true, Bool.true_eq_false, Int.not_lt, Int.not_le, ge_iff_le, gt_iff_lt, Bool.not_eq_eq_eq_not, Bool.true_or, Bool.or_true, Bool.false_or, Bool.or_false, Bool.true_and, Bool.and_true, false_or, or_false, true_and, and_true, Decidable.not_not] at hi
      have hm := nth_mem (l := h) h0 (by omega)
      refine go_ix hx h0 (by omega) ?_
      refine ld_cell (hx.src hS.sub) h0 (by omega) ?_
      intro f hf hcI htI
      refine ⟨_, c_validCell (hx.mono hS.sub) (hf.mono hS.sub) hcI htI, fun hv => ?_, fun hv => ?_⟩
      · simp only [decide_eq_true_eq, decide_eq_false_iff_not, Bool.and_eq_true, Bool.and_eq_false_iff, Bool.or_eq_true, Bool.or_eq_false_iff, Bool.not_eq_true', Bool.not_eq_false', Bool.not_true, Bool.not_false, Bool.false_eq_true, Bool.true_eq_false, Int.not_lt, Int.not_le, ge_iff_le, gt_iff_lt, Bool.not_eq_eq_eq_not, Bool.true_or, Bool.or_true, Bool.false_or, Bool.or_false, Bool.true_and, Bool.and_true, false_or, or_false, true_and, and_true, Decidable.not_not] at hv
        exact ⟨vf fun hh => (by have := hh.2.1 _ hm; rw [hv] at this; exact Bool.noConfusion this), hS.sub⟩
      · simp only [decide_eq_true_eq, decide_eq_false_iff_not, Bool.and_eq_true, Bool.and_eq_false_iff, Bool.or_eq_true, Bool.or_eq_false_iff, Bool.not_eq_true', Bool.not_eq_false', Bool.not_true, Bool.not_false, Bool.false_eq_true, Bool.true_eq_false, Int.not_lt, Int.not_le, ge_iff_le, gt_iff_lt, Bool.not_eq_eq_eq_not, Bool.true_or, Bool.or_true, Bool.false_or, Bool.or_false, Bool.true_and, Bool.and_true, false_or, or_false, true_and, and_true, Decidable.not_not] at hv
        refine go_wr (by omega) (by omega) ?_
        refine ⟨⟨hS, by omega, by omega, ?_⟩, by omega⟩
        rw [take_nth h0 (by omega)]; intro k hk
        rcases List.mem_append.1 hk with hk | hk
        · exact h2 k hk
        · rw [List.mem_singleton.1 hk]; exact hv
    · simp only [decide_eq_true_eq, decide_eq_false_iff_not, Bool.and_eq_true, Bool.and_eq_false_iff, Bool.or_eq_true, Bool.or_eq_false_iff, Bool.not_eq_true', Bool.not_eq_false', Bool.not_true, Bool.not_false, Bool.false_eq_true, Bool.true_eq_false, Int.not_lt, Int.not_le, ge_iff_le, gt_iff_lt, Bool.not_eq_eq_eq_not, Bool.true_or, Bool.or_true, Bool.false_or, Bool.or_false, Bool.true_and, Bool.and_true, false_or, or_false, true_and, and_true, Decidable.not_not] at hi
      rw [take_all (by omega)] at h2
      have hf3 : ∀ c ∈ h, c.fields.length ≤ 3 := fun c hc => icell_len (vcell_i (h2 c hc))
      refine Mk.use (c_refsOf hx hf3) hS ?_
      rintro _ w2 J ⟨y, rfl, hO⟩ hS hsub
      refine ⟨_, rfl, ?_⟩
      have hrl := length_refs h
      refine ⟨fun i w => St v w (J ++ []) ∧ 0 ≤ i ∧ i ≤ h.length ∧ ∀ k : Nat, k < i → 0 < (nth h k).count → nth (refL h) k ≤ (nth h k).count, fun i _ => (h.length - i).toNat, ⟨hS, by omega, by omega, by omega⟩, ?_⟩
      rintro i w ⟨hS, h0, h1, h3⟩
      dsimp only
      refine ⟨fun hi => ?_, fun hi => ?_⟩
      · simp only [decide_eq_true_eq, decide_eq_false_iff_not, Bool.and_eq_true, Bool.and_eq_false_iff, Bool.or_eq_true, Bool.or_eq_false_iff, Bool.not_eq_true', Bool.not_eq_false', Bool.not_true, Bool.not_false, Bool.false_eq_true, Bool.true_eq_false, Int.not_lt, Int.not_le, ge_iff_le, gt_iff_lt, Bool.not_eq_eq_eq_not, Bool.true_or, Bool.or_true, Bool.false_or, Bool.or_false, Bool.true_and, Bool.and_true, false_or, or_false, true_and, and_true, Decidable.not_not] at hi
        refine go_ix hx h0 (by omega) ?_
        refine ld_count (hx.src hS.sub) h0 (by omega) ?_
        intro b0 b1
        refine ⟨fun _ => hx.ix h0 (by omega), ?_⟩
        refine ld_countg (hx.src hS.sub) (fun hc => ⟨h0, by omega⟩) ?_
        refine ⟨fun _ => hO.ix h0 (by omega), ?_⟩
        refine ld_intg (Own.read hO hS) (fun hc => ⟨h0, by omega⟩) ?_
        refine ⟨fun hc => ?_, fun hc => ?_⟩
        · simp only [decide_eq_true_eq, decide_eq_false_iff_not, Bool.and_eq_true, Bool.and_eq_false_iff, Bool.or_eq_true, Bool.or_eq_false_iff, Bool.not_eq_true', Bool.not_eq_false', Bool.not_true, Bool.not_false, Bool.false_eq_true, Bool.true_eq_false, Int.not_lt, Int.not_le, ge_iff_le, gt_iff_lt, Bool.not_eq_eq_eq_not, Bool.true_or, Bool.or_true, Bool.false_or, Bool.or_false, Bool.true_and, Bool.and_true, false_or, or_false, true_and, and_true, Decidable.not_not] at hc
          refine ⟨vf fun hh => ?_, hS.sub⟩
          have := hh.2.2.1 i.toNat (by omega) (by rw [Int.toNat_of_nonneg h0]; omega)
          rw [Int.toNat_of_nonneg h0] at this
          omega
        · simp only [decide_eq_true_eq, decide_eq_false_iff_not, Bool.and_eq_true, Bool.and_eq_false_iff, Bool.or_eq_true, Bool.or_eq_false_iff, Bool.not_eq_true', Bool.not_eq_false', Bool.not_true, Bool.not_false, Bool.false_eq_true, Bool.true_eq_false, Int.not_lt, Int.not_le, ge_iff_le, gt_iff_lt, Bool.not_eq_eq_eq_not, Bool.true_or, Bool.or_true, Bool.false_or, Bool.or_false, Bool.true_and, Bool.and_true, false_or, or_false, true_and, and_true, Decidable.not_not] at hc
          refine go_wr (by omega) (by omega) ?_
          refine ⟨⟨hS, by omega, by omega, fun k hk hp => ?_⟩, by omega⟩
          by_cases e : (k : Int) < i
          · exact h3 k e hp
          · have : (k : Int) = i := by omega
            rw [this] at hp ⊢; omega
      · simp only [decide_eq_true_eq, decide_eq_false_iff_not, Bool.and_eq_true, Bool.and_eq_false_iff, Bool.or_eq_true, Bool.or_eq_false_iff, Bool.not_eq_true', Bool.not_eq_false', Bool.not_true, Bool.not_false, Bool.false_eq_true, Bool.true_eq_false, Int.not_lt, Int.not_le, ge_iff_le, gt_iff_lt, Bool.not_eq_eq_eq_not, Bool.true_or, Bool.or_true, Bool.false_or, Bool.or_false, Bool.true_and, Bool.and_true, false_or, or_false, true_and, and_true, Decidable.not_not] at hi
        refine ⟨_, c_isAcyclic (hx.mono hS.sub) (fun c hc => vcell_word (h2 c hc)), ?_, hS.sub⟩
        congr 1
        apply Bool.eq_iff_iff.2
        rw [acycB_iff, vheapB_iff]
        exact ⟨fun ha => ⟨hlast, h2, fun k hk hp => h3 k (by omega) hp, ha⟩, fun hh => hh.2.2.2⟩

theorem c_specValidHeap (hx : Read v x h) : Fn Try.prog 17 #[x.val] v (.bool (vheapB h)) := by
  refine of17 _ _ _ ?_
  unfold vc17
  exact ⟨_, c_validHeap hx, rfl, .refl v⟩
end
end Go.Vc
