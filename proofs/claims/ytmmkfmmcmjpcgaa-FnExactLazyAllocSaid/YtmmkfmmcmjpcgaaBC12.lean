/- Part of the proofs about the heaps: a law is joined in the text whose name ends in W and the law. -/
import Derived.Test.YtmmkfmmcmjpcgaaBLz3
import Derived.Test.YtmmkfmmcmjpcgaaBC11
namespace Go.Vc
open Go Go.Proofs Go.RowKit
set_option linter.all false
section
variable {u v w : World} {x y xf : Sl} {l ws fs pend : List Int} {h : List CellD} {z : LazyD} {m n k f : Int} {a : Addr} {I J L R R1 : Items} {F F1 : Items → Items}

theorem raise_range {h : List CellD} {pend : List Int} : (raiseL h pend).length = h.length := raiseL_length h pend

theorem c_validPending (hx : Read v x z.cells) (hy : Read v y z.pend) : Fn Try.prog 95 #[.agg #[x.val, y.val]] v (.bool (vpendB z)) := by
  have vf : ¬ vpend z → Value.bool false = .bool (vpendB z) := fun hh => by rw [Bool.eq_false_iff.2 (fun e => hh (vpendB_iff.1 e))]
  refine of95 _ _ _ _ ?_
  unfold vc95
  have hn := hx.n
  have hl := hx.le
  have hyn := hy.n
  have hyl := hy.le
  refine ⟨fun i w => St v w [] ∧ 0 ≤ i ∧ i ≤ z.pend.length ∧ (∀ p ∈ z.pend.take i.toNat, 0 ≤ p ∧ p < z.cells.length ∧ (nth z.cells p).count = 0) ∧ (z.pend.take i.toNat).Nodup, fun i _ => (z.pend.length - i).toNat, ⟨.refl v, by omega, by omega, by simp, by simp⟩, ?_⟩
  rintro i w ⟨hS, h0, h1, h2, h3⟩
  dsimp only
  refine ⟨fun hi => ?_, fun hi => ?_⟩
  · simp only [decide_eq_true_eq, decide_eq_false_iff_not, Bool.and_eq_true, Bool.and_eq_false_iff, Bool.or_eq_true, Bool.or_eq_false_iff, Bool.not_eq_true', Bool.not_eq_false', Bool.not_true, Bool.not_false, Bool.false_eq_true, Bool.true_eq_false, Int.not_lt, Int.not_le, ge_iff_le, gt_iff_lt, Bool.not_eq_eq_eq_not, Bool.true_or, Bool.or_true, Bool.false_or, Bool.or_false, Bool.true_and, Bool.and_true, false_or, or_false, true_and, and_true, Decidable.not_not] at hi
    have hmem := nth_mem (l := z.pend) h0 (by omega)
    refine go_ix hy h0 (by omega) ?_
    refine ld_int (hy.mono hS.sub) h0 (by omega) ?_
    intro a0 a1
    refine go_wr (by omega) (by omega) ?_
    refine ⟨_, c_inRange, ?_⟩
    have rng : (!(decide (0 ≤ nth z.pend i) && decide (nth z.pend i ≤ (x.n : Int) - 1))) = false → 0 ≤ nth z.pend i ∧ nth z.pend i < z.cells.length := fun hc => by simp only [decide_eq_true_eq, decide_eq_false_iff_not, Bool.and_eq_true, Bool.and_eq_false_iff, Bool.or_eq_true, Bool.or_eq_false_iff, Bool.not_eq_true', Bool.not_eq_false', Bool.not_true, Bool.not_false, Bool.false_eq_true, Bool.true_eq_false, Int.not_lt, Int.not_le, ge_iff_le, gt_iff_lt, Bool.not_eq_eq_eq_not, Bool.true_or, Bool.or_true, Bool.false_or, Bool.or_false, Bool.true_and, Bool.and_true, false_or, or_false, true_and, and_true, Decidable.not_not] at hc; omega
    refine ⟨fun hc => hx.ix (rng hc).1 (rng hc).2, ?_⟩
    refine ld_countg (hx.src hS.sub) rng ?_
    refine ⟨fun hc => ⟨by omega, by omega, by obtain ⟨_, hr, _⟩ := hy; have := hr.2.1; omega⟩, ?_⟩
    have hcut := hy.cut (lo := 0) (hi := i) (by omega) (by omega) (by omega)
    rw [show ((z.pend.take i.toNat).drop (0 : Int).toNat) = z.pend.take i.toNat from by simp] at hcut
    refine ⟨_, fun _ => c_specIsIn (hcut.mono hS.sub), ?_⟩
    refine ⟨fun hc => ⟨vf fun hh => ?_, hS.sub⟩, fun hc => ?_⟩
    · obtain ⟨q0, q1, q2⟩ := hh.1 _ hmem
      simp only [decide_eq_true_eq, decide_eq_false_iff_not, Bool.and_eq_true, Bool.and_eq_false_iff, Bool.or_eq_true, Bool.or_eq_false_iff, Bool.not_eq_true', Bool.not_eq_false', Bool.not_true, Bool.not_false, Bool.false_eq_true, Bool.true_eq_false, Int.not_lt, Int.not_le, ge_iff_le, gt_iff_lt, Bool.not_eq_eq_eq_not, Bool.true_or, Bool.or_true, Bool.false_or, Bool.or_false, Bool.true_and, Bool.and_true, false_or, or_false, true_and, and_true, Decidable.not_not] at hc
      rcases hc with (hc | hc) | hc
      · omega
      · exact hc q2
      · have := hh.2.1
        have e := take_nth (l := z.pend) h0 (by omega)
        have h4 : (z.pend.take (i + 1).toNat).Nodup := this.sublist (List.take_sublist _ _)
        rw [e] at h4
        exact (List.nodup_append.1 h4).2.2 _ hc _ (by simp) rfl
    · simp only [decide_eq_true_eq, decide_eq_false_iff_not, Bool.and_eq_true, Bool.and_eq_false_iff, Bool.or_eq_true, Bool.or_eq_false_iff, Bool.not_eq_true', Bool.not_eq_false', Bool.not_true, Bool.not_false, Bool.false_eq_true, Bool.true_eq_false, Int.not_lt, Int.not_le, ge_iff_le, gt_iff_lt, Bool.not_eq_eq_eq_not, Bool.true_or, Bool.or_true, Bool.false_or, Bool.or_false, Bool.true_and, Bool.and_true, false_or, or_false, true_and, and_true, Decidable.not_not] at hc
      refine go_wr (by omega) (by omega) ?_
      refine ⟨rfl, rfl, ⟨hS, by omega, by omega, ?_, ?_⟩, by omega⟩
      · rw [take_nth h0 (by omega)]; intro p hp
        rcases List.mem_append.1 hp with hp | hp
        · exact h2 p hp
        · rw [List.mem_singleton.1 hp]; exact ⟨by omega, by omega, hc.1.2⟩
      · rw [take_nth h0 (by omega)]
        exact List.nodup_append.2 ⟨h3, by simp, fun a ha b hb e => by rw [List.mem_singleton.1 hb] at e; subst e; exact hc.2 ha⟩
  · simp only [decide_eq_true_eq, decide_eq_false_iff_not, Bool.and_eq_true, Bool.and_eq_false_iff, Bool.or_eq_true, Bool.or_eq_false_iff, Bool.not_eq_true', Bool.not_eq_false', Bool.not_true, Bool.not_false, Bool.false_eq_true, Bool.true_eq_false, Int.not_lt, Int.not_le, ge_iff_le, gt_iff_lt, Bool.not_eq_eq_eq_not, Bool.true_or, Bool.or_true, Bool.false_or, Bool.or_false, Bool.true_and, Bool.and_true, false_or, or_false, true_and, and_true, Decidable.not_not] at hi
    rw [take_all (by omega)] at h2 h3
    refine ⟨fun i w => St v w [] ∧ 0 ≤ i ∧ i ≤ z.cells.length ∧ ∀ c ∈ z.cells.take i.toNat, 0 ≤ c.count, fun i _ => (z.cells.length - i).toNat, ⟨hS, by omega, by omega, by simp⟩, ?_⟩
    rintro i w ⟨hS, h0, h1, h4⟩
    dsimp only
    refine ⟨fun hi => ?_, fun hi => ?_⟩
    · simp only [decide_eq_true_eq, decide_eq_false_iff_not, Bool.and_eq_true, Bool.and_eq_false_iff, Bool.or_eq_true, Bool.or_eq_false_iff, Bool.not_eq_true', Bool.not_eq_false', Bool.not_true, Bool.not_false, Bool.false_eq_true, Bool.true_eq_false, Int.not_lt, Int.not_le, ge_iff_le, gt_iff_lt, Bool.not_eq_eq_eq_not, Bool.true_or, Bool.or_true, Bool.false_or, Bool.or_false, Bool.true_and, Bool.and_true, false_or, or_false, true_and, and_true, Decidable.not_not] at hi
      refine go_ix hx h0 (by omega) ?_
      refine ld_count (hx.src hS.sub) h0 (by omega) ?_
      intro a0 a1
      refine ⟨fun hc => ⟨vf fun hh => ?_, hS.sub⟩, fun hc => ?_⟩
      · have := hh.2.2 _ (nth_mem (l := z.cells) h0 (by omega))
        simp only [decide_eq_true_eq, decide_eq_false_iff_not, Bool.and_eq_true, Bool.and_eq_false_iff, Bool.or_eq_true, Bool.or_eq_false_iff, Bool.not_eq_true', Bool.not_eq_false', Bool.not_true, Bool.not_false, Bool.false_eq_true, Bool.true_eq_false, Int.not_lt, Int.not_le, ge_iff_le, gt_iff_lt, Bool.not_eq_eq_eq_not, Bool.true_or, Bool.or_true, Bool.false_or, Bool.or_false, Bool.true_and, Bool.and_true, false_or, or_false, true_and, and_true, Decidable.not_not] at hc
        omega
      · simp only [decide_eq_true_eq, decide_eq_false_iff_not, Bool.and_eq_true, Bool.and_eq_false_iff, Bool.or_eq_true, Bool.or_eq_false_iff, Bool.not_eq_true', Bool.not_eq_false', Bool.not_true, Bool.not_false, Bool.false_eq_true, Bool.true_eq_false, Int.not_lt, Int.not_le, ge_iff_le, gt_iff_lt, Bool.not_eq_eq_eq_not, Bool.true_or, Bool.or_true, Bool.false_or, Bool.or_false, Bool.true_and, Bool.and_true, false_or, or_false, true_and, and_true, Decidable.not_not] at hc
        refine go_wr (by omega) (by omega) ?_
        refine ⟨rfl, rfl, ⟨hS, by omega, by omega, ?_⟩, by omega⟩
        rw [take_nth h0 (by omega)]; intro p hp
        rcases List.mem_append.1 hp with hp | hp
        · exact h4 p hp
        · rw [List.mem_singleton.1 hp]; exact hc
    · simp only [decide_eq_true_eq, decide_eq_false_iff_not, Bool.and_eq_true, Bool.and_eq_false_iff, Bool.or_eq_true, Bool.or_eq_false_iff, Bool.not_eq_true', Bool.not_eq_false', Bool.not_true, Bool.not_false, Bool.false_eq_true, Bool.true_eq_false, Int.not_lt, Int.not_le, ge_iff_le, gt_iff_lt, Bool.not_eq_eq_eq_not, Bool.true_or, Bool.or_true, Bool.false_or, Bool.or_false, Bool.true_and, Bool.and_true, false_or, or_false, true_and, and_true, Decidable.not_not] at hi
      rw [take_all (by omega)] at h4
      refine ⟨?_, hS.sub⟩
      rw [vpendB_iff.2 ⟨h2, h3, h4⟩]

theorem c_raised (hx : Read v x z.cells) (hy : Read v y z.pend) (hp : ∀ p ∈ z.pend, 0 ≤ p ∧ p < z.cells.length) : Mk Try.prog 70 #[.agg #[x.val, y.val]] v fun r J => ∃ t, r = t.val ∧ OwnD t (raiseL z.cells z.pend) J := by
  refine of70 _ _ _ _ ?_
  unfold vc70
  have hyn := hy.n
  have hyl := hy.le
  refine Mk.use (c_copyHeap hx) (.refl v) ?_
  rintro _ w1 J1 ⟨t, rfl, hO⟩ hS hsub
  refine ⟨_, rfl, ?_⟩
  refine ⟨fun i w => ∃ J, OwnD t (raiseL z.cells (z.pend.take i.toNat)) J ∧ St v w (J ++ []) ∧ 0 ≤ i ∧ i ≤ z.pend.length, fun i _ => (z.pend.length - i).toNat, ⟨J1, hO, hS, by omega, by omega⟩, ?_⟩
  rintro i w ⟨J, hO, hS, h0, h1⟩
  dsimp only
  refine ⟨fun hi => ?_, fun hi => ?_⟩
  · simp only [decide_eq_true_eq, decide_eq_false_iff_not, Bool.and_eq_true, Bool.and_eq_false_iff, Bool.or_eq_true, Bool.or_eq_false_iff, Bool.not_eq_true', Bool.not_eq_false', Bool.not_true, Bool.not_false, Bool.false_eq_true, Bool.true_eq_false, Int.not_lt, Int.not_le, ge_iff_le, gt_iff_lt, Bool.not_eq_eq_eq_not, Bool.true_or, Bool.or_true, Bool.false_or, Bool.or_false, Bool.true_and, Bool.and_true, false_or, or_false, true_and, and_true, Decidable.not_not] at hi
    obtain ⟨q0, q1⟩ := hp _ (nth_mem (l := z.pend) h0 (by omega))
    have hlen := raiseL_length z.cells (z.pend.take i.toNat)
    refine go_ix hy h0 (by omega) ?_
    refine ld_int (hy.mono hS.sub) h0 (by omega) ?_
    intro a0 a1
    refine ⟨hO.ix q0 (by omega), ?_⟩
    refine OwnD.store hO hS q0 (by omega) (raiseC (nth (raiseL z.cells (z.pend.take i.toNat)) (nth z.pend i))) [] (Nat.le_of_ble_eq_true rfl) (fun r K hr => ?_) ?_
    · obtain ⟨f, rfl, c1, c2, c3⟩ := hr
      exact ⟨K, ⟨f, rfl, one_in, c2, c3⟩, .inr ⟨rfl, rfl⟩⟩
    intro w2 I2 hO2 hS
    rw [List.append_nil] at hO2
    refine go_wr (by omega) (by omega) ?_
    refine ⟨rfl, rfl, ⟨I2, ?_, hS, by omega, by omega⟩, by omega⟩
    rw [take_nth h0 (by omega), raiseL_snoc]; exact hO2
  · simp only [decide_eq_true_eq, decide_eq_false_iff_not, Bool.and_eq_true, Bool.and_eq_false_iff, Bool.or_eq_true, Bool.or_eq_false_iff, Bool.not_eq_true', Bool.not_eq_false', Bool.not_true, Bool.not_false, Bool.false_eq_true, Bool.true_eq_false, Int.not_lt, Int.not_le, ge_iff_le, gt_iff_lt, Bool.not_eq_eq_eq_not, Bool.true_or, Bool.or_true, Bool.false_or, Bool.or_false, Bool.true_and, Bool.and_true, false_or, or_false, true_and, and_true, Decidable.not_not] at hi
    rw [take_all (by omega)] at hO
    exact ⟨J, by simpa using hS, t, rfl, hO⟩

theorem c_validLazy (hx : Read v x z.cells) (hy : Read v y z.pend) : Fn Try.prog 65 #[.agg #[x.val, y.val]] v (.bool (vlazyB z)) := by
  have vf : ¬ vlazy z → Value.bool false = .bool (vlazyB z) := fun hh => by rw [Bool.eq_false_iff.2 (fun e => hh (vlazyB_iff.1 e))]
  refine of65 _ _ _ _ ?_
  unfold vc65
  have hyn := hy.n
  have hyl := hy.le
  refine ⟨_, c_validPending hx hy, fun hc => ?_, fun hc => ⟨vf fun hh => ?_, .refl v⟩⟩
  · simp only [decide_eq_true_eq, decide_eq_false_iff_not, Bool.and_eq_true, Bool.and_eq_false_iff, Bool.or_eq_true, Bool.or_eq_false_iff, Bool.not_eq_true', Bool.not_eq_false', Bool.not_true, Bool.not_false, Bool.false_eq_true, Bool.true_eq_false, Int.not_lt, Int.not_le, ge_iff_le, gt_iff_lt, Bool.not_eq_eq_eq_not, Bool.true_or, Bool.or_true, Bool.false_or, Bool.or_false, Bool.true_and, Bool.and_true, false_or, or_false, true_and, and_true, Decidable.not_not] at hc
    have hvp := vpendB_iff.1 hc
    have hp : ∀ p ∈ z.pend, 0 ≤ p ∧ p < z.cells.length := fun p hp => ⟨(hvp.1 p hp).1, (hvp.1 p hp).2.1⟩
    refine Mk.use (c_raised hx hy hp) (.refl v) ?_
    rintro _ w1 J1 ⟨t, rfl, hO⟩ hS hsub
    refine ⟨_, rfl, _, c_validHeap (OwnD.read hO hS), fun hc => ⟨vf fun hh => ?_, hS.sub⟩, fun hc => ?_⟩
    · simp only [decide_eq_true_eq, decide_eq_false_iff_not, Bool.and_eq_true, Bool.and_eq_false_iff, Bool.or_eq_true, Bool.or_eq_false_iff, Bool.not_eq_true', Bool.not_eq_false', Bool.not_true, Bool.not_false, Bool.false_eq_true, Bool.true_eq_false, Int.not_lt, Int.not_le, ge_iff_le, gt_iff_lt, Bool.not_eq_eq_eq_not, Bool.true_or, Bool.or_true, Bool.false_or, Bool.or_false, Bool.true_and, Bool.and_true, false_or, or_false, true_and, and_true, Decidable.not_not] at hc
      rw [vheapB_iff.2 hh.2.1] at hc; cases hc
    simp only [decide_eq_true_eq, decide_eq_false_iff_not, Bool.and_eq_true, Bool.and_eq_false_iff, Bool.or_eq_true, Bool.or_eq_false_iff, Bool.not_eq_true', Bool.not_eq_false', Bool.not_true, Bool.not_false, Bool.false_eq_true, Bool.true_eq_false, Int.not_lt, Int.not_le, ge_iff_le, gt_iff_lt, Bool.not_eq_eq_eq_not, Bool.true_or, Bool.or_true, Bool.false_or, Bool.or_false, Bool.true_and, Bool.and_true, false_or, or_false, true_and, and_true, Decidable.not_not] at hc
    have hvh := vheapB_iff.1 hc
    refine Mk.use (c_raised hx hy hp) hS ?_
    rintro _ w2 J2 ⟨t2, rfl, hO2⟩ hS hsub
    refine ⟨_, rfl, ?_⟩
    refine Mk.usew (c_refsOf (OwnD.read hO2 hS) (vheap_len hvh)) hS ?_
    rintro _ w3 J3 ⟨t3, rfl, hO3⟩ hS hsub
    have hrl := length_refs (raiseL z.cells z.pend)
    have hrl2 := raiseL_length z.cells z.pend
    refine ⟨_, rfl, ?_⟩
    replace hO3 : Own v t3 _ J3 := hO3.ofInts
    refine ⟨fun i w => St v w (J3 ++ (J2 ++ (J1 ++ []))) ∧ 0 ≤ i ∧ i ≤ z.pend.length ∧ ∀ p ∈ z.pend.take i.toNat, nth (refL (raiseL z.cells z.pend)) p = 0, fun i _ => (z.pend.length - i).toNat, ⟨hS, by omega, by omega, by simp⟩, ?_⟩
    rintro i w ⟨hS, h0, h1, h2⟩
    dsimp only
    refine ⟨fun hi => ?_, fun hi => ?_⟩
    · simp only [decide_eq_true_eq, decide_eq_false_iff_not, Bool.and_eq_true, Bool.and_eq_false_iff, Bool.or_eq_true, Bool.or_eq_false_iff, Bool.not_eq_true', Bool.not_eq_false', Bool.not_true, Bool.not_false, Bool.false_eq_true, Bool.true_eq_false, Int.not_lt, Int.not_le, ge_iff_le, gt_iff_lt, Bool.not_eq_eq_eq_not, Bool.true_or, Bool.or_true, Bool.false_or, Bool.or_false, Bool.true_and, Bool.and_true, false_or, or_false, true_and, and_true, Decidable.not_not] at hi
      have hmem := nth_mem (l := z.pend) h0 (by omega)
      obtain ⟨q0, q1⟩ := hp _ hmem
      refine go_ix hy h0 (by omega) ?_
      refine ld_int (hy.mono hS.sub) h0 (by omega) ?_
      intro a0 a1
      refine go_oix hO3 q0 (by omega) ?_
      refine ld_int (Own.read hO3 hS) q0 (by omega) ?_
      intro b0 b1
      refine ⟨fun hc => ⟨vf fun hh => ?_, hS.sub⟩, fun hc => ?_⟩
      · simp only [decide_eq_true_eq, decide_eq_false_iff_not, Bool.and_eq_true, Bool.and_eq_false_iff, Bool.or_eq_true, Bool.or_eq_false_iff, Bool.not_eq_true', Bool.not_eq_false', Bool.not_true, Bool.not_false, Bool.false_eq_true, Bool.true_eq_false, Int.not_lt, Int.not_le, ge_iff_le, gt_iff_lt, Bool.not_eq_eq_eq_not, Bool.true_or, Bool.or_true, Bool.false_or, Bool.or_false, Bool.true_and, Bool.and_true, false_or, or_false, true_and, and_true, Decidable.not_not] at hc
        exact hc (hh.2.2 _ hmem)
      · simp only [decide_eq_true_eq, decide_eq_false_iff_not, Bool.and_eq_true, Bool.and_eq_false_iff, Bool.or_eq_true, Bool.or_eq_false_iff, Bool.not_eq_true', Bool.not_eq_false', Bool.not_true, Bool.not_false, Bool.false_eq_true, Bool.true_eq_false, Int.not_lt, Int.not_le, ge_iff_le, gt_iff_lt, Bool.not_eq_eq_eq_not, Bool.true_or, Bool.or_true, Bool.false_or, Bool.or_false, Bool.true_and, Bool.and_true, false_or, or_false, true_and, and_true, Decidable.not_not] at hc
        refine go_wr (by omega) (by omega) ?_
        refine ⟨rfl, rfl, ⟨hS, by omega, by omega, ?_⟩, by omega⟩
        rw [take_nth h0 (by omega)]; intro p hp
        rcases List.mem_append.1 hp with hp | hp
        · exact h2 p hp
        · rw [List.mem_singleton.1 hp]; exact hc
    · simp only [decide_eq_true_eq, decide_eq_false_iff_not, Bool.and_eq_true, Bool.and_eq_false_iff, Bool.or_eq_true, Bool.or_eq_false_iff, Bool.not_eq_true', Bool.not_eq_false', Bool.not_true, Bool.not_false, Bool.false_eq_true, Bool.true_eq_false, Int.not_lt, Int.not_le, ge_iff_le, gt_iff_lt, Bool.not_eq_eq_eq_not, Bool.true_or, Bool.or_true, Bool.false_or, Bool.or_false, Bool.true_and, Bool.and_true, false_or, or_false, true_and, and_true, Decidable.not_not] at hi
      rw [take_all (by omega)] at h2
      refine ⟨?_, hS.sub⟩
      rw [vlazyB_iff.2 ⟨hvp, hvh, h2⟩]
  · simp only [decide_eq_true_eq, decide_eq_false_iff_not, Bool.and_eq_true, Bool.and_eq_false_iff, Bool.or_eq_true, Bool.or_eq_false_iff, Bool.not_eq_true', Bool.not_eq_false', Bool.not_true, Bool.not_false, Bool.false_eq_true, Bool.true_eq_false, Int.not_lt, Int.not_le, ge_iff_le, gt_iff_lt, Bool.not_eq_eq_eq_not, Bool.true_or, Bool.or_true, Bool.false_or, Bool.or_false, Bool.true_and, Bool.and_true, false_or, or_false, true_and, and_true, Decidable.not_not] at hc
    rw [vpendB_iff.2 hh.1] at hc; cases hc

theorem c_copyLazy (hx : Read v x z.cells) (hy : Read v y z.pend) : Mk Try.prog 67 #[.agg #[x.val, y.val]] v fun r J => ∃ t s, ∃ J1 J2, r = .agg #[t.val, s.val] ∧ OwnD t z.cells J1 ∧ Own v s z.pend J2 ∧ J = J1 ++ J2 := by
  refine of67 _ _ _ _ ?_
  unfold vc67
  refine Mk.use (c_copyHeap hx) (.refl v) ?_
  rintro _ w1 J1 ⟨t, rfl, hO⟩ hS hsub
  refine ⟨_, rfl, hsub, ?_⟩
  refine Mk.use (c_copyInts hy) hS ?_
  rintro _ w2 J2 ⟨s, rfl, hP⟩ hS hsub
  exact ⟨_, rfl, J1 ++ J2, (hS.to : St v w2 (J1 ++ (J2 ++ []))).perm (by simp), t, s, J1, J2, rfl, hO, hP, rfl⟩

/-- a count that is lowered by one -/
theorem c_lower (hO : OwnD x h I) (hP : Own u y pend J) (hS : St u w L) [p : Pos I L R1 F1] [q : Pos J R1 R F] (h0 : 1000 ≤ f) (h1 : f - 1000 < h.length) (hc : 0 < (nth h (f - 1000)).count) (hf : f ≤ 9223372036854775807) (hpl : pend.length < 1099511627776) :
    Trip Try.prog 71 #[.agg #[x.val, y.val], .int .i64 f] w fun r w' => ∃ y' I' J', r = .agg #[x.val, y'.val] ∧ OwnD x (lowerZ ⟨h, pend⟩ (f - 1000)).cells I' ∧ Own u y' (lowerZ ⟨h, pend⟩ (f - 1000)).pend J' ∧ St u w' (I' ++ (J' ++ R)) := by
  replace hS : St u w (I ++ (J ++ R)) := (hS.perm p.perm.symm).perm (List.Perm.append_left I q.perm.symm)
  refine of71 _ _ _ _ _ ?_
  unfold vc71
  refine go_wr (by omega) (by omega) ?_
  refine ⟨hO.ix (by omega) h1, ?_⟩
  refine ld_count (OwnD.src hO hS) (by omega) h1 ?_
  intro a0 a1
  refine go_wr (by omega) (by omega) ?_
  refine ⟨hO.ix (by omega) h1, ?_⟩
  have hin1 : InI ((nth h (f - 1000)).count - 1) := ⟨by omega, by omega⟩
  refine OwnD.store hO hS (by omega) h1 (decC (nth h (f - 1000))) [] (Nat.le_of_ble_eq_true rfl) (fun r K hr => ?_) ?_
  · obtain ⟨f, rfl, c1, c2, c3⟩ := hr
    exact ⟨K, ⟨f, rfl, hin1, c2, c3⟩, .inr ⟨rfl, rfl⟩⟩
  intro w2 I2 hO2 hS
  rw [List.append_nil] at hO2
  refine ⟨hO2.ix (by omega) (by simpa using h1), ?_⟩
  refine ld_count (OwnD.src hO2 hS) (by omega) (by simpa using h1) ?_
  rw [nth_set _ _ _ _ (by omega) h1 (by omega), if_pos rfl]
  intro _ _
  have hz : (decC (nth h (f - 1000))).count = (nth h (f - 1000)).count - 1 := rfl
  refine ⟨fun hc => ?_, fun hc => ?_⟩
  · simp only [decide_eq_true_eq, decide_eq_false_iff_not, Bool.and_eq_true, Bool.and_eq_false_iff, Bool.or_eq_true, Bool.or_eq_false_iff, Bool.not_eq_true', Bool.not_eq_false', Bool.not_true, Bool.not_false, Bool.false_eq_true, Bool.true_eq_false, Int.not_lt, Int.not_le, ge_iff_le, gt_iff_lt, Bool.not_eq_eq_eq_not, Bool.true_or, Bool.or_true, Bool.false_or, Bool.or_false, Bool.true_and, Bool.and_true, false_or, or_false, true_and, and_true, Decidable.not_not] at hc
    refine St.build (α := Int) hS (by (repeat' (first | exact VsOf.nil | apply VsOf.cons | (apply VOf.int; first | assumption | (constructor <;> first | omega | (simp only [List.length_set, List.length_append, List.length_replicate, List.length_cons, List.length_nil, List.length_take, List.length_drop, List.length_map, List.length_singleton] at *; omega))) | exact VOf.bool | exact VOf.str))) rfl (by decide) ?_
    intro x4 w4 I4 hO4 hS hs
    refine ⟨_, rfl, ?_⟩
    refine Own.append hP hS (hO4.src hS) (by simp; omega) (by decide) ?_
    intro x5 w5 I5 hO5 hS
    refine ⟨_, rfl, x5, I2, I5, rfl, hO2, ?_, hS.to⟩
    unfold lowerZ
    simp only
    rw [if_pos (by omega)]; exact hO5
  · simp only [decide_eq_true_eq, decide_eq_false_iff_not, Bool.and_eq_true, Bool.and_eq_false_iff, Bool.or_eq_true, Bool.or_eq_false_iff, Bool.not_eq_true', Bool.not_eq_false', Bool.not_true, Bool.not_false, Bool.false_eq_true, Bool.true_eq_false, Int.not_lt, Int.not_le, ge_iff_le, gt_iff_lt, Bool.not_eq_eq_eq_not, Bool.true_or, Bool.or_true, Bool.false_or, Bool.or_false, Bool.true_and, Bool.and_true, false_or, or_false, true_and, and_true, Decidable.not_not] at hc
    refine ⟨y, I2, J, rfl, hO2, ?_, hS.to⟩
    unfold lowerZ
    simp only
    rw [if_neg (by omega)]; exact hP
end
end Go.Vc
