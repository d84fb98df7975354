/- Part of the proofs about the heaps: a law is joined in the text whose name ends in W and the law. -/
import Derived.Test.YtmmkfmmcmjpcgaaBC22
namespace Go.Vc
open Go Go.Proofs Go.RowKit
set_option linter.all false

theorem dropR_bound {z : LazyD} {n : Int} {B : Nat} (hl : z.cells.length ≤ B) (hb : ∀ c ∈ z.cells, c.fields.length ≤ B) : (dropR z n).cells.length ≤ B ∧ ∀ c ∈ (dropR z n).cells, c.fields.length ≤ B := by
  unfold dropR
  cases dropB z n with
  | false => exact ⟨Nat.zero_le _, fun c hc => by cases hc⟩
  | true =>
    simp only [cond_true]
    rw [dropZ_len]
    refine ⟨hl, fun c hc => ?_⟩
    unfold dropZ at hc
    split at hc
    · rename_i hp
      unfold lowerZ at hc
      simp only at hc
      rcases mem_set_of hc with hc | hc
      · exact hb c hc
      · rw [hc]
        show (nth z.cells (n - 1000)).fields.length ≤ B
        by_cases hlt : n - 1000 < z.cells.length
        · exact hb _ (nth_mem (by omega) hlt)
        · have : nth z.cells (n - 1000) = default := by unfold nth; simp [List.getD, List.getElem?_eq_none (show z.cells.length ≤ (n - 1000).toNat by omega)]
          rw [this]; exact Nat.zero_le _
    · exact hb c hc
theorem endZ_pos {z : LazyD} (hb : ∀ c ∈ z.cells, c.fields.length ≤ 2000000) : 1 ≤ endZ 1 z := by
  have := (endH_le z.cells 1 hb).1
  unfold endZ
  omega

theorem l_ExactLazyDrop {v : World} {x y : Sl} {z : LazyD} {n : Int} (hx : ReadB BM v x z.cells) (hy : ReadB BM v y z.pend) (hn : InI n) :
    Trip Try.prog 5 #[.agg #[x.val, y.val], .int .i64 n] v fun r v' => r = .bool true ∧ Sub v v' := by
  refine of5 _ _ _ _ _ ?_
  unfold vc5
  refine ⟨_, c_szLazy (b := 1048576) hx hy (by omega) (by omega), fun hc => ⟨rfl, .refl v⟩, fun hc => ?_⟩
  simp only [decide_eq_true_eq, decide_eq_false_iff_not, Bool.and_eq_true, Bool.and_eq_false_iff, Bool.or_eq_true, Bool.or_eq_false_iff, Bool.not_eq_true', Bool.not_eq_false', Bool.not_true, Bool.not_false, Bool.false_eq_true, Bool.true_eq_false, Int.not_lt, Int.not_le, ge_iff_le, gt_iff_lt, Bool.not_eq_eq_eq_not, Bool.true_or, Bool.or_true, Bool.false_or, Bool.or_false, Bool.true_and, Bool.and_true, false_or, or_false, true_and, and_true, Decidable.not_not] at hc
  have hbnd : z.cells.length ≤ 1048576 ∧ (∀ c ∈ z.cells, c.fields.length ≤ 1048576) ∧ z.pend.length ≤ 1048576 := by
    unfold szL at hc
    split at hc
    · omega
    · rename_i h2
      obtain ⟨s1, s2, s3⟩ := szH_le (h := z.cells) (b := 1048576) (by omega)
      obtain ⟨s4, s5⟩ := szI_le hc
      exact ⟨by omega, fun c hc => by have := s3 c hc; omega, by omega⟩
  obtain ⟨b1, b2, b3⟩ := hbnd
  replace hx : Read v x z.cells := hx.toCells (by show z.cells.length ≤ 1099511627776; omega) (fun c hc => by have := b2 c hc; show c.fields.length ≤ 1099511627776; omega)
  replace hy : Read v y z.pend := hy.toInts (by show z.pend.length ≤ 1099511627776; omega)
  have hlen : z.cells.length ≤ 1000000000 := by omega
  have hl2 : z.cells.length ≤ 2000000 := by omega
  have hb2 : ∀ c ∈ z.cells, c.fields.length ≤ 2000000 := fun c hc => by have := b2 c hc; omega
  obtain ⟨hlR, hbR⟩ := dropR_bound (n := n) hl2 hb2
  have hposR := endZ_pos hbR
  have hpos := endZ_pos hb2
  refine Mk.use (c_toLazy hx hy) (.refl v) ?_
  rintro _ w1 _ ⟨t1, s1, J1, J2, rfl, hO, hP, rfl⟩ hS hsub
  obtain ⟨u1, hu1, hS, hJ⟩ := hS.freeze (J1 ++ J2)
  have hx1 : Read u1 t1 z.cells := hO.read1 hJ.left
  have hy1 : Read u1 s1 z.pend := Own.read1 (u := v) hP hJ.right
  clear hO hP hJ
  refine ⟨_, _, rfl, ?_⟩
  refine Mk.use (c_specLazyDrop hx1 hy1 hn hlen) hS ?_
  rintro _ w2 _ ⟨x10, y10, J3, J4, rfl, hO, hP, rfl⟩ hS hsub
  obtain ⟨u2, hu2, hS, hJ⟩ := hS.freeze (J3 ++ J4)
  have hx10 : Read u2 x10 _ := hO.read1 hJ.left
  have hy10 : Read u2 y10 _ := Own.read1 (u := u1) hP hJ.right
  clear hO hP hJ
  have hv2 : Sub v u2 := hu1.trans hu2
  replace hx := hx.mono hv2
  replace hy := hy.mono hv2
  refine ⟨_, _, _, rfl, ?_⟩
  refine Mk.use (c_toLazy hx hy) hS ?_
  rintro _ w3 _ ⟨x15, x16, J5, J6, rfl, hO5, hP6, rfl⟩ hS hsub
  replace hS : St u2 w3 (J5 ++ (J6 ++ [])) := hS.perm (by simp)
  refine ⟨_, _, rfl, ?_⟩
  refine Mk.usew (c_implLazyDropD (z := z) (OwnD.read hO5 hS) (Own.read hP6 hS) hn hlen) hS ?_
  rintro _ w4 _ ⟨x19, x20, J7, J8, rfl, hO7, hP8, rfl⟩ hS hsub
  replace hP8 : Own u2 x20 _ J8 := hP8.ofInts
  replace hS : St u2 w4 (J7 ++ (J8 ++ (J5 ++ (J6 ++ [])))) := hS.perm (by simp)
  refine ⟨_, _, _, rfl, _, c_eqLazy (z := dropR z n) (z' := dropR z n) (OwnD.read hO7 hS) (Own.read hP8 hS) (hx10.mono hS.sub) (hy10.mono hS.sub), fun hc => ?_, fun _ => ?_⟩
  · rw [eqZB_iff.2 rfl] at hc; simp at hc
  refine Mk.use (c_toLazy hx hy) hS ?_
  rintro _ w5 _ ⟨x27, x28, J9, J10, rfl, hO9, hP10, rfl⟩ hS hsub
  replace hS : St u2 w5 (J9 ++ (J10 ++ (J5 ++ (J6 ++ (J7 ++ (J8 ++ [])))))) := hS.perm (by
    classical
    exact List.perm_iff_count.2 fun a => by simp only [List.count_append]; omega)
  refine ⟨_, _, rfl, hsub, _, c_eqLazy (z := z) (z' := z) (OwnD.read hO5 hS) (Own.read hP6 hS) (OwnD.read hO9 hS) (Own.read hP10 hS), fun hc => ?_, fun _ => ?_⟩
  · rw [eqZB_iff.2 rfl] at hc; simp at hc
  replace hS : St u2 w5 (J5 ++ (J6 ++ (J7 ++ (J8 ++ [])))) := hS.to
  refine Trip.mono' (c_markLazy hO5 hP6 hS hl2 hb2) ?_
  rintro _ w6 ⟨I5, I6, rfl, hO5, hP6, hS⟩
  refine ⟨_, rfl, _, fun _ => c_eqLazy (z := dropR z n) (z' := dropR z n) (OwnD.read hO7 hS) (Own.read hP8 hS) (hx10.mono hS.sub) (hy10.mono hS.sub), fun hc => ?_, fun _ => ?_⟩
  · rw [eqZB_iff.2 rfl] at hc
    simp at hc
    omega
  replace hS : St u2 w6 (J7 ++ (J8 ++ [])) := hS.to
  refine Trip.mono' (c_markLazy hO7 hP8 hS hlR hbR) ?_
  rintro _ w7 ⟨I7, I8, rfl, hO7, hP8, hS⟩
  refine ⟨_, rfl, _, c_heldLazy (z := dropR z n) (OwnD.read hO7 hS) (Own.read hP8 hS) hlR hbR, fun hc => ?_, fun _ => ⟨fun hc => ?_, fun _ => ?_⟩⟩
  · simp only [decide_eq_true_eq, decide_eq_false_iff_not, Bool.and_eq_true, Bool.and_eq_false_iff, Bool.or_eq_true, Bool.or_eq_false_iff, Bool.not_eq_true', Bool.not_eq_false', Bool.not_true, Bool.not_false, Bool.false_eq_true, Bool.true_eq_false, Int.not_lt, Int.not_le, ge_iff_le, gt_iff_lt, Bool.not_eq_eq_eq_not, Bool.true_or, Bool.or_true, Bool.false_or, Bool.or_false, Bool.true_and, Bool.and_true, false_or, or_false, true_and, and_true, Decidable.not_not] at hc; omega
  · simp at hc
  refine Mk.use (c_toLazy hx hy) hS ?_
  rintro _ w8 _ ⟨x46, x47, J11, J12, rfl, hO11, hP12, rfl⟩ hS hsub
  replace hS : St u2 w8 (J11 ++ (J12 ++ (I7 ++ (I8 ++ [])))) := hS.perm (by simp)
  refine ⟨_, _, rfl, ?_⟩
  refine Mk.usew (c_implLazyDropD (z := z) (OwnD.read hO11 hS) (Own.read hP12 hS) hn hlen) hS ?_
  rintro _ w9 _ ⟨x50, x51, J13, J14, rfl, hO13, hP14, rfl⟩ hS hsub
  replace hP14 : Own u2 x51 _ J14 := hP14.ofInts
  replace hS : St u2 w9 (J13 ++ (J14 ++ (J11 ++ (J12 ++ (I7 ++ (I8 ++ [])))))) := hS.perm (by simp)
  refine ⟨_, _, _, rfl, _, c_eqLazy (z := dropR z n) (z' := dropR z n) (OwnD.read hO13 hS) (Own.read hP14 hS) (hx10.mono hS.sub) (hy10.mono hS.sub), fun hc => ?_, fun _ => ?_⟩
  · rw [eqZB_iff.2 rfl] at hc; simp at hc
  refine ⟨_, c_heldLazy (z := dropR z n) (OwnD.read hO7 hS) (Own.read hP8 hS) hlR hbR, fun hc => ?_, fun _ => ⟨fun hc => ?_, fun _ => ⟨rfl, hv2.trans hS.sub⟩⟩⟩
  · simp only [decide_eq_true_eq, decide_eq_false_iff_not, Bool.and_eq_true, Bool.and_eq_false_iff, Bool.or_eq_true, Bool.or_eq_false_iff, Bool.not_eq_true', Bool.not_eq_false', Bool.not_true, Bool.not_false, Bool.false_eq_true, Bool.true_eq_false, Int.not_lt, Int.not_le, ge_iff_le, gt_iff_lt, Bool.not_eq_eq_eq_not, Bool.true_or, Bool.or_true, Bool.false_or, Bool.or_false, Bool.true_and, Bool.and_true, false_or, or_false, true_and, and_true, Decidable.not_not] at hc; omega
  · simp at hc
end Go.Vc
