/- Part of the proofs about the heaps: a law is joined in the text whose name ends in W and the law. -/
import Derived.Test.YtmmkfmmcmjpcgaaBCX
namespace Go.Vc
open Go Go.Proofs Go.RowKit
set_option linter.all false
section
variable {u v w : World} {x y : Sl} {z : LazyD} {m n k : Int} {a : Addr}

theorem c_implSettledHeapD (hx : Read v x z.cells) (hy : Read v y z.pend) (hl : z.cells.length ≤ 1000000000) :
    Mk Try.prog 32 #[.agg #[x.val, y.val]] v fun r J => ∃ x' : Sl, r = .tuple #[x'.val, .bool (vlazyB z)] ∧ OwnD x' (shR z) J := by
  refine of32 _ _ _ _ ?_
  unfold vc32
  refine ⟨_, c_validLazyI hx hy, fun hc => ?_, fun hc => ?_⟩
  · have hb : ¬ vlazy z := fun hd => by rw [vlazyB_iff.2 hd] at hc; cases hc
    exact ⟨[], .refl v, ⟨none, 0, 0⟩, by rw [vlazyB_f hb]; rfl, by rw [shR_f hb]; exact OwnD.nil⟩
  simp only [decide_eq_true_eq, decide_eq_false_iff_not, Bool.and_eq_true, Bool.and_eq_false_iff, Bool.or_eq_true, Bool.or_eq_false_iff, Bool.not_eq_true', Bool.not_eq_false', Bool.not_true, Bool.not_false, Bool.false_eq_true, Bool.true_eq_false, Int.not_lt, Int.not_le, ge_iff_le, gt_iff_lt, Bool.not_eq_eq_eq_not, Bool.true_or, Bool.or_true, Bool.false_or, Bool.or_false, Bool.true_and, Bool.and_true, false_or, or_false, true_and, and_true, Decidable.not_not] at hc
  have hd := vlazyB_iff.1 hc
  have hL := (vlazy_iff.1 hd).1
  refine Mk.use (c_cloneLazyD hx hy) (.refl v) ?_
  rintro _ w2 _ ⟨c, p, I2, J2, rfl, hO, hP, rfl⟩ hS hsub
  replace hS : St v w2 (I2 ++ (J2 ++ [])) := hS.perm (by simp)
  refine ⟨_, _, rfl, ?_⟩
  refine St.box (vals := [.slice none 0 0, .slice none 0 0]) hS fun a w3 I3 hC hS hs => ?_
  refine Cel.store hC hS (by simp) ?_
  intro w4 I4 hC hS
  simp [putR] at hC
  let Inv : Nat → World → Prop := fun n w => ∃ (k : Nat) (x y : Sl) (I J K : Items), n = nf z - 100000 * k ∧ Cel a [x.val, y.val] I ∧ OwnD x (settleL (100000 * k) z).cells J ∧ Own v y (settleL (100000 * k) z).pend K ∧ St v w (I ++ (J ++ (K ++ [])))
  refine ⟨fun w => ∃ n, Inv n w, fun w => leastM fun n => Inv n w, ⟨_, 0, c, p, I4, I2, J2, rfl, hC, by rw [Nat.mul_zero, settle_zero hd]; exact hO, by rw [Nat.mul_zero, settle_zero hd]; exact hP, hS⟩, ?_⟩
  clear hC hO hP hS
  intro w hI
  replace hI := leastM_spec hI
  dsimp only
  generalize leastM (fun n => Inv n w) = n at *
  obtain ⟨k, x, y, I, J, K, hn, hC, hO, hP, hS⟩ := hI
  have hyn := hP.n
  refine ⟨y, Cel.load hC hS rfl, fun hc => ?_, fun hc => ?_⟩
  · simp only [decide_eq_true_eq, decide_eq_false_iff_not, Bool.and_eq_true, Bool.and_eq_false_iff, Bool.or_eq_true, Bool.or_eq_false_iff, Bool.not_eq_true', Bool.not_eq_false', Bool.not_true, Bool.not_false, Bool.false_eq_true, Bool.true_eq_false, Int.not_lt, Int.not_le, ge_iff_le, gt_iff_lt, Bool.not_eq_eq_eq_not, Bool.true_or, Bool.or_true, Bool.false_or, Bool.or_false, Bool.true_and, Bool.and_true, false_or, or_false, true_and, and_true, Decidable.not_not] at hc
    have hlt : 100000 * k < nf z := by
      rcases Nat.lt_or_ge (100000 * k) (nf z) with h | h
      · exact h
      · have := (settle_all hL h).2
        rw [this] at hyn; simp at hyn; omega
    have L2 := (vlazy_iff.1 (settle_valid hL (100000 * k))).1
    have hle : (settleL (100000 * k) z).cells.length ≤ z.cells.length := (settleL_len (100000 * k) (.inr hd)).1
    refine Trip.mono' (c_implSettleD (m := 100000) hC hO hP hS L2 (by omega) (by omega) (by omega)) ?_
    rintro _ w5 ⟨x5, y5, I5, J5, K5, rfl, hC, hO, hP, hS⟩
    have hag : settleL (100000 : Int).toNat (settleL (100000 * k) z) = settleL (100000 * (k + 1)) z := by rw [settle_again hL, Nat.mul_add]; rfl
    rw [hag] at hO hP
    exact ⟨rfl, rfl, rfl, loopEnd (k := nf z - 100000 * (k + 1)) ⟨k + 1, x5, y5, I5, J5, K5, rfl, hC, hO, hP, hS⟩ (by omega)⟩
  · simp only [decide_eq_true_eq, decide_eq_false_iff_not, Bool.and_eq_true, Bool.and_eq_false_iff, Bool.or_eq_true, Bool.or_eq_false_iff, Bool.not_eq_true', Bool.not_eq_false', Bool.not_true, Bool.not_false, Bool.false_eq_true, Bool.true_eq_false, Int.not_lt, Int.not_le, ge_iff_le, gt_iff_lt, Bool.not_eq_eq_eq_not, Bool.true_or, Bool.or_true, Bool.false_or, Bool.or_false, Bool.true_and, Bool.and_true, false_or, or_false, true_and, and_true, Decidable.not_not] at hc
    have hp : (settleL (100000 * k) z).pend = [] := List.eq_nil_of_length_eq_zero (by omega)
    rw [settle_full hL hp] at hO
    exact ⟨x, Cel.load hC hS rfl, J, (hS.to : St v w (J ++ [])).left, x, by rw [vlazyB_iff.2 hd], by rw [shR_t hd]; exact hO⟩

theorem shR_bound (hl : z.cells.length ≤ 2000000) : (shR z).length ≤ 2000000 ∧ ∀ c ∈ shR z, c.fields.length ≤ 2000000 := by
  by_cases hd : vlazy z
  · rw [shR_t hd]
    have L := (vlazy_iff.1 hd).1
    have h1 := (settleL_len z.cells.length (.inr hd)).1
    have L1 := (vlazy_iff.1 (settle_valid L z.cells.length)).1
    exact ⟨by omega, fun c hc => by have := (L1.cell c hc).2.2.1; omega⟩
  · rw [shR_f hd]
    exact ⟨Nat.zero_le _, fun c hc => by cases hc⟩
end

theorem l_ExactSettledHeap {v : World} {x y : Sl} {z : LazyD} (hx : ReadB BM v x z.cells) (hy : ReadB BM v y z.pend) :
    Trip Try.prog 6 #[.agg #[x.val, y.val]] v fun r v' => r = .bool true ∧ Sub v v' := by
  refine of6 _ _ _ _ ?_
  unfold vc6
  refine ⟨_, c_szLazy (b := 1048576) hx hy (by omega) (by omega), fun hc => ⟨rfl, .refl v⟩, fun hc => ?_⟩
  simp only [decide_eq_true_eq, decide_eq_false_iff_not, Bool.and_eq_true, Bool.and_eq_false_iff, Bool.or_eq_true, Bool.or_eq_false_iff, Bool.not_eq_true', Bool.not_eq_false', Bool.not_true, Bool.not_false, Bool.false_eq_true, Bool.true_eq_false, Int.not_lt, Int.not_le, ge_iff_le, gt_iff_lt, Bool.not_eq_eq_eq_not, Bool.true_or, Bool.or_true, Bool.false_or, Bool.or_false, Bool.true_and, Bool.and_true, false_or, or_false, true_and, and_true, Decidable.not_not] at hc
  have hbnd : z.cells.length ≤ 1048576 ∧ (∀ c ∈ z.cells, c.fields.length ≤ 1048576) ∧ z.pend.length ≤ 1048576 := by
    unfold szL at hc
    split at hc
    · omega
    · rename_i h2
      obtain ⟨s1, s2, s3⟩ := szH_le (h := z.cells) (b := 1048576) (by omega)
      obtain ⟨s4, s5⟩ := szI_le hc
      exact ⟨by omega, fun c hc => by have := s3 c hc; omega, by omega⟩
  obtain ⟨b1, b2, b3⟩ := hbnd
  replace hx : Read v x z.cells := hx.toCells (by show z.cells.length ≤ 1099511627776; omega) (fun c hc => by have := b2 c hc; show c.fields.length ≤ 1099511627776; omega)
  replace hy : Read v y z.pend := hy.toInts (by show z.pend.length ≤ 1099511627776; omega)
  have hlen : z.cells.length ≤ 1000000000 := by omega
  have hl2 : z.cells.length ≤ 2000000 := by omega
  have hb2 : ∀ c ∈ z.cells, c.fields.length ≤ 2000000 := fun c hc => by have := b2 c hc; omega
  obtain ⟨hlR, hbR⟩ := shR_bound hl2
  have hposR := (endH_le (shR z) 1 hbR).1
  have hpos := endZ_pos hb2
  refine Mk.use (c_toLazy hx hy) (.refl v) ?_
  rintro _ w1 _ ⟨t1, s1, J1, J2, rfl, hO, hP, rfl⟩ hS hsub
  obtain ⟨u1, hu1, hS, hJ⟩ := hS.freeze (J1 ++ J2)
  have hx1 : Read u1 t1 z.cells := hO.read1 hJ.left
  have hy1 : Read u1 s1 z.pend := Own.read1 (u := v) hP hJ.right
  clear hO hP hJ
  refine ⟨_, _, rfl, ?_⟩
  refine Mk.use (c_SettledHeap hx1 hy1 hlen) hS ?_
  rintro _ w2 J3 ⟨x10, rfl, hO⟩ hS hsub
  obtain ⟨u2, hu2, hS, hJ⟩ := hS.freeze J3
  have hx10 : Read u2 x10 _ := hO.read1 hJ
  clear hO hJ
  have hv2 : Sub v u2 := hu1.trans hu2
  replace hx := hx.mono hv2
  replace hy := hy.mono hv2
  refine ⟨_, _, rfl, ?_⟩
  refine Mk.use (c_toLazy hx hy) hS ?_
  rintro _ w3 _ ⟨x15, x16, J5, J6, rfl, hO5, hP6, rfl⟩ hS hsub
  replace hS : St u2 w3 (J5 ++ (J6 ++ [])) := hS.perm (by simp)
  refine ⟨_, _, rfl, ?_⟩
  refine Mk.usew (c_implSettledHeapD (z := z) (OwnD.read hO5 hS) (Own.read hP6 hS) hlen) hS ?_
  rintro _ w4 J7 ⟨x19, rfl, hO7⟩ hS hsub
  refine ⟨_, _, rfl, _, c_eqCellS (OwnD.read hO7 hS) (hx10.mono hS.sub), fun hc => ?_, fun _ => ?_⟩
  · rw [eqHB_iff.2 rfl] at hc; simp at hc
  refine Mk.use (c_toLazy hx hy) hS ?_
  rintro _ w5 _ ⟨x27, x28, J9, J10, rfl, hO9, hP10, rfl⟩ hS hsub
  replace hS : St u2 w5 (J9 ++ (J10 ++ (J5 ++ (J6 ++ (J7 ++ []))))) := hS.perm (by
    classical
    exact List.perm_iff_count.2 fun a => by simp only [List.count_append]; omega)
  refine ⟨_, _, rfl, hsub, _, c_eqLazy (z := z) (z' := z) (OwnD.read hO5 hS) (Own.read hP6 hS) (OwnD.read hO9 hS) (Own.read hP10 hS), fun hc => ?_, fun _ => ?_⟩
  · rw [eqZB_iff.2 rfl] at hc; simp at hc
  replace hS : St u2 w5 (J5 ++ (J6 ++ (J7 ++ []))) := hS.to
  refine Trip.mono' (c_markLazy hO5 hP6 hS hl2 hb2) ?_
  rintro _ w6 ⟨I5, I6, rfl, hO5, hP6, hS⟩
  refine ⟨_, rfl, _, fun _ => c_eqCellS (OwnD.read hO7 hS) (hx10.mono hS.sub), fun hc => ?_, fun _ => ?_⟩
  · rw [eqHB_iff.2 rfl] at hc
    simp at hc
    omega
  replace hS : St u2 w6 (J7 ++ []) := hS.to
  refine Trip.mono' (c_markCellS hO7 hS (by omega) (by omega) hlR hbR) ?_
  rintro _ w7 ⟨I7, rfl, hO7, hS⟩
  refine ⟨_, rfl, _, c_heldCellS (h := shR z) (OwnD.read hO7 hS) (by omega) (by omega) hlR hbR, fun hc => ?_, fun _ => ⟨fun hc => ?_, fun _ => ?_⟩⟩
  · simp only [decide_eq_true_eq, decide_eq_false_iff_not, Bool.and_eq_true, Bool.and_eq_false_iff, Bool.or_eq_true, Bool.or_eq_false_iff, Bool.not_eq_true', Bool.not_eq_false', Bool.not_true, Bool.not_false, Bool.false_eq_true, Bool.true_eq_false, Int.not_lt, Int.not_le, ge_iff_le, gt_iff_lt, Bool.not_eq_eq_eq_not, Bool.true_or, Bool.or_true, Bool.false_or, Bool.or_false, Bool.true_and, Bool.and_true, false_or, or_false, true_and, and_true, Decidable.not_not] at hc; omega
  · simp at hc
  refine Mk.use (c_toLazy hx hy) hS ?_
  rintro _ w8 _ ⟨x46, x47, J11, J12, rfl, hO11, hP12, rfl⟩ hS hsub
  replace hS : St u2 w8 (J11 ++ (J12 ++ (I7 ++ []))) := hS.perm (by simp)
  refine ⟨_, _, rfl, ?_⟩
  refine Mk.usew (c_implSettledHeapD (z := z) (OwnD.read hO11 hS) (Own.read hP12 hS) hlen) hS ?_
  rintro _ w9 J13 ⟨x50, rfl, hO13⟩ hS hsub
  refine ⟨_, _, rfl, _, c_eqCellS (OwnD.read hO13 hS) (hx10.mono hS.sub), fun hc => ?_, fun _ => ?_⟩
  · rw [eqHB_iff.2 rfl] at hc; simp at hc
  refine ⟨_, c_heldCellS (h := shR z) (OwnD.read hO7 hS) (by omega) (by omega) hlR hbR, fun hc => ?_, fun _ => ⟨fun hc => ?_, fun _ => ⟨rfl, hv2.trans hS.sub⟩⟩⟩
  · simp only [decide_eq_true_eq, decide_eq_false_iff_not, Bool.and_eq_true, Bool.and_eq_false_iff, Bool.or_eq_true, Bool.or_eq_false_iff, Bool.not_eq_true', Bool.not_eq_false', Bool.not_true, Bool.not_false, Bool.false_eq_true, Bool.true_eq_false, Int.not_lt, Int.not_le, ge_iff_le, gt_iff_lt, Bool.not_eq_eq_eq_not, Bool.true_or, Bool.or_true, Bool.false_or, Bool.or_false, Bool.true_and, Bool.and_true, false_or, or_false, true_and, and_true, Decidable.not_not] at hc; omega
  · simp at hc
end Go.Vc
