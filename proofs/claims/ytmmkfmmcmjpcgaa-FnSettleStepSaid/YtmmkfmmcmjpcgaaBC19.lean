/- Part of the proofs about the heaps: a law is joined in the text whose name ends in W and the law. -/
import Derived.Test.YtmmkfmmcmjpcgaaBC18
namespace Go.Vc
open Go Go.Proofs Go.RowKit
set_option linter.all false

theorem nth_set_cases (l : List CellD) (i : Nat) (j : Int) (a : CellD) : nth (l.set i a) j = nth l j ∨ (nth (l.set i a) j = a ∧ j.toNat = i) := by
  unfold nth
  simp only [List.getD, List.getElem?_set]
  split
  · rename_i e
    split
    · exact .inr ⟨rfl, e.symm⟩
    · rename_i h
      refine .inl ?_
      rw [List.getElem?_eq_none (by omega)]
  · exact .inl rfl
theorem live_lower {z : LazyD} {k j : Int} (h : 0 < (nth (lowerZ z k).cells j).count) : 0 < (nth z.cells j).count := by
  unfold lowerZ at h
  simp only at h
  rcases nth_set_cases z.cells k.toNat j (decC (nth z.cells k)) with e | ⟨e, e2⟩
  · rw [e] at h; exact h
  · rw [e] at h
    have : nth z.cells j = nth z.cells k := by unfold nth; rw [e2]
    rw [this]
    simp only [decC] at h
    omega
theorem live_dropF : ∀ (fs : List Int) {z : LazyD} {j : Int}, 0 < (nth (dropF z fs).cells j).count → 0 < (nth z.cells j).count
  | [], _, _, h => h
  | f :: r, z, j, h => by
    rw [dropF_cons] at h
    have := live_dropF r h
    split at this
    · exact live_lower this
    · exact this
theorem live_settle1 {z : LazyD} {j : Int} (h : 0 < (nth (settle1 z).cells j).count) : 0 < (nth z.cells j).count := by
  unfold settle1 at h
  split at h
  · exact h
  · rename_i p r hp
    have := live_dropF _ h
    rcases nth_set_cases z.cells p.toNat j free0 with e | ⟨e, _⟩
    · rw [e] at this; exact this
    · rw [e] at this; exact absurd this (by decide)
theorem live_settleN : ∀ (n : Nat) {z : LazyD} {j : Int}, 0 < (nth (settleN n z).cells j).count → 0 < (nth z.cells j).count
  | 0, _, _, h => h
  | n + 1, _, _, h => live_settle1 (live_settleN n h)
theorem live_settleL {n : Nat} {z : LazyD} {j : Int} (h0 : 0 ≤ j) (h1 : j < (settleL n z).cells.length) (h : 0 < (nth (settleL n z).cells j).count) : 0 < (nth z.cells j).count := by
  refine live_settleN n ?_
  unfold settleL trimZ at h h1
  simp only [List.length_take] at h h1
  have e : nth ((settleN n z).cells.take (trimN (settleN n z).cells (settleN n z).pend (settleN n z).cells.length)) j = nth (settleN n z).cells j := by
    unfold nth
    simp only [List.getD, List.getElem?_take]
    rw [if_pos (by omega)]
  rw [e] at h
  exact h
theorem settle_step {z : LazyD} (L : LZ z.cells z.pend []) (hne : z.pend ≠ []) : nf (settleL 1 z) + 1 = nf z ∧ z.pend.tail <+: (settleL 1 z).pend := by
  obtain ⟨h1, h2, h3, h4⟩ := LZ.settle1 L
  refine ⟨?_, h4⟩
  have : nf (settleL 1 z) = nf (settle1 z) := (Ext.nf (trim_ext h1)).symm
  rw [this]
  exact h2 hne
theorem shR_again {z : LazyD} (L : LZ z.cells z.pend []) (m : Nat) : shR (settleL m z) = (settleL z.cells.length z).cells := by
  have hv := settle_valid L m
  have L8 := (vlazy_iff.1 hv).1
  rw [shR_t hv]
  have hp := (settle_all L8 (nf_le L8)).2
  rw [settle_again L] at hp ⊢
  rw [settle_full L hp]

theorem l_Settle : LawTrue Try.prog 9 := by
  intro v x0 bs hb
  refine of9 _ _ _ ?_
  unfold vc9
  refine ⟨fun hc => ⟨rfl, .refl v⟩, fun hc => ?_⟩
  simp only [decide_eq_true_eq, decide_eq_false_iff_not, Bool.and_eq_true, Bool.and_eq_false_iff, Bool.or_eq_true, Bool.or_eq_false_iff, Bool.not_eq_true', Bool.not_eq_false', Bool.not_true, Bool.not_false, Bool.false_eq_true, Bool.true_eq_false, Int.not_lt, Int.not_le, ge_iff_le, gt_iff_lt, Bool.not_eq_eq_eq_not, Bool.true_or, Bool.or_true, Bool.false_or, Bool.or_false, Bool.true_and, Bool.and_true, false_or, or_false, true_and, and_true, Decidable.not_not] at hc
  have hcode := hb.read (by omega)
  refine Mk.use (c_DrawSettle hcode) (.refl v) ?_
  rintro _ w1 _ ⟨x, y, z, m, J1, J2, rfl, hO, hP, hm0, hm1, hzl, hpl, rfl⟩ hS hsub
  refine ⟨_, _, _, rfl, ?_⟩
  obtain ⟨u, hvu, hS, hJ⟩ := hS.freeze (J1 ++ J2)
  have hx : Read u x z.cells := hO.read1 hJ.left
  have hy : Read u y z.pend := Own.read1 (u := v) hP hJ.right
  clear hO hP hJ
  have hxn := hx.n
  have hyn := hy.n
  refine Trip.fr (c_implSettleT (m := m) hx hy (by omega)) hS ?_
  rintro _ u1 w2 ⟨x8, y8, u2, I, J, rfl, huu, hSt, hO, hP⟩ hS2 _
  replace hS := hSt.glue hS2
  obtain ⟨u3, hu3, hS, hJ⟩ := hS.freeze (I ++ (J ++ []))
  have hx8 : Read u3 x8 _ := Own.read hO hJ
  have hy8 : Read u3 y8 _ := Own.read hP hJ
  have hu : Sub u u3 := huu.trans hu3
  replace hx := hx.mono hu
  replace hy := hy.mono hu
  clear hO hP hJ hSt hS2
  refine ⟨_, _, _, rfl, ?_⟩
  refine Mk.use (c_Settle (m := m) hx hy (by omega)) hS ?_
  rintro _ w3 _ ⟨x13, y13, J3, J4, rfl, hO, hP, rfl⟩ hS hsub
  obtain ⟨u4, hu4, hS, hJ⟩ := hS.freeze (J3 ++ J4)
  have hx13 : Read u4 x13 _ := hO.read1 hJ.left
  have hy13 : Read u4 y13 _ := Own.read1 (u := u3) hP hJ.right
  clear hO hP hJ
  replace hx := hx.mono hu4
  replace hy := hy.mono hu4
  replace hx8 := hx8.mono hu4
  replace hy8 := hy8.mono hu4
  have hv4 : Sub v u4 := hvu.trans (hu.trans hu4)
  refine ⟨_, _, _, rfl, _, c_equalLazy (hx8.mono hS.sub) (hy8.mono hS.sub) (hx13.mono hS.sub) (hy13.mono hS.sub), fun hc => ?_, fun hc => ?_⟩
  · exact ⟨_, c_equalLazy (hx8.mono hS.sub) (hy8.mono hS.sub) (hx13.mono hS.sub) (hy13.mono hS.sub), by simp, hv4.trans hS.sub⟩
  simp at hc
  clear hx13 hy13

  have hd := stlB_iff.1 hc
  rw [stlR_t hd] at hx8 hy8
  have L := (vlazy_iff.1 hd.1).1
  have hv8 := settle_valid L m.toNat
  have hl8 := (settleL_len m.toNat (.inr hd.1)).1
  have h0 := hd.2.1
  have h1 := hd.2.2
  refine ⟨fun j w => Sub u4 w ∧ 0 ≤ j ∧ j ≤ 4, fun j _ => (4 - j).toNat, ⟨hS.sub, by omega, by omega⟩, ?_⟩
  clear hS
  rintro j w ⟨hs, j0, j1⟩
  dsimp only
  refine ⟨m + j, fun _ => wrap_i64 (by omega) (by omega), fun hc => ?_, fun hc => ?_⟩
  · simp only [decide_eq_true_eq, decide_eq_false_iff_not, Bool.and_eq_true, Bool.and_eq_false_iff, Bool.or_eq_true, Bool.or_eq_false_iff, Bool.not_eq_true', Bool.not_eq_false', Bool.not_true, Bool.not_false, Bool.false_eq_true, Bool.true_eq_false, Int.not_lt, Int.not_le, ge_iff_le, gt_iff_lt, Bool.not_eq_eq_eq_not, Bool.true_or, Bool.or_true, Bool.false_or, Bool.or_false, Bool.true_and, Bool.and_true, false_or, or_false, true_and, and_true, Decidable.not_not] at hc
    have hd8 : stlOk (settleL m.toNat z) j := ⟨hv8, j0, by omega⟩
    have hdm : stlOk z (m + j) := ⟨hd.1, by omega, hc.2⟩
    refine Trip.fr (c_implSettleT (z := settleL m.toNat z) (m := j) (hx8.mono hs) (hy8.mono hs) (by omega)) (St.refl w) ?_
    rintro _ u1 w2 ⟨x9, y9, u2, I, J, rfl, huu, hSt, hO, hP⟩ hS2 _
    have hS := hSt.glue hS2
    rw [stlR_t hd8] at hO hP
    obtain ⟨u3, hu3, hS, hJ⟩ := hS.freeze (I ++ (J ++ []))
    have hx9 : Read u3 x9 _ := Own.read hO hJ
    have hy9 : Read u3 y9 _ := Own.read hP hJ
    have hs3 : Sub u4 u3 := hs.trans (huu.trans hu3)
    clear hO hP hJ hSt hS2
    refine ⟨_, _, _, rfl, ?_⟩
    refine go_wr (by omega) (by omega) ?_
    refine Trip.fr (c_implSettleT (z := z) (m := m + j) (hx.mono hs3) (hy.mono hs3) (by omega)) hS ?_
    rintro _ u5 w5 ⟨x10, y10, u6, I, J, rfl, huu6, hSt, hO, hP⟩ hS2 _
    replace hS := hSt.glue hS2
    rw [stlR_t hdm] at hO hP
    obtain ⟨u7, hu7, hS, hJ⟩ := hS.freeze (I ++ (J ++ []))
    have hx10 : Read u7 x10 _ := Own.read hO hJ
    have hy10 : Read u7 y10 _ := Own.read hP hJ
    have hs7 : Sub u3 u7 := huu6.trans hu7
    have hag : settleL j.toNat (settleL m.toNat z) = settleL (m + j).toNat z := by rw [settle_again L]; congr 1; omega
    rw [hag] at hx9 hy9
    clear hO hP hJ hSt hS2
    refine ⟨_, _, _, rfl, _, fun _ => c_equalLazy (z := settleL (m + j).toNat z) (z' := settleL (m + j).toNat z) ((hx9.mono hs7).mono hS.sub) ((hy9.mono hs7).mono hS.sub) (hx10.mono hS.sub) (hy10.mono hS.sub), fun hc => ?_, fun hc => ?_⟩
    · rw [stlB_iff.2 hd8, stlB_iff.2 hdm] at hc
      simp at hc
    · refine go_wr (by omega) (by omega) ?_
      exact ⟨rfl, rfl, rfl, rfl, rfl, rfl, ⟨hs3.trans (hs7.trans hS.sub), by omega, by omega⟩, by omega⟩
  · exact ⟨_, c_validLazyI (z := settleL m.toNat z) (hx8.mono hs) (hy8.mono hs), by rw [vlazyB_iff.2 hv8], hv4.trans hs⟩

theorem l_SettleEnd : LawTrue Try.prog 10 := by
  intro v x0 bs hb
  refine of10 _ _ _ ?_
  unfold vc10
  refine ⟨fun hc => ⟨rfl, .refl v⟩, fun hc => ?_⟩
  simp only [decide_eq_true_eq, decide_eq_false_iff_not, Bool.and_eq_true, Bool.and_eq_false_iff, Bool.or_eq_true, Bool.or_eq_false_iff, Bool.not_eq_true', Bool.not_eq_false', Bool.not_true, Bool.not_false, Bool.false_eq_true, Bool.true_eq_false, Int.not_lt, Int.not_le, ge_iff_le, gt_iff_lt, Bool.not_eq_eq_eq_not, Bool.true_or, Bool.or_true, Bool.false_or, Bool.or_false, Bool.true_and, Bool.and_true, false_or, or_false, true_and, and_true, Decidable.not_not] at hc
  have hcode := hb.read (by omega)
  refine Mk.use (c_DrawSettle hcode) (.refl v) ?_
  rintro _ w1 _ ⟨x, y, z, m, J1, J2, rfl, hO, hP, hm0, hm1, hzl, hpl, rfl⟩ hS hsub
  refine ⟨_, _, _, rfl, ?_⟩
  obtain ⟨u, hvu, hS, hJ⟩ := hS.freeze (J1 ++ J2)
  have hx : Read u x z.cells := hO.read1 hJ.left
  have hy : Read u y z.pend := Own.read1 (u := v) hP hJ.right
  clear hO hP hJ
  have hxn := hx.n
  have hyn := hy.n
  refine Trip.fr (c_implSettleT (m := m) hx hy (by omega)) hS ?_
  rintro _ u1 w2 ⟨x8, y8, u2, I, J, rfl, huu, hSt, hO, hP⟩ hS2 _
  replace hS := hSt.glue hS2
  obtain ⟨u3, hu3, hS, hJ⟩ := hS.freeze (I ++ (J ++ []))
  have hx8 : Read u3 x8 _ := Own.read hO hJ
  have hy8 : Read u3 y8 _ := Own.read hP hJ
  have hu : Sub u u3 := huu.trans hu3
  replace hx := hx.mono hu
  replace hy := hy.mono hu
  clear hO hP hJ hSt hS2
  refine ⟨_, _, _, rfl, ?_⟩
  refine Mk.use (c_Settle (m := m) hx hy (by omega)) hS ?_
  rintro _ w3 _ ⟨x13, y13, J3, J4, rfl, hO, hP, rfl⟩ hS hsub
  obtain ⟨u4, hu4, hS, hJ⟩ := hS.freeze (J3 ++ J4)
  have hx13 : Read u4 x13 _ := hO.read1 hJ.left
  have hy13 : Read u4 y13 _ := Own.read1 (u := u3) hP hJ.right
  clear hO hP hJ
  replace hx := hx.mono hu4
  replace hy := hy.mono hu4
  replace hx8 := hx8.mono hu4
  replace hy8 := hy8.mono hu4
  have hv4 : Sub v u4 := hvu.trans (hu.trans hu4)
  refine ⟨_, _, _, rfl, _, c_equalLazy (hx8.mono hS.sub) (hy8.mono hS.sub) (hx13.mono hS.sub) (hy13.mono hS.sub), fun hc => ?_, fun hc => ?_⟩
  · exact ⟨_, c_equalLazy (hx8.mono hS.sub) (hy8.mono hS.sub) (hx13.mono hS.sub) (hy13.mono hS.sub), by simp, hv4.trans hS.sub⟩
  simp at hc
  clear hx13 hy13

  have hd := stlB_iff.1 hc
  rw [stlR_t hd] at hx8 hy8
  have L := (vlazy_iff.1 hd.1).1
  have hv8 := settle_valid L m.toNat
  have hl8 := (settleL_len m.toNat (.inr hd.1)).1
  have h0 := hd.2.1
  have h1 := hd.2.2
  have hde : stlOk z x.n := ⟨hd.1, by omega, by omega⟩
  have hlen : (x.n : Int).toNat = z.cells.length := by have := hx.n; omega
  refine Trip.fr (c_implSettleT (m := x.n) hx hy (by omega)) hS ?_
  rintro _ u1 w2 ⟨x9, y9, u2, I, J, rfl, huu, hSt, hO, hP⟩ hS2 _
  replace hS := hSt.glue hS2
  rw [stlR_t hde, hlen] at hO hP
  obtain ⟨u5, hu5, hS, hJ⟩ := hS.freeze (I ++ (J ++ []))
  have hx9 : Read u5 x9 _ := Own.read hO hJ
  have hy9 : Read u5 y9 _ := Own.read hP hJ
  have hs5 : Sub u4 u5 := huu.trans hu5
  clear hO hP hJ hSt hS2
  refine ⟨_, _, _, rfl, ?_⟩
  refine Trip.fr (c_implSettledHeap (hx.mono hs5) (hy.mono hs5) (by omega)) hS ?_
  rintro _ u6 w6 ⟨x10, u7, I, rfl, huu, hSt, hO⟩ hS2 _
  replace hS := hSt.glue hS2
  rw [shR_t hd.1] at hO
  obtain ⟨u8, hu8, hS, hJ⟩ := hS.freeze (I ++ [])
  have hx10 : Read u8 x10 _ := Own.read hO hJ
  have hs8 : Sub u5 u8 := huu.trans hu8
  have hp9 := (settle_all L (nf_le L)).2
  have hyn9 := hy9.n
  rw [hp9] at hyn9
  have hy0 : decide ((y9.n : Int) = 0) = true := by simp at hyn9; simp [hyn9]
  refine ⟨_, _, rfl, _, fun _ => c_equalHeap ((hx9.mono hs8).mono hS.sub) (hx10.mono hS.sub), ?_, hv4.trans (hs5.trans (hs8.trans hS.sub))⟩
  rw [stlB_iff.2 hde, vlazyB_iff.2 hd.1, hy0, eqHB_iff.2 rfl]
  rfl

theorem l_SettleSame : LawTrue Try.prog 11 := by
  intro v x0 bs hb
  refine of11 _ _ _ ?_
  unfold vc11
  refine ⟨fun hc => ⟨rfl, .refl v⟩, fun hc => ?_⟩
  simp only [decide_eq_true_eq, decide_eq_false_iff_not, Bool.and_eq_true, Bool.and_eq_false_iff, Bool.or_eq_true, Bool.or_eq_false_iff, Bool.not_eq_true', Bool.not_eq_false', Bool.not_true, Bool.not_false, Bool.false_eq_true, Bool.true_eq_false, Int.not_lt, Int.not_le, ge_iff_le, gt_iff_lt, Bool.not_eq_eq_eq_not, Bool.true_or, Bool.or_true, Bool.false_or, Bool.or_false, Bool.true_and, Bool.and_true, false_or, or_false, true_and, and_true, Decidable.not_not] at hc
  have hcode := hb.read (by omega)
  refine Mk.use (c_DrawSettle hcode) (.refl v) ?_
  rintro _ w1 _ ⟨x, y, z, m, J1, J2, rfl, hO, hP, hm0, hm1, hzl, hpl, rfl⟩ hS hsub
  refine ⟨_, _, _, rfl, ?_⟩
  obtain ⟨u, hvu, hS, hJ⟩ := hS.freeze (J1 ++ J2)
  have hx : Read u x z.cells := hO.read1 hJ.left
  have hy : Read u y z.pend := Own.read1 (u := v) hP hJ.right
  clear hO hP hJ
  have hxn := hx.n
  have hyn := hy.n
  refine Trip.fr (c_implSettleT (m := m) hx hy (by omega)) hS ?_
  rintro _ u1 w2 ⟨x8, y8, u2, I, J, rfl, huu, hSt, hO, hP⟩ hS2 _
  replace hS := hSt.glue hS2
  obtain ⟨u3, hu3, hS, hJ⟩ := hS.freeze (I ++ (J ++ []))
  have hx8 : Read u3 x8 _ := Own.read hO hJ
  have hy8 : Read u3 y8 _ := Own.read hP hJ
  have hu : Sub u u3 := huu.trans hu3
  replace hx := hx.mono hu
  replace hy := hy.mono hu
  clear hO hP hJ hSt hS2
  refine ⟨_, _, _, rfl, ?_⟩
  refine Mk.use (c_Settle (m := m) hx hy (by omega)) hS ?_
  rintro _ w3 _ ⟨x13, y13, J3, J4, rfl, hO, hP, rfl⟩ hS hsub
  obtain ⟨u4, hu4, hS, hJ⟩ := hS.freeze (J3 ++ J4)
  have hx13 : Read u4 x13 _ := hO.read1 hJ.left
  have hy13 : Read u4 y13 _ := Own.read1 (u := u3) hP hJ.right
  clear hO hP hJ
  replace hx := hx.mono hu4
  replace hy := hy.mono hu4
  replace hx8 := hx8.mono hu4
  replace hy8 := hy8.mono hu4
  have hv4 : Sub v u4 := hvu.trans (hu.trans hu4)
  refine ⟨_, _, _, rfl, _, c_equalLazy (hx8.mono hS.sub) (hy8.mono hS.sub) (hx13.mono hS.sub) (hy13.mono hS.sub), fun hc => ?_, fun hc => ?_⟩
  · exact ⟨_, c_equalLazy (hx8.mono hS.sub) (hy8.mono hS.sub) (hx13.mono hS.sub) (hy13.mono hS.sub), by simp, hv4.trans hS.sub⟩
  simp at hc
  clear hx13 hy13

  have hd := stlB_iff.1 hc
  rw [stlR_t hd] at hx8 hy8
  have L := (vlazy_iff.1 hd.1).1
  have hv8 := settle_valid L m.toNat
  have hl8 := (settleL_len m.toNat (.inr hd.1)).1
  have h0 := hd.2.1
  have h1 := hd.2.2
  refine Trip.fr (c_implSettledHeap hx8 hy8 (by omega)) hS ?_
  rintro _ u5 w5 ⟨x9, u6, I, rfl, huu, hSt, hO⟩ hS2 _
  replace hS := hSt.glue hS2
  rw [shR_again L] at hO
  obtain ⟨u7, hu7, hS, hJ⟩ := hS.freeze (I ++ [])
  have hx9 : Read u7 x9 _ := Own.read hO hJ
  have hs7 : Sub u4 u7 := huu.trans hu7
  clear hO hJ hSt hS2
  refine ⟨_, _, rfl, ?_⟩
  refine Trip.fr (c_implSettledHeap (hx.mono hs7) (hy.mono hs7) (by omega)) hS ?_
  rintro _ u8 w8 ⟨x10, u9, I, rfl, huu, hSt, hO⟩ hS2 _
  replace hS := hSt.glue hS2
  rw [shR_t hd.1] at hO
  obtain ⟨u10, hu10, hS, hJ⟩ := hS.freeze (I ++ [])
  have hx10 : Read u10 x10 _ := Own.read hO hJ
  have hs10 : Sub u7 u10 := huu.trans hu10
  refine ⟨_, _, rfl, _, fun _ => c_equalHeap ((hx9.mono hs10).mono hS.sub) (hx10.mono hS.sub), ?_, hv4.trans (hs7.trans (hs10.trans hS.sub))⟩
  rw [vlazyB_iff.2 hv8, vlazyB_iff.2 hd.1, eqHB_iff.2 rfl]
  rfl

theorem l_SettleStep : LawTrue Try.prog 12 := by
  intro v x0 bs hb
  refine of12 _ _ _ ?_
  unfold vc12
  refine ⟨fun hc => ⟨rfl, .refl v⟩, fun hc => ?_⟩
  simp only [decide_eq_true_eq, decide_eq_false_iff_not, Bool.and_eq_true, Bool.and_eq_false_iff, Bool.or_eq_true, Bool.or_eq_false_iff, Bool.not_eq_true', Bool.not_eq_false', Bool.not_true, Bool.not_false, Bool.false_eq_true, Bool.true_eq_false, Int.not_lt, Int.not_le, ge_iff_le, gt_iff_lt, Bool.not_eq_eq_eq_not, Bool.true_or, Bool.or_true, Bool.false_or, Bool.or_false, Bool.true_and, Bool.and_true, false_or, or_false, true_and, and_true, Decidable.not_not] at hc
  have hcode := hb.read (by omega)
  refine Mk.use (c_DrawSettle hcode) (.refl v) ?_
  rintro _ w1 _ ⟨x, y, z, m, J1, J2, rfl, hO, hP, hm0, hm1, hzl, hpl, rfl⟩ hS hsub
  refine ⟨_, _, _, rfl, ?_⟩
  obtain ⟨u, hvu, hS, hJ⟩ := hS.freeze (J1 ++ J2)
  have hx : Read u x z.cells := hO.read1 hJ.left
  have hy : Read u y z.pend := Own.read1 (u := v) hP hJ.right
  clear hO hP hJ
  have hxn := hx.n
  have hyn := hy.n
  refine Trip.fr (c_implSettleT (m := m) hx hy (by omega)) hS ?_
  rintro _ u1 w2 ⟨x8, y8, u2, I, J, rfl, huu, hSt, hO, hP⟩ hS2 _
  replace hS := hSt.glue hS2
  obtain ⟨u3, hu3, hS, hJ⟩ := hS.freeze (I ++ (J ++ []))
  have hx8 : Read u3 x8 _ := Own.read hO hJ
  have hy8 : Read u3 y8 _ := Own.read hP hJ
  have hu : Sub u u3 := huu.trans hu3
  replace hx := hx.mono hu
  replace hy := hy.mono hu
  clear hO hP hJ hSt hS2
  refine ⟨_, _, _, rfl, ?_⟩
  refine Mk.use (c_Settle (m := m) hx hy (by omega)) hS ?_
  rintro _ w3 _ ⟨x13, y13, J3, J4, rfl, hO, hP, rfl⟩ hS hsub
  obtain ⟨u4, hu4, hS, hJ⟩ := hS.freeze (J3 ++ J4)
  have hx13 : Read u4 x13 _ := hO.read1 hJ.left
  have hy13 : Read u4 y13 _ := Own.read1 (u := u3) hP hJ.right
  clear hO hP hJ
  replace hx := hx.mono hu4
  replace hy := hy.mono hu4
  replace hx8 := hx8.mono hu4
  replace hy8 := hy8.mono hu4
  have hv4 : Sub v u4 := hvu.trans (hu.trans hu4)
  refine ⟨_, _, _, rfl, _, c_equalLazy (hx8.mono hS.sub) (hy8.mono hS.sub) (hx13.mono hS.sub) (hy13.mono hS.sub), fun hc => ?_, fun hc => ?_⟩
  · exact ⟨_, c_equalLazy (hx8.mono hS.sub) (hy8.mono hS.sub) (hx13.mono hS.sub) (hy13.mono hS.sub), by simp, hv4.trans hS.sub⟩
  simp at hc
  clear hx13 hy13
  obtain ⟨hc, hnz⟩ := hc
  have hd := stlB_iff.1 hc
  rw [stlR_t hd] at hx8 hy8
  have L := (vlazy_iff.1 hd.1).1
  have hv8 := settle_valid L m.toNat
  have hl8 := (settleL_len m.toNat (.inr hd.1)).1
  have h0 := hd.2.1
  have h1 := hd.2.2
  have hde : stlOk z 1 := ⟨hd.1, by omega, by omega⟩
  have hne : z.pend ≠ [] := fun e => by rw [e] at hyn; exact hnz (by simpa using hyn)
  obtain ⟨hnf, hpre⟩ := settle_step L hne
  have hle1 := (settleL_len 1 (.inr hd.1)).1
  refine Trip.fr (c_implSettleT (m := 1) hx hy (by omega)) hS ?_
  rintro _ u1 w2 ⟨x9, y9, u2, I, J, rfl, huu, hSt, hO, hP⟩ hS2 _
  replace hS := hSt.glue hS2
  rw [stlR_t hde, show (1 : Int).toNat = 1 from rfl] at hO hP
  obtain ⟨u5, hu5, hS, hJ⟩ := hS.freeze (I ++ (J ++ []))
  have hx9 : Read u5 x9 _ := Own.read hO hJ
  have hy9 : Read u5 y9 _ := Own.read hP hJ
  have hs5 : Sub u4 u5 := huu.trans hu5
  clear hO hP hJ hSt hS2
  replace hx := hx.mono hs5
  replace hy := hy.mono hs5
  have hxl := hx.n
  have hyl := hy.n
  have hx9l := hx9.n
  have hy9l := hy9.n
  have hLz := hd.1
  have L1 := (vlazy_iff.1 (settle_valid L 1)).1
  have hp1 := pend_len' L1
  have hnl : ∀ h : List CellD, nlive h ≤ h.length := fun h => by unfold nlive; exact List.countP_le_length
  have hn1 := hnl z.cells
  have hn2 := hnl (settleL 1 z).cells
  refine ⟨_, _, _, rfl, ?_⟩
  refine Mk.use (c_liveIn hx) hS ?_
  rintro _ w6 J6 ⟨t6, l6, rfl, hT6, hl6, _⟩ hS hsub
  have ht6 := hT6.n
  refine ⟨_, rfl, hsub, ?_⟩
  refine go_wr (by omega) (by omega) ?_
  refine Mk.use (c_liveIn hx9) hS ?_
  rintro _ w7 J7 ⟨t7, l7, rfl, hT7, hl7, _⟩ hS hsub
  have ht7 := hT7.n
  refine ⟨_, rfl, hsub, ?_⟩
  refine go_wr (by omega) (by omega) ?_
  unfold nf at hnf
  refine ⟨(t7.n : Int) + y9.n + 1, fun _ => wrap_i64 (by omega) (by omega), fun _ => ⟨by omega, by omega⟩, ?_⟩
  have hcut := hy.cut (lo := 1) (hi := y.n) (by omega) (by omega) (by omega)
  have hct : (z.pend.take (y.n : Int).toNat).drop (1 : Int).toNat = z.pend.tail := by
    rw [show (y.n : Int).toNat = z.pend.length from by omega, List.take_length]
    simp
  rw [hct] at hcut
  refine ⟨_, fun _ => c_isPrefix (hcut.mono hS.sub) (hy9.mono hS.sub), ?_, hv4.trans (hs5.trans hS.sub)⟩
  have e1 : decide ((t6.n : Int) + y.n = (t7.n : Int) + y9.n + 1) = true := decide_eq_true (by omega)
  rw [stlB_iff.2 hde, e1, decide_eq_true hpre]
  rfl

theorem l_SettledHeap : LawTrue Try.prog 14 := by
  intro v x0 bs hb
  refine of14 _ _ _ ?_
  unfold vc14
  refine ⟨fun hc => ⟨rfl, .refl v⟩, fun hc => ?_⟩
  simp only [decide_eq_true_eq, decide_eq_false_iff_not, Bool.and_eq_true, Bool.and_eq_false_iff, Bool.or_eq_true, Bool.or_eq_false_iff, Bool.not_eq_true', Bool.not_eq_false', Bool.not_true, Bool.not_false, Bool.false_eq_true, Bool.true_eq_false, Int.not_lt, Int.not_le, ge_iff_le, gt_iff_lt, Bool.not_eq_eq_eq_not, Bool.true_or, Bool.or_true, Bool.false_or, Bool.or_false, Bool.true_and, Bool.and_true, false_or, or_false, true_and, and_true, Decidable.not_not] at hc
  have hcode := hb.read (by omega)
  refine Mk.use (c_DrawSettledHeap hcode) (.refl v) ?_
  rintro _ w1 _ ⟨x, y, z, J1, J2, rfl, hO, hP, hzl, hpl, rfl⟩ hS hsub
  refine ⟨_, _, rfl, ?_⟩
  obtain ⟨u, hvu, hS, hJ⟩ := hS.freeze (J1 ++ J2)
  have hx : Read u x z.cells := hO.read1 hJ.left
  have hy : Read u y z.pend := Own.read1 (u := v) hP hJ.right
  clear hO hP hJ
  have hyn := hy.n
  refine Trip.fr (c_implSettledHeap hx hy (by omega)) hS ?_
  rintro _ u1 w2 ⟨x8, u2, I, rfl, huu, hSt, hO⟩ hS2 _
  replace hS := hSt.glue hS2
  obtain ⟨u3, hu3, hS, hJ⟩ := hS.freeze (I ++ [])
  have hx8 : Read u3 x8 _ := Own.read hO hJ
  have hu : Sub u u3 := huu.trans hu3
  replace hx := hx.mono hu
  replace hy := hy.mono hu
  clear hO hJ hSt hS2
  refine ⟨_, _, rfl, ?_⟩
  refine Mk.use (c_SettledHeap hx hy (by omega)) hS ?_
  rintro _ w3 J3 ⟨x13, rfl, hO⟩ hS hsub
  obtain ⟨u4, hu4, hS, hJ⟩ := hS.freeze J3
  have hx13 : Read u4 x13 _ := hO.read1 hJ
  clear hO hJ
  replace hx := hx.mono hu4
  replace hx8 := hx8.mono hu4
  have hv4 : Sub v u4 := hvu.trans (hu.trans hu4)
  refine ⟨_, _, rfl, _, c_equalHeap (hx8.mono hS.sub) (hx13.mono hS.sub), fun hc => ?_, fun hc => ?_⟩
  · exact ⟨_, c_equalHeap (hx8.mono hS.sub) (hx13.mono hS.sub), by rw [eqHB_iff.2 rfl]; simp, hv4.trans hS.sub⟩
  rw [eqHB_iff.2 rfl] at hc
  simp at hc
  have hd := vlazyB_iff.1 hc
  have L := (vlazy_iff.1 hd).1
  rw [shR_t hd] at hx8
  have hp := (settle_all L (nf_le L)).2
  have hv8 := settle_valid L z.cells.length
  have hvh : vheap (settleL z.cells.length z).cells := by have := hv8.2.1; rw [hp] at this; exact this
  have hl8 := (settleL_len z.cells.length (.inr hd)).1
  refine ⟨_, c_implValidHeap (hx8.mono hS.sub), fun hq => ?_, fun hq => ?_⟩
  · refine Mk.use (c_liveIn hx8) hS ?_
    rintro _ w6 J6 ⟨t6, l6, rfl, hT6, _, hm6⟩ hS hsub
    refine ⟨_, rfl, hsub, ?_⟩
    refine Mk.use (c_liveIn hx) hS ?_
    rintro _ w7 J7 ⟨t7, l7, rfl, hT7, _, hm7⟩ hS hsub
    refine ⟨_, rfl, _, c_within (Own.read hT6 hS) (Own.read hT7 hS), _, fun _ _ => c_equalHeap (hx8.mono hS.sub) (hx.mono hS.sub), ?_, hv4.trans hS.sub⟩
    have e1 : ∀ n ∈ l6, n ∈ l7 := fun n hn => by
      obtain ⟨g0, g1, g2⟩ := (hm6 n).1 hn
      exact (hm7 n).2 ⟨g0, by omega, live_settleL g0 g1 g2⟩
    rw [decide_eq_true e1]
    by_cases hz : z.pend = []
    · rw [eqHB_iff.2 (by rw [settle_nil hd hz])]; simp
    · have : decide ((y.n : Int) > 0) = true := decide_eq_true (by have := List.length_pos_iff.2 hz; omega)
      rw [this]; simp
  · rw [vheapB_iff.2 hvh] at hq
    cases hq
end Go.Vc
