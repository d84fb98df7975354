/- Part of the proofs about the heaps: a law is joined in the text whose name ends in W and the law. -/
import Derived.Test.YtmmkfmmcmjpcgaaBC15
namespace Go.Vc
open Go Go.Proofs Go.RowKit
set_option linter.all false
section
variable {u v w : World} {x y xf s t : Sl} {l ws fs pend : List Int} {h g : List CellD} {z z' : LazyD} {m n k f : Int} {a : Addr} {I J L R R1 : Items} {F F1 : Items → Items}

theorem c_equalCell {c d : CellD} {f g : Sl} (hf : Read v f c.fields) (hg : Read v g d.fields) :
    Fn Try.prog 41 #[.agg #[.int .i64 c.count, .int .i64 c.tag, f.val], .agg #[.int .i64 d.count, .int .i64 d.tag, g.val]] v (.bool (@decide (c = d) (Classical.propDecidable _))) := by
  refine of41 _ _ _ _ _ _ _ _ ?_
  unfold vc41
  refine ⟨_, fun _ => c_equalInts hf hg, ?_, .refl v⟩
  congr 1
  obtain ⟨a1, a2, a3⟩ := c
  obtain ⟨b1, b2, b3⟩ := d
  rw [Bool.eq_iff_iff]
  simp only [Bool.and_eq_true, decide_eq_true_eq, CellD.mk.injEq]
  exact ⟨fun ⟨⟨h1, h2⟩, h3⟩ => ⟨h1, h2, h3⟩, fun ⟨h1, h2, h3⟩ => ⟨⟨h1, h2⟩, h3⟩⟩

noncomputable def eqHB (h g : List CellD) : Bool := @decide (h = g) (Classical.propDecidable _)
theorem eqHB_iff {h g : List CellD} : eqHB h g = true ↔ h = g := by unfold eqHB; exact @decide_eq_true_iff _ (Classical.propDecidable _)
theorem eqHB_f {h g : List CellD} (hn : ¬ h = g) : eqHB h g = false := Bool.eq_false_iff.2 fun e => hn (eqHB_iff.1 e)

theorem c_equalHeap (hx : Read v x h) (hy : Read v y g) : Fn Try.prog 44 #[x.val, y.val] v (.bool (eqHB h g)) := by
  refine of44 _ _ _ _ ?_
  unfold vc44
  have hn := hx.n
  have hl := hx.le
  have hyn := hy.n
  refine ⟨fun hc => ?_, fun hc => ?_⟩
  · simp only [decide_eq_true_eq, decide_eq_false_iff_not, Bool.and_eq_true, Bool.and_eq_false_iff, Bool.or_eq_true, Bool.or_eq_false_iff, Bool.not_eq_true', Bool.not_eq_false', Bool.not_true, Bool.not_false, Bool.false_eq_true, Bool.true_eq_false, Int.not_lt, Int.not_le, ge_iff_le, gt_iff_lt, Bool.not_eq_eq_eq_not, Bool.true_or, Bool.or_true, Bool.false_or, Bool.or_false, Bool.true_and, Bool.and_true, false_or, or_false, true_and, and_true, Decidable.not_not] at hc
    exact ⟨by rw [eqHB_f (fun e => by rw [e] at hn; omega)], .refl v⟩
  simp only [decide_eq_true_eq, decide_eq_false_iff_not, Bool.and_eq_true, Bool.and_eq_false_iff, Bool.or_eq_true, Bool.or_eq_false_iff, Bool.not_eq_true', Bool.not_eq_false', Bool.not_true, Bool.not_false, Bool.false_eq_true, Bool.true_eq_false, Int.not_lt, Int.not_le, ge_iff_le, gt_iff_lt, Bool.not_eq_eq_eq_not, Bool.true_or, Bool.or_true, Bool.false_or, Bool.or_false, Bool.true_and, Bool.and_true, false_or, or_false, true_and, and_true, Decidable.not_not] at hc
  have hlen : h.length = g.length := by omega
  refine ⟨fun i w => Sub v w ∧ 0 ≤ i ∧ i ≤ h.length ∧ h.take i.toNat = g.take i.toNat, fun i _ => (h.length - i).toNat, ⟨.refl v, by omega, by omega, by simp⟩, ?_⟩
  rintro i w ⟨hs, h0, h1, h2⟩
  dsimp only
  refine ⟨fun hi => ?_, fun hi => ?_⟩
  · simp only [decide_eq_true_eq, decide_eq_false_iff_not, Bool.and_eq_true, Bool.and_eq_false_iff, Bool.or_eq_true, Bool.or_eq_false_iff, Bool.not_eq_true', Bool.not_eq_false', Bool.not_true, Bool.not_false, Bool.false_eq_true, Bool.true_eq_false, Int.not_lt, Int.not_le, ge_iff_le, gt_iff_lt, Bool.not_eq_eq_eq_not, Bool.true_or, Bool.or_true, Bool.false_or, Bool.or_false, Bool.true_and, Bool.and_true, false_or, or_false, true_and, and_true, Decidable.not_not] at hi
    refine go_ix hx h0 (by omega) ?_
    refine ld_cell (hx.src hs) h0 (by omega) ?_
    intro f hf _ _
    refine go_ix hy h0 (by omega) ?_
    refine ld_cell (hy.src hs) h0 (by omega) ?_
    intro f2 hf2 _ _
    refine ⟨_, c_equalCell (c := nth h i) (d := nth g i) (hf.mono hs) (hf2.mono hs), fun hq => ?_, fun hq => ?_⟩
    · refine ⟨?_, hs⟩
      rw [eqHB_f fun e => ?_]
      subst e
      simp at hq
    · simp at hq
      refine go_wr (by omega) (by omega) ?_
      refine ⟨⟨hs, by omega, by omega, ?_⟩, by omega⟩
      rw [take_nth h0 (by omega), take_nth h0 (by omega), h2, hq]
  · simp only [decide_eq_true_eq, decide_eq_false_iff_not, Bool.and_eq_true, Bool.and_eq_false_iff, Bool.or_eq_true, Bool.or_eq_false_iff, Bool.not_eq_true', Bool.not_eq_false', Bool.not_true, Bool.not_false, Bool.false_eq_true, Bool.true_eq_false, Int.not_lt, Int.not_le, ge_iff_le, gt_iff_lt, Bool.not_eq_eq_eq_not, Bool.true_or, Bool.or_true, Bool.false_or, Bool.or_false, Bool.true_and, Bool.and_true, false_or, or_false, true_and, and_true, Decidable.not_not] at hi
    refine ⟨?_, hs⟩
    rw [take_all (by omega), take_all (by omega)] at h2
    rw [eqHB_iff.2 h2]

theorem c_equalLazy (hx : Read v x z.cells) (hy : Read v y z.pend) (hs : Read v s z'.cells) (ht : Read v t z'.pend) :
    Fn Try.prog 39 #[.agg #[x.val, y.val], .agg #[s.val, t.val]] v (.bool (@decide (z = z') (Classical.propDecidable _))) := by
  refine of39 _ _ _ _ _ _ ?_
  unfold vc39
  refine ⟨_, c_equalHeap hx hs, _, fun _ => c_equalInts hy ht, ?_, .refl v⟩
  congr 1
  obtain ⟨a1, a2⟩ := z
  obtain ⟨b1, b2⟩ := z'
  rw [Bool.eq_iff_iff]
  simp only [Bool.and_eq_true, decide_eq_true_eq, LazyD.mk.injEq, eqHB_iff]

theorem c_implDrop (hC : Cel a [x.val, y.val] I) (hO : Own u x h J) (hP : Own u y pend L) (hS : St u w (I ++ (J ++ (L ++ R)))) (h0 : 0 ≤ k) (h1 : k < h.length) (hc : 0 < (nth h k).count) (hk : k ≤ 1000000000000) (hpl : pend.length < 1099511627776) :
    Trip Try.prog 76 #[.pointer (some (a.add 0)), .int .i64 k] w fun r w' => ∃ y' I' J' L', r = .tuple #[] ∧ Cel a [x.val, y'.val] I' ∧ Own u x (lowerZ ⟨h, pend⟩ k).cells J' ∧ Own u y' (lowerZ ⟨h, pend⟩ k).pend L' ∧ St u w' (I' ++ (J' ++ (L' ++ R))) := by
  refine of76 _ _ _ _ ?_
  unfold vc76
  refine ⟨x, Cel.load hC hS rfl, ?_⟩
  refine go_oix hO h0 h1 ?_
  refine ld_count (hO.src hS) h0 h1 ?_
  intro a0 a1
  refine go_wr (by omega) (by omega) ?_
  refine go_oix hO h0 h1 ?_
  have hin1 : InI ((nth h k).count - 1) := ⟨by omega, by omega⟩
  refine Own.store hO hS h0 h1 (decC (nth h k)) (Nat.le_of_ble_eq_true rfl) (fun r hr => ?_) ?_
  · obtain ⟨f, rfl, c1, c2, c3⟩ := hr
    exact ⟨f, rfl, hin1, c2, c3⟩
  intro w2 J2 hO2 hS
  refine ⟨x, Cel.load hC hS rfl, ?_⟩
  refine go_oix hO2 h0 (by simpa using h1) ?_
  refine ld_count (hO2.src hS) h0 (by simpa using h1) ?_
  rw [nth_set _ _ _ _ h0 h1 h0, if_pos rfl]
  intro _ _
  have hz : (decC (nth h k)).count = (nth h k).count - 1 := rfl
  refine ⟨fun hc => ?_, fun hc => ?_⟩
  · simp only [decide_eq_true_eq, decide_eq_false_iff_not, Bool.and_eq_true, Bool.and_eq_false_iff, Bool.or_eq_true, Bool.or_eq_false_iff, Bool.not_eq_true', Bool.not_eq_false', Bool.not_true, Bool.not_false, Bool.false_eq_true, Bool.true_eq_false, Int.not_lt, Int.not_le, ge_iff_le, gt_iff_lt, Bool.not_eq_eq_eq_not, Bool.true_or, Bool.or_true, Bool.false_or, Bool.or_false, Bool.true_and, Bool.and_true, false_or, or_false, true_and, and_true, Decidable.not_not] at hc
    refine ⟨y, Cel.load hC hS rfl, ?_⟩
    refine St.build (α := Int) hS (by (repeat' (first | exact VsOf.nil | apply VsOf.cons | (apply VOf.int; first | assumption | (constructor <;> first | omega | (simp only [List.length_set, List.length_append, List.length_replicate, List.length_cons, List.length_nil, List.length_take, List.length_drop, List.length_map, List.length_singleton] at *; omega))) | exact VOf.bool | exact VOf.str))) rfl (by decide) ?_
    intro x4 w4 I4 hO4 hS hs
    refine ⟨_, rfl, ?_⟩
    refine Own.append hP hS (hO4.src hS) (by simp; omega) (by decide) ?_
    intro x5 w5 I5 hO5 hS
    refine ⟨_, rfl, ?_⟩
    refine Cel.store hC hS (by simp) ?_
    intro w6 I6 hC hS
    simp [putR] at hC
    refine ⟨x5, I6, J2, I5, rfl, hC, hO2, ?_, hS.to⟩
    unfold lowerZ
    simp only
    rw [if_pos (by omega)]; exact hO5
  · simp only [decide_eq_true_eq, decide_eq_false_iff_not, Bool.and_eq_true, Bool.and_eq_false_iff, Bool.or_eq_true, Bool.or_eq_false_iff, Bool.not_eq_true', Bool.not_eq_false', Bool.not_true, Bool.not_false, Bool.false_eq_true, Bool.true_eq_false, Int.not_lt, Int.not_le, ge_iff_le, gt_iff_lt, Bool.not_eq_eq_eq_not, Bool.true_or, Bool.or_true, Bool.false_or, Bool.or_false, Bool.true_and, Bool.and_true, false_or, or_false, true_and, and_true, Decidable.not_not] at hc
    refine ⟨y, I, J2, L, rfl, hC, hO2, ?_, hS.to⟩
    unfold lowerZ
    simp only
    rw [if_neg (by omega)]; exact hP

theorem c_implLazyDrop (hx : Read v x z.cells) (hy : Read v y z.pend) (hn : InI n) (hl : z.cells.length ≤ 1000000000) :
    Trip Try.prog 27 #[.agg #[x.val, y.val], .int .i64 n] v fun r w => ∃ x' y' u' I J, r = .tuple #[.agg #[x'.val, y'.val], .bool (dropB z n)] ∧ Sub v u' ∧ St u' w (I ++ (J ++ [])) ∧ Own u' x' (dropR z n).cells I ∧ Own u' y' (dropR z n).pend J := by
  refine of27 _ _ _ _ _ ?_
  unfold vc27
  have bad : ¬ dropOk z n → ∀ w I, St v w (I ++ []) → ∃ (x' y' : Sl) (u' : World) (I J : Items), Value.tuple #[.agg #[.slice none 0 0, .slice none 0 0], .bool false] = .tuple #[.agg #[x'.val, y'.val], .bool (dropB z n)] ∧ Sub v u' ∧ St u' w (I ++ (J ++ [])) ∧ Own u' x' (dropR z n).cells I ∧ Own u' y' (dropR z n).pend J :=
    fun hb w I hS => ⟨⟨none, 0, 0⟩, ⟨none, 0, 0⟩, v, [], [], by rw [dropB_f hb]; rfl, .refl v, (hS.to : St v w []), by rw [dropR_f hb]; exact Own.nil v, by rw [dropR_f hb]; exact Own.nil v⟩
  refine Mk.use (c_checkedLazy hx hy) (.refl v) ?_
  rintro _ w1 J1 ⟨t, rfl, hR⟩ hS hsub
  refine ⟨_, _, rfl, _, fun _ => c_wordValid (hx.mono hS.sub) hn, fun hc => bad (fun hd => ?_) w1 J1 hS, fun hc => ?_⟩
  · simp only [decide_eq_true_eq, decide_eq_false_iff_not, Bool.and_eq_true, Bool.and_eq_false_iff, Bool.or_eq_true, Bool.or_eq_false_iff, Bool.not_eq_true', Bool.not_eq_false', Bool.not_true, Bool.not_false, Bool.false_eq_true, Bool.true_eq_false, Int.not_lt, Int.not_le, ge_iff_le, gt_iff_lt, Bool.not_eq_eq_eq_not, Bool.true_or, Bool.or_true, Bool.false_or, Bool.or_false, Bool.true_and, Bool.and_true, false_or, or_false, true_and, and_true, Decidable.not_not] at hc
    rw [vlazyB_iff.2 hd.1, hd.2.1] at hc
    simp at hc
  simp only [decide_eq_true_eq, decide_eq_false_iff_not, Bool.and_eq_true, Bool.and_eq_false_iff, Bool.or_eq_true, Bool.or_eq_false_iff, Bool.not_eq_true', Bool.not_eq_false', Bool.not_true, Bool.not_false, Bool.false_eq_true, Bool.true_eq_false, Int.not_lt, Int.not_le, ge_iff_le, gt_iff_lt, Bool.not_eq_eq_eq_not, Bool.true_or, Bool.or_true, Bool.false_or, Bool.or_false, Bool.true_and, Bool.and_true, false_or, or_false, true_and, and_true, Decidable.not_not] at hc
  have hv := vlazyB_iff.1 hc.1
  have hw := hc.2
  replace hR := hR hv
  have hrl := length_refs (raiseL z.cells z.pend)
  have hrl2 := raiseL_length z.cells z.pend
  refine Trip.mono' (c_cloneLazy (hx.mono hS.sub) (hy.mono hS.sub)) ?_
  rintro _ w2 ⟨c, p, u2, I2, J2, rfl, hu2, hS2, hO, hP⟩
  have hs2 : Sub w1 w2 := hu2.trans hS2.sub
  have hRR : Read w1 t _ := Own.read hR hS
  replace hRR := hRR.mono hu2
  have hxx := (hx.mono hS.sub).mono hu2
  have hvu : Sub v u2 := hS.sub.trans hu2
  clear hR hs2
  replace hS := hS2
  clear hS2
  refine ⟨_, _, rfl, ?_⟩
  refine St.box (vals := [.slice none 0 0, .slice none 0 0]) hS fun a w3 I3 hC hS hs => ?_
  refine Cel.store hC hS (by simp) ?_
  intro w4 I4 hC hS
  simp [putR] at hC
  refine ⟨_, _, c_liveAt (hxx.mono hS.sub) hn, fun hq => ?_, fun hq => ?_⟩
  · obtain ⟨l1, l2, l3⟩ := live_iff.1 hq
    have hat : atI n = n - 1000 := atI_of l1 hn.2
    rw [hat]
    refine go_ix hxx (by omega) l2 ?_
    refine ld_count (hxx.src hS.sub) (by omega) l2 ?_
    intro a0 a1
    refine go_ix hRR (by omega) (by omega) ?_
    refine ld_int (hRR.mono hS.sub) (by omega) (by omega) ?_
    intro b0 b1
    refine ⟨fun hc => ?_, fun hc => ?_⟩
    · simp only [decide_eq_true_eq, decide_eq_false_iff_not, Bool.and_eq_true, Bool.and_eq_false_iff, Bool.or_eq_true, Bool.or_eq_false_iff, Bool.not_eq_true', Bool.not_eq_false', Bool.not_true, Bool.not_false, Bool.false_eq_true, Bool.true_eq_false, Int.not_lt, Int.not_le, ge_iff_le, gt_iff_lt, Bool.not_eq_eq_eq_not, Bool.true_or, Bool.or_true, Bool.false_or, Bool.or_false, Bool.true_and, Bool.and_true, false_or, or_false, true_and, and_true, Decidable.not_not] at hc
      have hnd : ¬ dropOk z n := fun hd => hd.2.2 l1 hc
      exact ⟨⟨none, 0, 0⟩, ⟨none, 0, 0⟩, u2, [], [], by rw [dropB_f hnd]; rfl, hvu, (hS.to : St u2 w4 []), by rw [dropR_f hnd]; exact Own.nil u2, by rw [dropR_f hnd]; exact Own.nil u2⟩
    · simp only [decide_eq_true_eq, decide_eq_false_iff_not, Bool.and_eq_true, Bool.and_eq_false_iff, Bool.or_eq_true, Bool.or_eq_false_iff, Bool.not_eq_true', Bool.not_eq_false', Bool.not_true, Bool.not_false, Bool.false_eq_true, Bool.true_eq_false, Int.not_lt, Int.not_le, ge_iff_le, gt_iff_lt, Bool.not_eq_eq_eq_not, Bool.true_or, Bool.or_true, Bool.false_or, Bool.or_false, Bool.true_and, Bool.and_true, false_or, or_false, true_and, and_true, Decidable.not_not] at hc
      have hd : dropOk z n := ⟨hv, hw, fun _ => hc⟩
      have hpl := pend_len' (vlazy_iff.1 hv).1
      refine Trip.mono' (c_implDrop hC hO hP hS (by omega) l2 l3 (by omega) (by omega)) ?_
      rintro _ w5 ⟨y5, I5, J5, L5, rfl, hC, hO, hP, hS⟩
      refine ⟨rfl, c, y5, ⟨Cel.load hC hS rfl, Cel.load hC hS rfl⟩, c, y5, u2, J5, L5, by rw [dropB_iff.2 hd], hvu, hS.to, ?_, ?_⟩
      · rw [dropR_t hd, dropZ, if_pos l1]; exact hO
      · rw [dropR_t hd, dropZ, if_pos l1]; exact hP
  · have hnp : ¬ 1000 ≤ n := fun hp => by
      have := word_ptr hw hp
      rw [this] at hq; cases hq
    have hd : dropOk z n := ⟨hv, hw, fun h => absurd h hnp⟩
    refine ⟨c, p, ⟨Cel.load hC hS rfl, Cel.load hC hS rfl⟩, c, p, u2, I2, J2, by rw [dropB_iff.2 hd], hvu, hS.to, ?_, ?_⟩
    · rw [dropR_t hd, dropZ, if_neg hnp]; exact hO
    · rw [dropR_t hd, dropZ, if_neg hnp]; exact hP
end

theorem drop_pre {z : LazyD} {n : Int} : z.pend <+: (dropZ z n).pend := by
  unfold dropZ lowerZ
  split
  · simp only
    split
    · exact List.prefix_append _ _
    · exact List.prefix_refl _
  · exact List.prefix_refl _
theorem drop_plen {z : LazyD} {n : Int} : (dropZ z n).pend.length ≤ z.pend.length + 1 := by
  unfold dropZ lowerZ
  split
  · simp only
    split <;> simp
  · omega
theorem drop_nth {z : LazyD} {n i : Int} (hd : dropOk z n) (h0 : 0 ≤ i) (h1 : i < z.cells.length) (hn : n ≠ 1000 + i) : nth (dropZ z n).cells i = nth z.cells i := by
  unfold dropZ
  split
  · rename_i hp
    obtain ⟨_, l2, l3⟩ := live_iff.1 (word_ptr hd.2.1 hp)
    unfold lowerZ
    rw [nth_set _ _ _ _ (by omega) l2 h0, if_neg (by omega)]
  · rfl

theorem l_LazyDropCheap : LawTrue Try.prog 8 := by
  intro v x0 bs hb
  refine of8 _ _ _ ?_
  unfold vc8
  refine ⟨fun hc => ⟨rfl, .refl v⟩, fun hc => ?_⟩
  simp only [decide_eq_true_eq, decide_eq_false_iff_not, Bool.and_eq_true, Bool.and_eq_false_iff, Bool.or_eq_true, Bool.or_eq_false_iff, Bool.not_eq_true', Bool.not_eq_false', Bool.not_true, Bool.not_false, Bool.false_eq_true, Bool.true_eq_false, Int.not_lt, Int.not_le, ge_iff_le, gt_iff_lt, Bool.not_eq_eq_eq_not, Bool.true_or, Bool.or_true, Bool.false_or, Bool.or_false, Bool.true_and, Bool.and_true, false_or, or_false, true_and, and_true, Decidable.not_not] at hc
  have hcode := hb.read (by omega)
  refine Mk.use (c_DrawLazyDrop hcode) (.refl v) ?_
  rintro _ w1 _ ⟨x, y, z, n, J1, J2, rfl, hO, hP, hn, hzl, hpl, rfl⟩ hS hsub
  refine ⟨_, _, _, rfl, ?_⟩
  obtain ⟨u, hvu, hS, hJ⟩ := hS.freeze (J1 ++ J2)
  have hx : Read u x z.cells := hO.read1 hJ.left
  have hy : Read u y z.pend := Own.read1 (u := v) hP hJ.right
  clear hO hP hJ
  have hxn := hx.n
  have hyn := hy.n
  refine Trip.fr (c_implLazyDrop hx hy hn (by omega)) hS ?_
  rintro _ u1 w2 ⟨x8, y8, u2, I, J, rfl, huu, hSt, hO, hP⟩ hS2 _
  replace hS := hSt.glue hS2
  obtain ⟨u3, hu3, hS, hJ⟩ := hS.freeze (I ++ (J ++ []))
  have hx8 : Read u3 x8 _ := Own.read hO hJ
  have hy8 : Read u3 y8 _ := Own.read hP hJ
  have hu : Sub u u3 := huu.trans hu3
  replace hx := hx.mono hu
  replace hy := hy.mono hu
  clear hO hP hJ hSt hS2
  refine ⟨_, _, _, rfl, ?_⟩
  refine Mk.use (c_specLazyDrop hx hy hn (by omega)) hS ?_
  rintro _ w3 _ ⟨x13, y13, J3, J4, rfl, hO, hP, rfl⟩ hS hsub
  obtain ⟨u4, hu4, hS, hJ⟩ := hS.freeze (J3 ++ J4)
  have hx13 : Read u4 x13 _ := hO.read1 hJ.left
  have hy13 : Read u4 y13 _ := Own.read1 (u := u3) hP hJ.right
  clear hO hP hJ
  replace hx := hx.mono hu4
  replace hy := hy.mono hu4
  replace hx8 := hx8.mono hu4
  replace hy8 := hy8.mono hu4
  have hv4 : Sub v u4 := hvu.trans (hu.trans hu4)
  refine ⟨_, _, _, rfl, _, c_equalLazy (hx8.mono hS.sub) (hy8.mono hS.sub) (hx13.mono hS.sub) (hy13.mono hS.sub), fun hc => ?_, fun hc => ?_⟩
  · exact ⟨_, c_equalLazy (hx8.mono hS.sub) (hy8.mono hS.sub) (hx13.mono hS.sub) (hy13.mono hS.sub), by simp, hv4.trans hS.sub⟩
  simp at hc
  have hd := dropB_iff.1 hc
  rw [dropR_t hd] at hx8 hy8
  have h8n := hx8.n
  have hy8n := hy8.n
  have hdl := dropZ_len z n
  have hdp := drop_plen (z := z) (n := n)
  refine ⟨_, fun _ => c_isPrefix (hy.mono hS.sub) (hy8.mono hS.sub), (y.n : Int) + 1, fun _ => wrap_i64 (by omega) (by omega), fun hc => ?_, fun hc => ?_⟩
  · simp only [decide_eq_true_eq, decide_eq_false_iff_not, Bool.and_eq_true, Bool.and_eq_false_iff, Bool.or_eq_true, Bool.or_eq_false_iff, Bool.not_eq_true', Bool.not_eq_false', Bool.not_true, Bool.not_false, Bool.false_eq_true, Bool.true_eq_false, Int.not_lt, Int.not_le, ge_iff_le, gt_iff_lt, Bool.not_eq_eq_eq_not, Bool.true_or, Bool.or_true, Bool.false_or, Bool.or_false, Bool.true_and, Bool.and_true, false_or, or_false, true_and, and_true, Decidable.not_not] at hc
    rcases hc with (hc | hc) | hc
    · omega
    · exact absurd drop_pre hc
    · omega
  clear hc
  refine ⟨fun i w => St u4 w [] ∧ 0 ≤ i ∧ i ≤ z.cells.length, fun i _ => (z.cells.length - i).toNat, ⟨hS, by omega, by omega⟩, ?_⟩
  clear hS
  rintro i w ⟨hS, h0, h1⟩
  dsimp only
  refine ⟨fun hi => ?_, fun hi => ⟨rfl, hv4.trans hS.sub⟩⟩
  simp only [decide_eq_true_eq, decide_eq_false_iff_not, Bool.and_eq_true, Bool.and_eq_false_iff, Bool.or_eq_true, Bool.or_eq_false_iff, Bool.not_eq_true', Bool.not_eq_false', Bool.not_true, Bool.not_false, Bool.false_eq_true, Bool.true_eq_false, Int.not_lt, Int.not_le, ge_iff_le, gt_iff_lt, Bool.not_eq_eq_eq_not, Bool.true_or, Bool.or_true, Bool.false_or, Bool.or_false, Bool.true_and, Bool.and_true, false_or, or_false, true_and, and_true, Decidable.not_not] at hi
  refine go_wr (by omega) (by omega) ?_
  refine ⟨fun _ => hx8.ix h0 (by omega), ?_⟩
  obtain ⟨f, a1, a2, a3, a4, a5, a6⟩ := (hx8.src hS.sub).cell (i := i) h0 (by omega)
  refine ⟨_, _, f, fun _ => ⟨a1, a2, a3⟩, fun _ => hx.ix h0 (by omega), ?_⟩
  obtain ⟨f2, b1, b2, b3, b4, b5, b6⟩ := (hx.src hS.sub).cell (i := i) h0 (by omega)
  refine ⟨_, _, f2, fun _ => ⟨b1, b2, b3⟩, _, fun _ => c_equalCell (c := nth (dropZ z n).cells i) (d := nth z.cells i) (a6.mono hS.sub) (b6.mono hS.sub), fun hq => ?_, fun hq => ?_⟩
  · simp only [decide_eq_true_eq, decide_eq_false_iff_not, Bool.and_eq_true, Bool.and_eq_false_iff, Bool.or_eq_true, Bool.or_eq_false_iff, Bool.not_eq_true', Bool.not_eq_false', Bool.not_true, Bool.not_false, Bool.false_eq_true, Bool.true_eq_false, Int.not_lt, Int.not_le, ge_iff_le, gt_iff_lt, Bool.not_eq_eq_eq_not, Bool.true_or, Bool.or_true, Bool.false_or, Bool.or_false, Bool.true_and, Bool.and_true, false_or, or_false, true_and, and_true, Decidable.not_not] at hq
    exact absurd (drop_nth hd h0 (by omega) hq.1) hq.2
  · refine go_wr (by omega) (by omega) ?_
    exact ⟨rfl, rfl, rfl, rfl, rfl, rfl, ⟨hS, by omega, by omega⟩, by omega⟩
end Go.Vc
