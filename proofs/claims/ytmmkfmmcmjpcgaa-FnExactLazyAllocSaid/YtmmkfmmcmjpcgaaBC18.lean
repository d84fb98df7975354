/- Part of the proofs about the heaps: a law is joined in the text whose name ends in W and the law. -/
import Derived.Test.YtmmkfmmcmjpcgaaBC17
namespace Go.Vc
open Go Go.Proofs Go.RowKit
set_option linter.all false

def stlOk (z : LazyD) (m : Int) : Prop := vlazy z ∧ 0 ≤ m ∧ m ≤ 100000
noncomputable def stlB (z : LazyD) (m : Int) : Bool := @decide (stlOk z m) (Classical.propDecidable _)
theorem stlB_iff {z : LazyD} {n : Int} : stlB z n = true ↔ stlOk z n := by unfold stlB; exact @decide_eq_true_iff _ (Classical.propDecidable _)
noncomputable def stlR (z : LazyD) (m : Int) : LazyD := bif stlB z m then settleL m.toNat z else ⟨[], []⟩
theorem stlR_t {z : LazyD} {n : Int} (h : stlOk z n) : stlR z n = settleL n.toNat z := by unfold stlR; rw [stlB_iff.2 h]; rfl
theorem stlB_f {z : LazyD} {n : Int} (h : ¬ stlOk z n) : stlB z n = false := Bool.eq_false_iff.2 fun e => h (stlB_iff.1 e)
theorem stlR_f {z : LazyD} {n : Int} (h : ¬ stlOk z n) : stlR z n = ⟨[], []⟩ := by unfold stlR; rw [stlB_f h]; rfl
/-- the settled heap -/
noncomputable def shR (z : LazyD) : List CellD := bif vlazyB z then (settleL z.cells.length z).cells else []
theorem shR_t {z : LazyD} (h : vlazy z) : shR z = (settleL z.cells.length z).cells := by unfold shR; rw [vlazyB_iff.2 h]; rfl
theorem vlazyB_f {z : LazyD} (h : ¬ vlazy z) : vlazyB z = false := Bool.eq_false_iff.2 fun e => h (vlazyB_iff.1 e)
theorem shR_f {z : LazyD} (h : ¬ vlazy z) : shR z = [] := by unfold shR; rw [vlazyB_f h]; rfl

theorem settle_zero {z : LazyD} (h : vlazy z) : settleL 0 z = z := trim_of_last (vlazy_iff.1 h).2
theorem settle_nil {z : LazyD} (h : vlazy z) (hp : z.pend = []) (n : Nat) : settleL n z = z := by
  unfold settleL
  rw [settleN_nil hp]
  exact trim_of_last (vlazy_iff.1 h).2
theorem settle_done {z : LazyD} (L : LZ z.cells z.pend []) {m n : Nat} (hp : (settleL m z).pend = []) : settleL (m + n) z = settleL m z := by
  rw [← settle_again L m n]
  exact settle_nil (settle_valid L m) hp n
theorem settle_full {z : LazyD} (L : LZ z.cells z.pend []) {m : Nat} (hp : (settleL m z).pend = []) : settleL m z = settleL z.cells.length z := by
  have h1 := settle_done L (n := z.cells.length) hp
  have h2 := settle_done L (m := z.cells.length) (n := m) (settle_all L (nf_le L)).2
  rw [← h1, Nat.add_comm, h2]

section
variable {u v w : World} {x y xf s t : Sl} {l ws fs pend : List Int} {h g : List CellD} {z z' : LazyD} {m n k f : Int} {a : Addr} {I J K L R R1 : Items} {F F1 : Items → Items}

theorem c_Settle (hx : Read v x z.cells) (hy : Read v y z.pend) (hl : z.cells.length ≤ 1000000000) :
    Mk Try.prog 36 #[.agg #[x.val, y.val], .int .i64 m] v fun r J => ∃ x' y' : Sl, ∃ J1 J2, r = .tuple #[.agg #[x'.val, y'.val], .bool (stlB z m)] ∧ OwnD x' (stlR z m).cells J1 ∧ Own v y' (stlR z m).pend J2 ∧ J = J1 ++ J2 := by
  refine of36 _ _ _ _ _ ?_
  unfold vc36
  refine ⟨_, c_validLazy hx hy, _, fun _ => c_inRange, fun hc => ?_, fun hc => ?_⟩
  · have hb : ¬ stlOk z m := fun hd => by
      rw [vlazyB_iff.2 hd.1] at hc
      have := hd.2
      simp at hc
      omega
    exact ⟨[], .refl v, ⟨none, 0, 0⟩, ⟨none, 0, 0⟩, [], [], by rw [stlB_f hb]; rfl, by rw [stlR_f hb]; exact OwnD.nil, by rw [stlR_f hb]; exact Own.nil v, rfl⟩
  simp only [decide_eq_true_eq, decide_eq_false_iff_not, Bool.and_eq_true, Bool.and_eq_false_iff, Bool.or_eq_true, Bool.or_eq_false_iff, Bool.not_eq_true', Bool.not_eq_false', Bool.not_true, Bool.not_false, Bool.false_eq_true, Bool.true_eq_false, Int.not_lt, Int.not_le, ge_iff_le, gt_iff_lt, Bool.not_eq_eq_eq_not, Bool.true_or, Bool.or_true, Bool.false_or, Bool.or_false, Bool.true_and, Bool.and_true, false_or, or_false, true_and, and_true, Decidable.not_not] at hc
  have hd : stlOk z m := ⟨vlazyB_iff.1 hc.1, hc.2.1, hc.2.2⟩
  have h0 := hd.2.1
  have h1 := hd.2.2
  refine Mk.use (c_copyLazy hx hy) (.refl v) ?_
  rintro _ w1 _ ⟨t, s, J1, J2, rfl, hO, hP, rfl⟩ hS hsub
  replace hS : St v w1 (J1 ++ (J2 ++ [])) := hS.perm (by simp)
  refine ⟨_, _, rfl, ?_⟩
  refine Trip.mono' (c_specSettle (m := m) hO hP hS (vlazy_iff.1 hd.1).1 h0 (by omega) hl) ?_
  rintro _ w7 ⟨x7, y7, J7, K7, rfl, hO7, hP7, hS⟩
  exact ⟨_, _, rfl, J7 ++ K7, hS.perm (by simp), x7, y7, J7, K7, by rw [stlB_iff.2 hd], by rw [stlR_t hd]; exact hO7, by rw [stlR_t hd]; exact hP7, rfl⟩

theorem c_implSettleT (hx : Read v x z.cells) (hy : Read v y z.pend) (hl : z.cells.length ≤ 1000000000) :
    Trip Try.prog 37 #[.agg #[x.val, y.val], .int .i64 m] v fun r w => ∃ x' y' u' I J, r = .tuple #[.agg #[x'.val, y'.val], .bool (stlB z m)] ∧ Sub v u' ∧ St u' w (I ++ (J ++ [])) ∧ Own u' x' (stlR z m).cells I ∧ Own u' y' (stlR z m).pend J := by
  refine of37 _ _ _ _ _ ?_
  unfold vc37
  refine ⟨_, c_validLazyI hx hy, fun hc => ?_, fun hc => ?_⟩
  · have hb : ¬ stlOk z m := fun hd => by
      rw [vlazyB_iff.2 hd.1] at hc
      have := hd.2
      simp at hc
      omega
    exact ⟨⟨none, 0, 0⟩, ⟨none, 0, 0⟩, v, [], [], by rw [stlB_f hb]; rfl, .refl v, .refl v, by rw [stlR_f hb]; exact Own.nil v, by rw [stlR_f hb]; exact Own.nil v⟩
  simp only [decide_eq_true_eq, decide_eq_false_iff_not, Bool.and_eq_true, Bool.and_eq_false_iff, Bool.or_eq_true, Bool.or_eq_false_iff, Bool.not_eq_true', Bool.not_eq_false', Bool.not_true, Bool.not_false, Bool.false_eq_true, Bool.true_eq_false, Int.not_lt, Int.not_le, ge_iff_le, gt_iff_lt, Bool.not_eq_eq_eq_not, Bool.true_or, Bool.or_true, Bool.false_or, Bool.or_false, Bool.true_and, Bool.and_true, false_or, or_false, true_and, and_true, Decidable.not_not] at hc
  have hd : stlOk z m := ⟨vlazyB_iff.1 hc.1.1, hc.1.2, hc.2⟩
  have h0 := hd.2.1
  have h1 := hd.2.2
  refine Trip.mono' (c_cloneLazy hx hy) ?_
  rintro _ w2 ⟨c, p, u2, I2, J2, rfl, hu2, hS, hO, hP⟩
  refine ⟨_, _, rfl, ?_⟩
  refine St.box (vals := [.slice none 0 0, .slice none 0 0]) hS fun a w3 I3 hC hS hs => ?_
  refine Cel.store hC hS (by simp) ?_
  intro w4 I4 hC hS
  simp [putR] at hC
  refine Trip.mono' (c_implSettle (m := m) hC hO hP hS (vlazy_iff.1 hd.1).1 h0 (by omega) hl) ?_
  rintro _ w5 ⟨x5, y5, I5, J5, K5, rfl, hC, hO, hP, hS⟩
  exact ⟨rfl, x5, y5, ⟨Cel.load hC hS rfl, Cel.load hC hS rfl⟩, x5, y5, u2, J5, K5, by rw [stlB_iff.2 hd], hu2, hS.to, by rw [stlR_t hd]; exact hO, by rw [stlR_t hd]; exact hP⟩

theorem c_SettledHeap (hx : Read v x z.cells) (hy : Read v y z.pend) (hl : z.cells.length ≤ 1000000000) :
    Mk Try.prog 31 #[.agg #[x.val, y.val]] v fun r J => ∃ x' : Sl, r = .tuple #[x'.val, .bool (vlazyB z)] ∧ OwnD x' (shR z) J := by
  refine of31 _ _ _ _ ?_
  unfold vc31
  have hxn := hx.n
  refine ⟨_, c_validLazy hx hy, fun hc => ?_, fun hc => ?_⟩
  · have hb : ¬ vlazy z := fun hd => by rw [vlazyB_iff.2 hd] at hc; cases hc
    exact ⟨[], .refl v, ⟨none, 0, 0⟩, by rw [vlazyB_f hb]; rfl, by rw [shR_f hb]; exact OwnD.nil⟩
  simp only [decide_eq_true_eq, decide_eq_false_iff_not, Bool.and_eq_true, Bool.and_eq_false_iff, Bool.or_eq_true, Bool.or_eq_false_iff, Bool.not_eq_true', Bool.not_eq_false', Bool.not_true, Bool.not_false, Bool.false_eq_true, Bool.true_eq_false, Int.not_lt, Int.not_le, ge_iff_le, gt_iff_lt, Bool.not_eq_eq_eq_not, Bool.true_or, Bool.or_true, Bool.false_or, Bool.or_false, Bool.true_and, Bool.and_true, false_or, or_false, true_and, and_true, Decidable.not_not] at hc
  have hd := vlazyB_iff.1 hc
  refine Mk.use (c_copyLazy hx hy) (.refl v) ?_
  rintro _ w1 _ ⟨t, s, J1, J2, rfl, hO, hP, rfl⟩ hS hsub
  replace hS : St v w1 (J1 ++ (J2 ++ [])) := hS.perm (by simp)
  refine ⟨_, _, rfl, hsub, ?_⟩
  refine Trip.mono' (c_specSettle (m := x.n) hO hP hS (vlazy_iff.1 hd).1 (by omega) (by omega) hl) ?_
  rintro _ w7 ⟨x7, y7, J7, K7, rfl, hO7, hP7, hS⟩
  rw [show (x.n : Int).toNat = z.cells.length from by omega] at hO7
  exact ⟨_, _, rfl, J7, hS.left, x7, by rw [vlazyB_iff.2 hd], by rw [shR_t hd]; exact hO7⟩

theorem c_implSettledHeap (hx : Read v x z.cells) (hy : Read v y z.pend) (hl : z.cells.length ≤ 1000000000) :
    Trip Try.prog 32 #[.agg #[x.val, y.val]] v fun r w => ∃ x' u' I, r = .tuple #[x'.val, .bool (vlazyB z)] ∧ Sub v u' ∧ St u' w (I ++ []) ∧ Own u' x' (shR z) I := by
  refine of32 _ _ _ _ ?_
  unfold vc32
  refine ⟨_, c_validLazyI hx hy, fun hc => ?_, fun hc => ?_⟩
  · have hb : ¬ vlazy z := fun hd => by rw [vlazyB_iff.2 hd] at hc; cases hc
    exact ⟨⟨none, 0, 0⟩, v, [], by rw [vlazyB_f hb]; rfl, .refl v, .refl v, by rw [shR_f hb]; exact Own.nil v⟩
  simp only [decide_eq_true_eq, decide_eq_false_iff_not, Bool.and_eq_true, Bool.and_eq_false_iff, Bool.or_eq_true, Bool.or_eq_false_iff, Bool.not_eq_true', Bool.not_eq_false', Bool.not_true, Bool.not_false, Bool.false_eq_true, Bool.true_eq_false, Int.not_lt, Int.not_le, ge_iff_le, gt_iff_lt, Bool.not_eq_eq_eq_not, Bool.true_or, Bool.or_true, Bool.false_or, Bool.or_false, Bool.true_and, Bool.and_true, false_or, or_false, true_and, and_true, Decidable.not_not] at hc
  have hd := vlazyB_iff.1 hc
  have hL := (vlazy_iff.1 hd).1
  refine Trip.mono' (c_cloneLazy hx hy) ?_
  rintro _ w2 ⟨c, p, u2, I2, J2, rfl, hu2, hS, hO, hP⟩
  refine ⟨_, _, rfl, ?_⟩
  refine St.box (vals := [.slice none 0 0, .slice none 0 0]) hS fun a w3 I3 hC hS hs => ?_
  refine Cel.store hC hS (by simp) ?_
  intro w4 I4 hC hS
  simp [putR] at hC
  let Inv : Nat → World → Prop := fun n w => ∃ (k : Nat) (x y : Sl) (I J K : Items), n = nf z - 100000 * k ∧ Cel a [x.val, y.val] I ∧ Own u2 x (settleL (100000 * k) z).cells J ∧ Own u2 y (settleL (100000 * k) z).pend K ∧ St u2 w (I ++ (J ++ (K ++ [])))
  refine ⟨fun w => ∃ n, Inv n w, fun w => leastM fun n => Inv n w, ⟨_, 0, c, p, I4, I2, J2, rfl, hC, by rw [Nat.mul_zero, settle_zero hd]; exact hO, by rw [Nat.mul_zero, settle_zero hd]; exact hP, hS⟩, ?_⟩
  clear hC hO hP hS
  intro w hI
  replace hI := leastM_spec hI
  dsimp only
  generalize leastM (fun n => Inv n w) = n at *
  obtain ⟨k, x, y, I, J, K, hn, hC, hO, hP, hS⟩ := hI
  have hyn := hP.n
  refine ⟨y, Cel.load hC hS rfl, fun hc => ?_, fun hc => ?_⟩
  · simp only [decide_eq_true_eq, decide_eq_false_iff_not, Bool.and_eq_true, Bool.and_eq_false_iff, Bool.or_eq_true, Bool.or_eq_false_iff, Bool.not_eq_true', Bool.not_eq_false', Bool.not_true, Bool.not_false, Bool.false_eq_true, Bool.true_eq_false, Int.not_lt, Int.not_le, ge_iff_le, gt_iff_lt, Bool.not_eq_eq_eq_not, Bool.true_or, Bool.or_true, Bool.false_or, Bool.or_false, Bool.true_and, Bool.and_true, false_or, or_false, true_and, and_true, Decidable.not_not] at hc
    have hlt : 100000 * k < nf z := by
      rcases Nat.lt_or_ge (100000 * k) (nf z) with h | h
      · exact h
      · have := (settle_all hL h).2
        rw [this] at hyn; simp at hyn; omega
    have L2 := (vlazy_iff.1 (settle_valid hL (100000 * k))).1
    have hle : (settleL (100000 * k) z).cells.length ≤ z.cells.length := (settleL_len (100000 * k) (.inr hd)).1
    refine Trip.mono' (c_implSettle (m := 100000) hC hO hP hS L2 (by omega) (by omega) (by omega)) ?_
    rintro _ w5 ⟨x5, y5, I5, J5, K5, rfl, hC, hO, hP, hS⟩
    have hag : settleL (100000 : Int).toNat (settleL (100000 * k) z) = settleL (100000 * (k + 1)) z := by rw [settle_again hL, Nat.mul_add]; rfl
    rw [hag] at hO hP
    exact ⟨rfl, rfl, rfl, loopEnd (k := nf z - 100000 * (k + 1)) ⟨k + 1, x5, y5, I5, J5, K5, rfl, hC, hO, hP, hS⟩ (by omega)⟩
  · simp only [decide_eq_true_eq, decide_eq_false_iff_not, Bool.and_eq_true, Bool.and_eq_false_iff, Bool.or_eq_true, Bool.or_eq_false_iff, Bool.not_eq_true', Bool.not_eq_false', Bool.not_true, Bool.not_false, Bool.false_eq_true, Bool.true_eq_false, Int.not_lt, Int.not_le, ge_iff_le, gt_iff_lt, Bool.not_eq_eq_eq_not, Bool.true_or, Bool.or_true, Bool.false_or, Bool.or_false, Bool.true_and, Bool.and_true, false_or, or_false, true_and, and_true, Decidable.not_not] at hc
    have hp : (settleL (100000 * k) z).pend = [] := List.eq_nil_of_length_eq_zero (by omega)
    rw [settle_full hL hp] at hO
    exact ⟨x, Cel.load hC hS rfl, x, u2, J, by rw [vlazyB_iff.2 hd], hu2, hS.to, by rw [shR_t hd]; exact hO⟩

theorem c_liveIn (hx : Read v x h) : Mk Try.prog 45 #[x.val] v fun r J => ∃ y l, r = y.val ∧ Own v y l J ∧ l.length = nlive h ∧ ∀ k : Int, k ∈ l ↔ 0 ≤ k ∧ k < h.length ∧ 0 < (nth h k).count := by
  refine of45 _ _ _ ?_
  unfold vc45
  have hn := hx.n
  have hl := hx.le
  refine St.build (α := Int) (.refl v) (by (repeat' (first | exact VsOf.nil | apply VsOf.cons | (apply VOf.int; first | assumption | (constructor <;> first | omega | (simp only [List.length_set, List.length_append, List.length_replicate, List.length_cons, List.length_nil, List.length_take, List.length_drop, List.length_map, List.length_singleton] at *; omega))) | exact VOf.bool | exact VOf.str))) rfl (by decide) ?_
  intro y w1 I1 hO hS hs
  refine ⟨_, rfl, ?_⟩
  refine ⟨fun y i w => ∃ (l : List Int) (I : Items), Own v y l I ∧ St v w (I ++ []) ∧ 0 ≤ i ∧ i ≤ h.length ∧ l.length = nlive (h.take i.toNat) ∧ l.length ≤ i ∧ ∀ k : Int, k ∈ l ↔ 0 ≤ k ∧ k < i ∧ 0 < (nth h k).count,
    fun _ i _ => (h.length - i).toNat, ⟨[], I1, hO, hS, by omega, by omega, by simp [nlive], by simp, fun k => ⟨fun h => (by cases h), fun h => by omega⟩⟩, ?_⟩
  clear hO hS
  rintro y i w ⟨l, I, hO, hS, h0, h1, h2, h3, h4⟩
  dsimp only
  refine ⟨fun hi => ?_, fun hi => ?_⟩
  · simp only [decide_eq_true_eq, decide_eq_false_iff_not, Bool.and_eq_true, Bool.and_eq_false_iff, Bool.or_eq_true, Bool.or_eq_false_iff, Bool.not_eq_true', Bool.not_eq_false', Bool.not_true, Bool.not_false, Bool.false_eq_true, Bool.true_eq_false, Int.not_lt, Int.not_le, ge_iff_le, gt_iff_lt, Bool.not_eq_eq_eq_not, Bool.true_or, Bool.or_true, Bool.false_or, Bool.or_false, Bool.true_and, Bool.and_true, false_or, or_false, true_and, and_true, Decidable.not_not] at hi
    have htk := take_nth (l := h) h0 (by omega)
    refine go_ix hx h0 (by omega) ?_
    refine ld_count (hx.src hS.sub) h0 (by omega) ?_
    intro a0 a1
    refine ⟨fun hc => ?_, fun hc => ?_⟩
    · simp only [decide_eq_true_eq, decide_eq_false_iff_not, Bool.and_eq_true, Bool.and_eq_false_iff, Bool.or_eq_true, Bool.or_eq_false_iff, Bool.not_eq_true', Bool.not_eq_false', Bool.not_true, Bool.not_false, Bool.false_eq_true, Bool.true_eq_false, Int.not_lt, Int.not_le, ge_iff_le, gt_iff_lt, Bool.not_eq_eq_eq_not, Bool.true_or, Bool.or_true, Bool.false_or, Bool.or_false, Bool.true_and, Bool.and_true, false_or, or_false, true_and, and_true, Decidable.not_not] at hc
      refine St.build (α := Int) hS (by (repeat' (first | exact VsOf.nil | apply VsOf.cons | (apply VOf.int; first | assumption | (constructor <;> first | omega | (simp only [List.length_set, List.length_append, List.length_replicate, List.length_cons, List.length_nil, List.length_take, List.length_drop, List.length_map, List.length_singleton] at *; omega))) | exact VOf.bool | exact VOf.str))) rfl (by decide) ?_
      intro x4 w4 I4 hO4 hS hs
      refine ⟨_, rfl, ?_⟩
      refine Own.append hO hS (hO4.src hS) (by simp; omega) (by decide) ?_
      intro x5 w5 I5 hO5 hS
      refine ⟨_, rfl, ?_⟩
      refine go_wr (by omega) (by omega) ?_
      refine ⟨⟨_, I5, hO5, hS.to, by omega, by omega, ?_, by simp; omega, fun k => ?_⟩, by omega⟩
      · rw [htk]; simp only [nlive, List.countP_append, List.length_append, List.length_singleton] at h2 ⊢
        rw [h2]; simp [hc]
      · rw [List.mem_append, h4 k, List.mem_singleton]
        constructor
        · rintro (h | rfl)
          · exact ⟨h.1, by omega, h.2.2⟩
          · exact ⟨h0, by omega, hc⟩
        · rintro ⟨g0, g1, g2⟩
          rcases Int.lt_or_le k i with hlt | hge
          · exact .inl ⟨g0, hlt, g2⟩
          · exact .inr (by omega)
    · simp only [decide_eq_true_eq, decide_eq_false_iff_not, Bool.and_eq_true, Bool.and_eq_false_iff, Bool.or_eq_true, Bool.or_eq_false_iff, Bool.not_eq_true', Bool.not_eq_false', Bool.not_true, Bool.not_false, Bool.false_eq_true, Bool.true_eq_false, Int.not_lt, Int.not_le, ge_iff_le, gt_iff_lt, Bool.not_eq_eq_eq_not, Bool.true_or, Bool.or_true, Bool.false_or, Bool.or_false, Bool.true_and, Bool.and_true, false_or, or_false, true_and, and_true, Decidable.not_not] at hc
      refine go_wr (by omega) (by omega) ?_
      refine ⟨⟨l, I, hO, hS, by omega, by omega, ?_, by omega, fun k => ?_⟩, by omega⟩
      · rw [htk]; simp only [nlive, List.countP_append] at h2 ⊢
        rw [h2]; simp; omega
      · rw [h4 k]
        constructor
        · rintro ⟨g0, g1, g2⟩; exact ⟨g0, by omega, g2⟩
        · rintro ⟨g0, g1, g2⟩
          refine ⟨g0, ?_, g2⟩
          rcases Int.lt_or_le k i with hlt | hge
          · exact hlt
          · have : k = i := by omega
            rw [this] at g2; omega
  · simp only [decide_eq_true_eq, decide_eq_false_iff_not, Bool.and_eq_true, Bool.and_eq_false_iff, Bool.or_eq_true, Bool.or_eq_false_iff, Bool.not_eq_true', Bool.not_eq_false', Bool.not_true, Bool.not_false, Bool.false_eq_true, Bool.true_eq_false, Int.not_lt, Int.not_le, ge_iff_le, gt_iff_lt, Bool.not_eq_eq_eq_not, Bool.true_or, Bool.or_true, Bool.false_or, Bool.or_false, Bool.true_and, Bool.and_true, false_or, or_false, true_and, and_true, Decidable.not_not] at hi
    rw [take_all (by omega)] at h2
    exact ⟨I, by simpa using hS, y, l, rfl, hO, h2, fun k => by rw [h4 k, show i = (h.length : Int) from by omega]⟩

theorem c_DrawSettle {code : List UInt8} (hx : Read v x code) : Mk Try.prog 42 #[x.val] v fun r J => ∃ y t, ∃ (z : LazyD) (n : Int), ∃ J1 J2, r = .tuple #[.agg #[y.val, t.val], .int .i64 n] ∧ OwnD y z.cells J1 ∧ Own v t z.pend J2 ∧ -1 ≤ n ∧ n ≤ 100001 ∧ z.cells.length ≤ 60 ∧ z.pend.length ≤ 61 ∧ J = J1 ++ J2 := by
  refine of42 _ _ _ ?_
  unfold vc42
  refine Mk.use (c_newReader hx) (.refl v) ?_
  rintro _ w1 J1 ⟨a, rfl, hR⟩ hS hsub
  refine ⟨_, rfl, ?_⟩
  refine Trip.mono' (c_anyLazy hR hS (by omega)) ?_
  rintro _ w2 ⟨x, y, z, J, K, I, rfl, hO, hP, hR, hS, hzl, hpl⟩
  refine ⟨_, _, rfl, ?_⟩
  refine St.build (α := Int) hS (by (repeat' (first | exact VsOf.nil | apply VsOf.cons | (apply VOf.int; first | assumption | (constructor <;> first | omega | (simp only [List.length_set, List.length_append, List.length_replicate, List.length_cons, List.length_nil, List.length_take, List.length_drop, List.length_map, List.length_singleton] at *; omega))) | exact VOf.bool | exact VOf.str))) rfl (by decide) ?_
  intro x4 w4 I4 hO4 hS hs
  refine ⟨_, rfl, ?_⟩
  refine Trip.mono' (c_one hR hO4 hS (by omega) (by simp) (by simp)) ?_
  rintro _ w5 ⟨k5, I5, rfl, hR, hS, hk5⟩
  have hki : -1 ≤ k5 ∧ k5 ≤ 100001 := by simp only [List.mem_cons, List.not_mem_nil, or_false] at hk5; omega
  exact ⟨_, rfl, J ++ K, (hS.to : St v w5 (J ++ (K ++ []))).perm (by simp), x, y, z, k5, J, K, rfl, hO, hP, hki.1, hki.2, hzl, hpl, rfl⟩

theorem c_DrawSettledHeap {code : List UInt8} (hx : Read v x code) : Mk Try.prog 51 #[x.val] v fun r J => ∃ y t, ∃ (z : LazyD), ∃ J1 J2, r = .agg #[y.val, t.val] ∧ OwnD y z.cells J1 ∧ Own v t z.pend J2 ∧ z.cells.length ≤ 60 ∧ z.pend.length ≤ 61 ∧ J = J1 ++ J2 := by
  refine of51 _ _ _ ?_
  unfold vc51
  refine Mk.use (c_newReader hx) (.refl v) ?_
  rintro _ w1 J1 ⟨a, rfl, hR⟩ hS hsub
  refine ⟨_, rfl, ?_⟩
  refine Trip.mono' (c_anyLazy hR hS (by omega)) ?_
  rintro _ w2 ⟨x, y, z, J, K, I, rfl, hO, hP, hR, hS, hzl, hpl⟩
  exact ⟨_, _, rfl, J ++ K, (hS.to : St v w2 (J ++ (K ++ []))).perm (by simp), x, y, z, J, K, rfl, hO, hP, hzl, hpl, rfl⟩
end
end Go.Vc
