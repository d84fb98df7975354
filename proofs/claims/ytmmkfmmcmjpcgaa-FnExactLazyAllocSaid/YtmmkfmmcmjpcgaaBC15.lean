/- Part of the proofs about the heaps: a law is joined in the text whose name ends in W and the law. -/
import Derived.Test.YtmmkfmmcmjpcgaaBC14
namespace Go.Vc
open Go Go.Proofs Go.RowKit
set_option linter.all false
section
variable {u v w : World} {x y xf : Sl} {l ws fs pend : List Int} {h : List CellD} {z : LazyD} {m n k f : Int} {a : Addr} {I J L R R1 : Items} {F F1 : Items → Items}

theorem c_cloneCells (hx : Read v x h) : Mk Try.prog 98 #[x.val] v fun r J => ∃ y, r = y.val ∧ Own v y h J := by
  refine of98 _ _ _ ?_
  unfold vc98
  have hS := St.refl v
  have hl := hx.le
  refine go_nil ⟨fun hc => ?_, fun _ => ?_⟩
  · have := hx.nil_of (Option.isNone_iff_eq_none.1 hc)
    subst this
    exact ⟨[], hS, _, rfl, Own.nil v⟩
  refine St.build (α := CellD) hS (by (repeat' (first | exact VsOf.nil | apply VsOf.cons | (apply VOf.int; first | assumption | (constructor <;> first | omega | (simp only [List.length_set, List.length_append, List.length_replicate, List.length_cons, List.length_nil, List.length_take, List.length_drop, List.length_map, List.length_singleton] at *; omega))) | exact VOf.bool | exact VOf.str))) rfl (by decide) ?_
  intro x1 w1 I1 hO hS hs
  refine ⟨_, rfl, ?_⟩
  refine Own.append hO hS (hx.src hS.sub) (by simp; omega) (by decide) ?_
  intro x2 w2 I2 hO hS
  exact ⟨_, rfl, I2, by simpa using hS, _, rfl, by simpa using hO⟩

theorem set_same {α : Type} [Inhabited α] {l : List α} {i : Int} (h0 : 0 ≤ i) (h1 : i < l.length) : l.set i.toNat (nth l i) = l := by
  refine List.ext_getElem? fun j => ?_
  rw [List.getElem?_set]
  split
  · rename_i e
    subst e
    rw [if_pos (by omega), ← nth_get h0 h1]
  · rfl

theorem c_cloneHeap (hx : Read v x h) : Trip Try.prog 102 #[x.val] v fun r w => ∃ y u' I, r = y.val ∧ Sub v u' ∧ St u' w I ∧ Own u' y h I := by
  refine of102 _ _ _ ?_
  unfold vc102
  have hn := hx.n
  have hl := hx.le
  refine Mk.use (c_cloneCells hx) (.refl v) ?_
  rintro _ w1 J1 ⟨y, rfl, hO⟩ hS hsub
  refine ⟨_, rfl, ?_⟩
  refine ⟨fun i w => ∃ u' I, Sub v u' ∧ St u' w (I ++ []) ∧ Own u' y h I ∧ 0 ≤ i ∧ i ≤ h.length, fun i _ => (h.length - i).toNat, ⟨v, J1, .refl v, hS, hO, by omega, by omega⟩, ?_⟩
  clear hO hS
  rintro i w ⟨u', I, hvu, hS, hO, h0, h1⟩
  dsimp only
  refine ⟨fun hi => ?_, fun hi => ⟨y, u', I, rfl, hvu, by simpa using hS, hO⟩⟩
  simp only [decide_eq_true_eq, decide_eq_false_iff_not, Bool.and_eq_true, Bool.and_eq_false_iff, Bool.or_eq_true, Bool.or_eq_false_iff, Bool.not_eq_true', Bool.not_eq_false', Bool.not_true, Bool.not_false, Bool.false_eq_true, Bool.true_eq_false, Int.not_lt, Int.not_le, ge_iff_le, gt_iff_lt, Bool.not_eq_eq_eq_not, Bool.true_or, Bool.or_true, Bool.false_or, Bool.or_false, Bool.true_and, Bool.and_true, false_or, or_false, true_and, and_true, Decidable.not_not] at hi
  refine go_ix hx h0 (by omega) ?_
  refine ld_cell (hx.src (hvu.trans hS.sub)) h0 (by omega) ?_
  intro f hf hcI htI
  refine Mk.use (c_cloneInts (hf.mono hvu)) hS ?_
  rintro _ w2 J2 ⟨t, rfl, hT⟩ hS hsub
  refine ⟨_, rfl, ?_⟩
  obtain ⟨u2, hu2, hS, hJ⟩ := hS.freeze J2
  have ht : Read u2 t _ := hT.read1 hJ
  refine ⟨hO.ix h0 (by omega), ?_⟩
  refine Own.store (hO.mono hu2) hS h0 (by omega) (nth h i) (Nat.le_of_ble_eq_true rfl) (fun r hr => ?_) ?_
  · obtain ⟨f, rfl, c1, c2, c3⟩ := hr
    exact ⟨t, rfl, c1, c2, ht⟩
  intro w3 I3 hO3 hS
  rw [set_same h0 (by omega)] at hO3
  refine go_wr (by omega) (by omega) ?_
  exact ⟨⟨u2, I3, hvu.trans hu2, hS, hO3, by omega, by omega⟩, by omega⟩

theorem c_cloneLazy (hx : Read v x z.cells) (hy : Read v y z.pend) : Trip Try.prog 75 #[.agg #[x.val, y.val]] v fun r w => ∃ t s u' I J, r = .agg #[t.val, s.val] ∧ Sub v u' ∧ St u' w (I ++ (J ++ [])) ∧ Own u' t z.cells I ∧ Own u' s z.pend J := by
  refine of75 _ _ _ _ ?_
  unfold vc75
  refine Trip.mono' (c_cloneHeap hx) ?_
  rintro _ w1 ⟨t, u1, I, rfl, hvu, hS, hO⟩
  refine ⟨_, rfl, hvu.trans hS.sub, ?_⟩
  have hS1 : St u1 w1 (I ++ []) := by simpa using hS
  refine Mk.use (c_cloneInts (hy.mono hvu)) hS1 ?_
  rintro _ w2 J ⟨s, rfl, hP⟩ hS hsub
  exact ⟨_, rfl, t, s, u1, I, J, rfl, hvu, hS.to, hO, hP⟩

theorem c_indexFunc {p : Int → Bool} {f : Nat} (hx : Read v x l) (hf : ∀ w, Sub v w → ∀ n ∈ l, Trip Try.prog f #[.int .i64 n, .pointer (some (a.add 0))] w fun r w' => r = .bool (p n) ∧ Sub w w') :
    Trip Try.prog 112 #[x.val, .func (.func f) #[] #[.pointer (some (a.add 0))]] v fun r w' => (∃ k : Int, r = .int .i64 k ∧ (0 ≤ k ↔ ∃ n ∈ l, p n = true)) ∧ Sub v w' := by
  refine of112 _ _ _ _ _ ?_
  unfold vc112
  have hn := hx.n
  have hl := hx.le
  refine ⟨fun i w => Sub v w ∧ 0 ≤ i ∧ i ≤ l.length ∧ ∀ n ∈ l.take i.toNat, p n = false, fun i _ => (l.length - i).toNat, ⟨.refl v, by omega, by omega, by simp⟩, ?_⟩
  rintro i w ⟨hs, h0, h1, h2⟩
  dsimp only
  refine ⟨fun hi => ?_, fun hi => ?_⟩
  · simp only [decide_eq_true_eq, decide_eq_false_iff_not, Bool.and_eq_true, Bool.and_eq_false_iff, Bool.or_eq_true, Bool.or_eq_false_iff, Bool.not_eq_true', Bool.not_eq_false', Bool.not_true, Bool.not_false, Bool.false_eq_true, Bool.true_eq_false, Int.not_lt, Int.not_le, ge_iff_le, gt_iff_lt, Bool.not_eq_eq_eq_not, Bool.true_or, Bool.or_true, Bool.false_or, Bool.or_false, Bool.true_and, Bool.and_true, false_or, or_false, true_and, and_true, Decidable.not_not] at hi
    refine go_ix hx h0 (by omega) ?_
    refine ld_int (hx.mono hs) h0 (by omega) ?_
    intro a0 a1
    have hm := nth_mem (l := l) h0 (by omega)
    refine Trip.mono' (hf w hs _ hm) ?_
    rintro _ w2 ⟨rfl, hs2⟩
    refine ⟨_, rfl, fun hq => ⟨⟨i, rfl, fun _ => ⟨_, hm, hq⟩, fun _ => h0⟩, hs.trans hs2⟩, fun hq => ?_⟩
    refine go_wr (by omega) (by omega) ?_
    refine ⟨⟨hs.trans hs2, by omega, by omega, ?_⟩, by omega⟩
    rw [take_nth h0 (by omega)]; intro n hn
    rcases List.mem_append.1 hn with hn | hn
    · exact h2 n hn
    · rw [List.mem_singleton.1 hn]; exact hq
  · simp only [decide_eq_true_eq, decide_eq_false_iff_not, Bool.and_eq_true, Bool.and_eq_false_iff, Bool.or_eq_true, Bool.or_eq_false_iff, Bool.not_eq_true', Bool.not_eq_false', Bool.not_true, Bool.not_false, Bool.false_eq_true, Bool.true_eq_false, Int.not_lt, Int.not_le, ge_iff_le, gt_iff_lt, Bool.not_eq_eq_eq_not, Bool.true_or, Bool.or_true, Bool.false_or, Bool.or_false, Bool.true_and, Bool.and_true, false_or, or_false, true_and, and_true, Decidable.not_not] at hi
    rw [take_all (by omega)] at h2
    refine ⟨⟨-1, rfl, fun h => by omega, fun ⟨n, hn, hp⟩ => by rw [h2 n hn] at hp; cases hp⟩, hs⟩

theorem c_containsFunc {p : Int → Bool} {f : Nat} (hx : Read v x l) (hf : ∀ w, Sub v w → ∀ n ∈ l, Trip Try.prog f #[.int .i64 n, .pointer (some (a.add 0))] w fun r w' => r = .bool (p n) ∧ Sub w w') :
    Trip Try.prog 99 #[x.val, .func (.func f) #[] #[.pointer (some (a.add 0))]] v fun r w' => r = .bool (l.any p) ∧ Sub v w' := by
  refine of99 _ _ _ _ _ ?_
  unfold vc99
  refine Trip.mono' (c_indexFunc hx hf) ?_
  rintro _ w1 ⟨⟨k, rfl, hk⟩, hs⟩
  refine ⟨_, rfl, ?_, hs⟩
  congr 1
  rw [Bool.eq_iff_iff]
  simp only [ge_iff_le, decide_eq_true_eq, List.any_eq_true]
  exact hk

theorem refs_nonneg {h : List CellD} {k : Int} (h0 : 0 ≤ k) (h1 : k < h.length) : 0 ≤ nth (refL h) k := by
  rw [refL, nth_refsW h0 (by omega)]
  simp [cnt]

theorem c_checkedLazy (hx : Read v x z.cells) (hy : Read v y z.pend) : Mk Try.prog 73 #[.agg #[x.val, y.val]] v fun r J => ∃ t : Sl, r = .tuple #[t.val, .bool (vlazyB z)] ∧ (vlazy z → Own v t (refL (raiseL z.cells z.pend)) J) := by
  refine of73 _ _ _ _ ?_
  unfold vc73
  have bad : ¬ vlazy z → ∀ w I, St v w (I ++ []) → ∃ J, St v w J ∧ ∃ t : Sl, Value.tuple #[.slice none 0 0, .bool false] = .tuple #[t.val, .bool (vlazyB z)] ∧ (vlazy z → Own v t (refL (raiseL z.cells z.pend)) J) :=
    fun hb w I hS => ⟨[], hS.to, ⟨none, 0, 0⟩, by rw [Bool.eq_false_iff.2 (fun e => hb (vlazyB_iff.1 e))]; rfl, fun h => absurd h hb⟩
  have hxn := hx.n
  have hxl := hx.le
  have hyn := hy.n
  have hyl := hy.le
  refine Mk.use (c_cloneCells hx) (.refl v) ?_
  rintro _ w1 J1 ⟨t, rfl, hO⟩ hS hsub
  have htn := hO.n
  refine ⟨_, rfl, ?_⟩
  refine ⟨fun i w => St v w (J1 ++ []) ∧ 0 ≤ i ∧ i ≤ z.cells.length ∧ ∀ c ∈ z.cells.take i.toNat, 0 ≤ c.count, fun i _ => (z.cells.length - i).toNat, ⟨hS, by omega, by omega, by simp⟩, ?_⟩
  clear hS
  rintro i w ⟨hS, h0, h1, h2⟩
  dsimp only
  refine ⟨fun hi => ?_, fun hi => ?_⟩
  · simp only [decide_eq_true_eq, decide_eq_false_iff_not, Bool.and_eq_true, Bool.and_eq_false_iff, Bool.or_eq_true, Bool.or_eq_false_iff, Bool.not_eq_true', Bool.not_eq_false', Bool.not_true, Bool.not_false, Bool.false_eq_true, Bool.true_eq_false, Int.not_lt, Int.not_le, ge_iff_le, gt_iff_lt, Bool.not_eq_eq_eq_not, Bool.true_or, Bool.or_true, Bool.false_or, Bool.or_false, Bool.true_and, Bool.and_true, false_or, or_false, true_and, and_true, Decidable.not_not] at hi
    have hm := nth_mem (l := z.cells) h0 (by omega)
    refine go_oix hO h0 (by omega) ?_
    refine ld_cell (hO.src hS) h0 (by omega) ?_
    intro f hf hcI htI
    refine ⟨fun hc => bad (fun hd => ?_) w J1 hS, fun hc => ?_⟩
    · simp only [decide_eq_true_eq, decide_eq_false_iff_not, Bool.and_eq_true, Bool.and_eq_false_iff, Bool.or_eq_true, Bool.or_eq_false_iff, Bool.not_eq_true', Bool.not_eq_false', Bool.not_true, Bool.not_false, Bool.false_eq_true, Bool.true_eq_false, Int.not_lt, Int.not_le, ge_iff_le, gt_iff_lt, Bool.not_eq_eq_eq_not, Bool.true_or, Bool.or_true, Bool.false_or, Bool.or_false, Bool.true_and, Bool.and_true, false_or, or_false, true_and, and_true, Decidable.not_not] at hc
      have := hd.1.2.2 _ hm
      omega
    · simp only [decide_eq_true_eq, decide_eq_false_iff_not, Bool.and_eq_true, Bool.and_eq_false_iff, Bool.or_eq_true, Bool.or_eq_false_iff, Bool.not_eq_true', Bool.not_eq_false', Bool.not_true, Bool.not_false, Bool.false_eq_true, Bool.true_eq_false, Int.not_lt, Int.not_le, ge_iff_le, gt_iff_lt, Bool.not_eq_eq_eq_not, Bool.true_or, Bool.or_true, Bool.false_or, Bool.or_false, Bool.true_and, Bool.and_true, false_or, or_false, true_and, and_true, Decidable.not_not] at hc
      refine go_wr (by omega) (by omega) ?_
      refine ⟨rfl, rfl, ⟨hS, by omega, by omega, ?_⟩, by omega⟩
      rw [take_nth h0 (by omega)]; intro c hm2
      rcases List.mem_append.1 hm2 with hm2 | hm2
      · exact h2 c hm2
      · rw [List.mem_singleton.1 hm2]; exact hc
  simp only [decide_eq_true_eq, decide_eq_false_iff_not, Bool.and_eq_true, Bool.and_eq_false_iff, Bool.or_eq_true, Bool.or_eq_false_iff, Bool.not_eq_true', Bool.not_eq_false', Bool.not_true, Bool.not_false, Bool.false_eq_true, Bool.true_eq_false, Int.not_lt, Int.not_le, ge_iff_le, gt_iff_lt, Bool.not_eq_eq_eq_not, Bool.true_or, Bool.or_true, Bool.false_or, Bool.or_false, Bool.true_and, Bool.and_true, false_or, or_false, true_and, and_true, Decidable.not_not] at hi
  rw [take_all (by omega)] at h2
  refine ⟨fun i w => ∃ I, Own v t (raiseL z.cells (z.pend.take i.toNat)) I ∧ St v w (I ++ []) ∧ 0 ≤ i ∧ i ≤ z.pend.length ∧ (∀ p ∈ z.pend.take i.toNat, 0 ≤ p ∧ p < z.cells.length ∧ (nth z.cells p).count = 0) ∧ (z.pend.take i.toNat).Nodup,
    fun i _ => (z.pend.length - i).toNat, ⟨J1, hO, hS, by omega, by omega, by simp, by simp⟩, ?_⟩
  clear hO hS
  rintro j w ⟨I, hO, hS, j0, j1, h3, h4⟩
  dsimp only
  have hrl := raiseL_length z.cells (z.pend.take j.toNat)
  refine ⟨fun hj => ?_, fun hj => ?_⟩
  · simp only [decide_eq_true_eq, decide_eq_false_iff_not, Bool.and_eq_true, Bool.and_eq_false_iff, Bool.or_eq_true, Bool.or_eq_false_iff, Bool.not_eq_true', Bool.not_eq_false', Bool.not_true, Bool.not_false, Bool.false_eq_true, Bool.true_eq_false, Int.not_lt, Int.not_le, ge_iff_le, gt_iff_lt, Bool.not_eq_eq_eq_not, Bool.true_or, Bool.or_true, Bool.false_or, Bool.or_false, Bool.true_and, Bool.and_true, false_or, or_false, true_and, and_true, Decidable.not_not] at hj
    have hm := nth_mem (l := z.pend) j0 (by omega)
    have htk := take_nth (l := z.pend) j0 (by omega)
    refine go_ix hy j0 (by omega) ?_
    refine ld_int (hy.mono hS.sub) j0 (by omega) ?_
    intro a0 a1
    have rng : (decide (nth z.pend j < 0) || decide (nth z.pend j ≥ (t.n : Int))) = false → 0 ≤ nth z.pend j ∧ nth z.pend j < (raiseL z.cells (z.pend.take j.toNat)).length := fun hc => by simp only [decide_eq_true_eq, decide_eq_false_iff_not, Bool.and_eq_true, Bool.and_eq_false_iff, Bool.or_eq_true, Bool.or_eq_false_iff, Bool.not_eq_true', Bool.not_eq_false', Bool.not_true, Bool.not_false, Bool.false_eq_true, Bool.true_eq_false, Int.not_lt, Int.not_le, ge_iff_le, gt_iff_lt, Bool.not_eq_eq_eq_not, Bool.true_or, Bool.or_true, Bool.false_or, Bool.or_false, Bool.true_and, Bool.and_true, false_or, or_false, true_and, and_true, Decidable.not_not] at hc; omega
    refine ⟨fun hc => hO.ix (rng hc).1 (rng hc).2, ?_⟩
    refine ld_countg (hO.src hS) rng ?_
    refine ⟨fun hc => bad (fun hd => ?_) w I hS, fun hc => ?_⟩
    · obtain ⟨p0, p1, p2⟩ := hd.1.1 _ hm
      simp only [decide_eq_true_eq, decide_eq_false_iff_not, Bool.and_eq_true, Bool.and_eq_false_iff, Bool.or_eq_true, Bool.or_eq_false_iff, Bool.not_eq_true', Bool.not_eq_false', Bool.not_true, Bool.not_false, Bool.false_eq_true, Bool.true_eq_false, Int.not_lt, Int.not_le, ge_iff_le, gt_iff_lt, Bool.not_eq_eq_eq_not, Bool.true_or, Bool.or_true, Bool.false_or, Bool.or_false, Bool.true_and, Bool.and_true, false_or, or_false, true_and, and_true, Decidable.not_not] at hc
      rcases hc with (hc | hc) | hc
      · omega
      · omega
      · rw [nth_raise (fun p hp => ⟨(h3 p hp).1, (h3 p hp).2.1⟩) p0 p1] at hc
        split at hc
        · rename_i hin
          have hnd := hd.1.2.1
          have h5 : (z.pend.take (j + 1).toNat).Nodup := hnd.sublist (List.take_sublist _ _)
          rw [htk] at h5
          exact (List.nodup_append.1 h5).2.2 _ hin _ (by simp) rfl
        · exact hc p2
    · simp only [decide_eq_true_eq, decide_eq_false_iff_not, Bool.and_eq_true, Bool.and_eq_false_iff, Bool.or_eq_true, Bool.or_eq_false_iff, Bool.not_eq_true', Bool.not_eq_false', Bool.not_true, Bool.not_false, Bool.false_eq_true, Bool.true_eq_false, Int.not_lt, Int.not_le, ge_iff_le, gt_iff_lt, Bool.not_eq_eq_eq_not, Bool.true_or, Bool.or_true, Bool.false_or, Bool.or_false, Bool.true_and, Bool.and_true, false_or, or_false, true_and, and_true, Decidable.not_not] at hc
      obtain ⟨⟨p0, p1⟩, p2⟩ := hc
      have p1' : nth z.pend j < z.cells.length := by omega
      rw [nth_raise (fun p hp => ⟨(h3 p hp).1, (h3 p hp).2.1⟩) p0 p1'] at p2
      have hnin : nth z.pend j ∉ z.pend.take j.toNat := fun hin => by
        rw [if_pos hin] at p2
        simp [raiseC] at p2
      rw [if_neg hnin] at p2
      refine ⟨hO.ix p0 (by omega), ?_⟩
      refine Own.store hO hS p0 (by omega) (raiseC (nth (raiseL z.cells (z.pend.take j.toNat)) (nth z.pend j))) (Nat.le_of_ble_eq_true rfl) (fun r hr => ?_) ?_
      · obtain ⟨f, rfl, c1, c2, c3⟩ := hr
        exact ⟨f, rfl, one_in, c2, c3⟩
      intro w3 I3 hO3 hS
      refine go_wr (by omega) (by omega) ?_
      refine ⟨rfl, rfl, ⟨I3, ?_, hS, by omega, by omega, ?_, ?_⟩, by omega⟩
      · rw [htk, raiseL_snoc]; exact hO3
      · rw [htk]; intro p hp
        rcases List.mem_append.1 hp with hp | hp
        · exact h3 p hp
        · rw [List.mem_singleton.1 hp]; exact ⟨p0, p1', p2⟩
      · rw [htk]
        exact List.nodup_append.2 ⟨h4, by simp, fun a ha b hb e => by rw [List.mem_singleton.1 hb] at e; subst e; exact hnin ha⟩
  simp only [decide_eq_true_eq, decide_eq_false_iff_not, Bool.and_eq_true, Bool.and_eq_false_iff, Bool.or_eq_true, Bool.or_eq_false_iff, Bool.not_eq_true', Bool.not_eq_false', Bool.not_true, Bool.not_false, Bool.false_eq_true, Bool.true_eq_false, Int.not_lt, Int.not_le, ge_iff_le, gt_iff_lt, Bool.not_eq_eq_eq_not, Bool.true_or, Bool.or_true, Bool.false_or, Bool.or_false, Bool.true_and, Bool.and_true, false_or, or_false, true_and, and_true, Decidable.not_not] at hj
  rw [take_all (by omega)] at h3 h4 hO hrl
  have hvp : vpend z := ⟨h3, h4, h2⟩
  refine Mk.usew (c_checkedHeap (Own.read hO hS)) hS ?_
  rintro _ w4 J4 ⟨s, rfl, hR⟩ hS hsub
  refine ⟨_, _, rfl, ?_⟩
  refine St.box (vals := [.slice none 0 0]) hS fun a w5 I5 hC hS hs => ?_
  refine Cel.store hC hS (by simp) ?_
  intro w6 I6 hC hS
  simp [putR] at hC
  refine ⟨fun hq => ?_, fun hq => bad (fun hd => ?_) w6 (I6 ++ (J4 ++ I)) (hS.perm (by simp))⟩
  · simp only [decide_eq_true_eq, decide_eq_false_iff_not, Bool.and_eq_true, Bool.and_eq_false_iff, Bool.or_eq_true, Bool.or_eq_false_iff, Bool.not_eq_true', Bool.not_eq_false', Bool.not_true, Bool.not_false, Bool.false_eq_true, Bool.true_eq_false, Int.not_lt, Int.not_le, ge_iff_le, gt_iff_lt, Bool.not_eq_eq_eq_not, Bool.true_or, Bool.or_true, Bool.false_or, Bool.or_false, Bool.true_and, Bool.and_true, false_or, or_false, true_and, and_true, Decidable.not_not] at hq
    have hv := vheapB_iff.1 hq
    have hR2 : Own v s _ J4 := (hR hq).ofInts
    have hlr := length_refs (raiseL z.cells z.pend)
    have hclo : ∀ w, Sub w6 w → ∀ n ∈ z.pend, Trip Try.prog 100 #[.int .i64 n, .pointer (some (a.add 0))] w fun r w' => r = .bool (decide (nth (refL (raiseL z.cells z.pend)) n > 0)) ∧ Sub w w' := by
      intro w hw n hn
      obtain ⟨p0, p1, p2⟩ := h3 n hn
      refine of100 _ _ _ _ ?_
      unfold vc100
      have hS7 := hS.sub_w hw
      refine ⟨s, Cel.load hC hS7 rfl, ?_⟩
      refine go_oix hR2 p0 (by omega) ?_
      refine ld_int (Own.read hR2 hS7) p0 (by omega) ?_
      intro _ _
      exact ⟨rfl, .refl w⟩
    refine Trip.mono' (c_containsFunc (hy.mono hS.sub) hclo) ?_
    rintro _ w7 ⟨rfl, hs7⟩
    replace hS := hS.sub_w hs7
    refine ⟨_, rfl, fun ha => bad (fun hd => ?_) w7 (I6 ++ (J4 ++ I)) (hS.perm (by simp)), fun ha => ?_⟩
    · obtain ⟨p, hp, hgt⟩ := List.any_eq_true.1 ha
      have := hd.2.2 p hp
      simp only [decide_eq_true_eq] at hgt
      omega
    · have hd : vlazy z := ⟨hvp, hv, fun p hp => by
        have h5 := List.any_eq_false.1 ha p hp
        simp only [decide_eq_true_eq] at h5
        obtain ⟨p0, p1, _⟩ := h3 p hp
        have := refs_nonneg (h := raiseL z.cells z.pend) p0 (by omega)
        omega⟩
      refine ⟨s, Cel.load hC hS rfl, J4, (hS.to : St v w7 (J4 ++ [])).left, s, by rw [vlazyB_iff.2 hd], fun _ => hR2⟩
  · simp only [decide_eq_true_eq, decide_eq_false_iff_not, Bool.and_eq_true, Bool.and_eq_false_iff, Bool.or_eq_true, Bool.or_eq_false_iff, Bool.not_eq_true', Bool.not_eq_false', Bool.not_true, Bool.not_false, Bool.false_eq_true, Bool.true_eq_false, Int.not_lt, Int.not_le, ge_iff_le, gt_iff_lt, Bool.not_eq_eq_eq_not, Bool.true_or, Bool.or_true, Bool.false_or, Bool.or_false, Bool.true_and, Bool.and_true, false_or, or_false, true_and, and_true, Decidable.not_not] at hq
    rw [vheapB_iff.2 hd.2.1] at hq
    cases hq

theorem c_validLazyI (hx : Read v x z.cells) (hy : Read v y z.pend) : Fn Try.prog 43 #[.agg #[x.val, y.val]] v (.bool (vlazyB z)) := by
  refine of43 _ _ _ _ ?_
  unfold vc43
  refine Mk.use (c_checkedLazy hx hy) (.refl v) ?_
  rintro _ w1 J1 ⟨t, rfl, _⟩ hS hsub
  exact ⟨_, _, rfl, rfl, hsub⟩
end
end Go.Vc
