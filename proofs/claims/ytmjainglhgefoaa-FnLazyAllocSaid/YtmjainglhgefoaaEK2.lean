/- Part of the proofs about the heaps and memories: a law is joined in the text whose name ends in W and the law. -/
import Derived.Test.YtmjainglhgefoaaEK1
import Derived.Test.YtmjainglhgefoaaEH1
import Derived.Test.YtmjainglhgefoaaEH2
namespace Go.Vc
open Go Go.Proofs Go.RowKit
set_option linter.all false
/-- a heap that is drawn -/
def GA (h : List CellD) : Prop := h.length ≤ 100 ∧ ∀ c ∈ h, c.fields.length ≤ 100
section
variable {u v w : World} {x y xf : Sl} {l fs : List Int} {h : List CellD} {m n k : Int} {a : Addr} {I J L R : Items} {F : Items → Items}

theorem GA.set {h : List CellD} (hg : GA h) {i : Nat} {c : CellD} (hc : c.fields.length ≤ 100) : GA (h.set i c) :=
  ⟨by simpa using hg.1, fun b hb => by rcases mem_set_of hb with hb | hb; exact hg.2 b hb; rw [hb]; exact hc⟩

end

/-- a law's function gives true, and leaves what it was given -/
def LawTrue (P : Program) (f : FuncId) : Prop := ∀ (W : World) (x : Sl) (bs : List UInt8), Bytes W x bs → Trip P f #[x.val] W fun r v' => r = .bool true ∧ Sub W v'
theorem Bytes.read {W : World} {x : Sl} {bs : List UInt8} (h : Bytes W x bs) (hl : x.n ≤ 1099511627776) : Read W x bs := by
  have hn : x.n = bs.length := by have := Rows.len h; simpa using this
  refine ⟨_, h, ⟨by simp, fun i r a hr ha => ?_⟩, by show bs.length ≤ 1099511627776; omega⟩
  simp only [List.getElem?_map] at hr
  rw [ha] at hr
  simp at hr
  exact hr.symm

theorem circle_not {h : List CellD} {i : Int} (h0 : 0 ≤ i) (h1 : i < h.length) {c : CellD} (hc : 0 < c.count) (hf : 1000 + i ∈ c.fields) : ¬ vheap (h.set i.toNat c) := by
  rintro ⟨_, _, _, rk, hrk⟩
  have hn : nth (h.set i.toNat c) i = c := by rw [nth_set _ _ _ _ h0 h1 h0, if_pos rfl]
  have hl : live (h.set i.toNat c) (1000 + i) = true := by
    simp only [live, Bool.and_eq_true, decide_eq_true_eq, List.length_set]
    rw [show 1000 + i - 1000 = i from by omega, hn]
    omega
  have := hrk i.toNat c (1000 + i) (by rw [List.getElem?_set, if_pos rfl, if_pos (by omega)]) hf hl
  rw [show (1000 + i - 1000).toNat = i.toNat from by omega] at this
  omega

end Go.Vc

namespace Go.Vc
open Go Go.Proofs Go.RowKit
set_option linter.all false
section
variable {u v w : World} {x y xf : Sl} {l ws fs : List Int} {h : List CellD} {m n k : Int} {a : Addr} {I J L R : Items} {F : Items → Items}

end

end Go.Vc

namespace Go.Vc
open Go Go.Proofs Go.RowKit
set_option linter.all false
section
variable {u v w : World} {x y xf : Sl} {l ws fs pend : List Int} {h : List CellD} {z : LazyD} {m n k f : Int} {a : Addr} {I J L R R1 : Items} {F F1 : Items → Items}

theorem raise_range {h : List CellD} {pend : List Int} : (raiseL h pend).length = h.length := raiseL_length h pend

theorem c_validPending (hx : Read v x z.cells) (hy : Read v y z.pend) : Fn Try.prog 113 #[.agg #[x.val, y.val]] v (.bool (vpendB z)) := by
  have vf : ¬ vpend z → Value.bool false = .bool (vpendB z) := fun hh => by rw [Bool.eq_false_iff.2 (fun e => hh (vpendB_iff.1 e))]
  refine of113 _ _ _ _ ?_
  unfold vc113
  have hn := hx.n
  have hl := hx.le
  have hyn := hy.n
  have hyl := hy.le
  refine ⟨fun i w => St v w [] ∧ 0 ≤ i ∧ i ≤ z.pend.length ∧ (∀ p ∈ z.pend.take i.toNat, 0 ≤ p ∧ p < z.cells.length ∧ (nth z.cells p).count = 0) ∧ (z.pend.take i.toNat).Nodup, fun i _ => (z.pend.length - i).toNat, ⟨.refl v, by omega, by omega, by simp, by simp⟩, ?_⟩
  rintro i w ⟨hS, h0, h1, h2, h3⟩
  dsimp only
  refine ⟨fun hi => ?_, fun hi => ?_⟩
  · simp only [decide_eq_true_eq, decide_eq_false_iff_not, Bool.and_eq_true, Bool.and_eq_false_iff, Bool.or_eq_true, Bool.or_eq_false_iff, Bool.not_eq_true', Bool.not_eq_false', Bool.not_true, Bool.not_false, Bool.false_eq_true, Bool.true_eq_false, Int.not_lt, Int.not_le, ge_iff_le, gt_iff_lt, Bool.not_eq_eq_eq_not, Bool.true_or, Bool.or_true, Bool.false_or, Bool.or_false, Bool.true_and, Bool.and_true, false_or, or_false, true_and, and_true, Decidable.not_not] at hi
    have hmem := nth_mem (l := z.pend) h0 (by omega)
    refine go_ix hy h0 (by omega) ?_
    refine ld_int (hy.mono hS.sub) h0 (by omega) ?_
    intro a0 a1
    refine go_wr (by omega) (by omega) ?_
    refine ⟨_, c_inRange, ?_⟩
    have rng : (!(decide (0 ≤ nth z.pend i) && decide (nth z.pend i ≤ (x.n : Int) - 1))) = false → 0 ≤ nth z.pend i ∧ nth z.pend i < z.cells.length := fun hc => by simp only [decide_eq_true_eq, decide_eq_false_iff_not, Bool.and_eq_true, Bool.and_eq_false_iff, Bool.or_eq_true, Bool.or_eq_false_iff, Bool.not_eq_true', Bool.not_eq_false', Bool.not_true, Bool.not_false, Bool.false_eq_true, Bool.true_eq_false, Int.not_lt, Int.not_le, ge_iff_le, gt_iff_lt, Bool.not_eq_eq_eq_not, Bool.true_or, Bool.or_true, Bool.false_or, Bool.or_false, Bool.true_and, Bool.and_true, false_or, or_false, true_and, and_true, Decidable.not_not] at hc; omega
    refine ⟨fun hc => hx.ix (rng hc).1 (rng hc).2, ?_⟩
    refine ld_countg (hx.src hS.sub) rng ?_
    refine ⟨fun hc => ⟨by omega, by omega, by obtain ⟨_, hr, _⟩ := hy; have := hr.2.1; omega⟩, ?_⟩
    have hcut := hy.cut (lo := 0) (hi := i) (by omega) (by omega) (by omega)
    rw [show ((z.pend.take i.toNat).drop (0 : Int).toNat) = z.pend.take i.toNat from by simp] at hcut
    refine ⟨_, fun _ => c_specIsIn (hcut.mono hS.sub), ?_⟩
    refine ⟨fun hc => ⟨vf fun hh => ?_, hS.sub⟩, fun hc => ?_⟩
    · obtain ⟨q0, q1, q2⟩ := hh.1 _ hmem
      simp only [decide_eq_true_eq, decide_eq_false_iff_not, Bool.and_eq_true, Bool.and_eq_false_iff, Bool.or_eq_true, Bool.or_eq_false_iff, Bool.not_eq_true', Bool.not_eq_false', Bool.not_true, Bool.not_false, Bool.false_eq_true, Bool.true_eq_false, Int.not_lt, Int.not_le, ge_iff_le, gt_iff_lt, Bool.not_eq_eq_eq_not, Bool.true_or, Bool.or_true, Bool.false_or, Bool.or_false, Bool.true_and, Bool.and_true, false_or, or_false, true_and, and_true, Decidable.not_not] at hc
      rcases hc with (hc | hc) | hc
      · omega
      · exact hc q2
      · have := hh.2.1
        have e := take_nth (l := z.pend) h0 (by omega)
        have h4 : (z.pend.take (i + 1).toNat).Nodup := this.sublist (List.take_sublist _ _)
        rw [e] at h4
        exact (List.nodup_append.1 h4).2.2 _ hc _ (by simp) rfl
    · simp only [decide_eq_true_eq, decide_eq_false_iff_not, Bool.and_eq_true, Bool.and_eq_false_iff, Bool.or_eq_true, Bool.or_eq_false_iff, Bool.not_eq_true', Bool.not_eq_false', Bool.not_true, Bool.not_false, Bool.false_eq_true, Bool.true_eq_false, Int.not_lt, Int.not_le, ge_iff_le, gt_iff_lt, Bool.not_eq_eq_eq_not, Bool.true_or, Bool.or_true, Bool.false_or, Bool.or_false, Bool.true_and, Bool.and_true, false_or, or_false, true_and, and_true, Decidable.not_not] at hc
      refine go_wr (by omega) (by omega) ?_
      refine ⟨rfl, rfl, ⟨hS, by omega, by omega, ?_, ?_⟩, by omega⟩
      · rw [take_nth h0 (by omega)]; intro p hp
        rcases List.mem_append.1 hp with hp | hp
        · exact h2 p hp
        · rw [List.mem_singleton.1 hp]; exact ⟨by omega, by omega, hc.1.2⟩
      · rw [take_nth h0 (by omega)]
        exact List.nodup_append.2 ⟨h3, by simp, fun a ha b hb e => by rw [List.mem_singleton.1 hb] at e; subst e; exact hc.2 ha⟩
  · simp only [decide_eq_true_eq, decide_eq_false_iff_not, Bool.and_eq_true, Bool.and_eq_false_iff, Bool.or_eq_true, Bool.or_eq_false_iff, Bool.not_eq_true', Bool.not_eq_false', Bool.not_true, Bool.not_false, Bool.false_eq_true, Bool.true_eq_false, Int.not_lt, Int.not_le, ge_iff_le, gt_iff_lt, Bool.not_eq_eq_eq_not, Bool.true_or, Bool.or_true, Bool.false_or, Bool.or_false, Bool.true_and, Bool.and_true, false_or, or_false, true_and, and_true, Decidable.not_not] at hi
    rw [take_all (by omega)] at h2 h3
    refine ⟨fun i w => St v w [] ∧ 0 ≤ i ∧ i ≤ z.cells.length ∧ ∀ c ∈ z.cells.take i.toNat, 0 ≤ c.count, fun i _ => (z.cells.length - i).toNat, ⟨hS, by omega, by omega, by simp⟩, ?_⟩
    rintro i w ⟨hS, h0, h1, h4⟩
    dsimp only
    refine ⟨fun hi => ?_, fun hi => ?_⟩
    · simp only [decide_eq_true_eq, decide_eq_false_iff_not, Bool.and_eq_true, Bool.and_eq_false_iff, Bool.or_eq_true, Bool.or_eq_false_iff, Bool.not_eq_true', Bool.not_eq_false', Bool.not_true, Bool.not_false, Bool.false_eq_true, Bool.true_eq_false, Int.not_lt, Int.not_le, ge_iff_le, gt_iff_lt, Bool.not_eq_eq_eq_not, Bool.true_or, Bool.or_true, Bool.false_or, Bool.or_false, Bool.true_and, Bool.and_true, false_or, or_false, true_and, and_true, Decidable.not_not] at hi
      refine go_ix hx h0 (by omega) ?_
      refine ld_count (hx.src hS.sub) h0 (by omega) ?_
      intro a0 a1
      refine ⟨fun hc => ⟨vf fun hh => ?_, hS.sub⟩, fun hc => ?_⟩
      · have := hh.2.2 _ (nth_mem (l := z.cells) h0 (by omega))
        simp only [decide_eq_true_eq, decide_eq_false_iff_not, Bool.and_eq_true, Bool.and_eq_false_iff, Bool.or_eq_true, Bool.or_eq_false_iff, Bool.not_eq_true', Bool.not_eq_false', Bool.not_true, Bool.not_false, Bool.false_eq_true, Bool.true_eq_false, Int.not_lt, Int.not_le, ge_iff_le, gt_iff_lt, Bool.not_eq_eq_eq_not, Bool.true_or, Bool.or_true, Bool.false_or, Bool.or_false, Bool.true_and, Bool.and_true, false_or, or_false, true_and, and_true, Decidable.not_not] at hc
        omega
      · simp only [decide_eq_true_eq, decide_eq_false_iff_not, Bool.and_eq_true, Bool.and_eq_false_iff, Bool.or_eq_true, Bool.or_eq_false_iff, Bool.not_eq_true', Bool.not_eq_false', Bool.not_true, Bool.not_false, Bool.false_eq_true, Bool.true_eq_false, Int.not_lt, Int.not_le, ge_iff_le, gt_iff_lt, Bool.not_eq_eq_eq_not, Bool.true_or, Bool.or_true, Bool.false_or, Bool.or_false, Bool.true_and, Bool.and_true, false_or, or_false, true_and, and_true, Decidable.not_not] at hc
        refine go_wr (by omega) (by omega) ?_
        refine ⟨rfl, rfl, ⟨hS, by omega, by omega, ?_⟩, by omega⟩
        rw [take_nth h0 (by omega)]; intro p hp
        rcases List.mem_append.1 hp with hp | hp
        · exact h4 p hp
        · rw [List.mem_singleton.1 hp]; exact hc
    · simp only [decide_eq_true_eq, decide_eq_false_iff_not, Bool.and_eq_true, Bool.and_eq_false_iff, Bool.or_eq_true, Bool.or_eq_false_iff, Bool.not_eq_true', Bool.not_eq_false', Bool.not_true, Bool.not_false, Bool.false_eq_true, Bool.true_eq_false, Int.not_lt, Int.not_le, ge_iff_le, gt_iff_lt, Bool.not_eq_eq_eq_not, Bool.true_or, Bool.or_true, Bool.false_or, Bool.or_false, Bool.true_and, Bool.and_true, false_or, or_false, true_and, and_true, Decidable.not_not] at hi
      rw [take_all (by omega)] at h4
      refine ⟨?_, hS.sub⟩
      rw [vpendB_iff.2 ⟨h2, h3, h4⟩]

theorem c_raised (hx : Read v x z.cells) (hy : Read v y z.pend) (hp : ∀ p ∈ z.pend, 0 ≤ p ∧ p < z.cells.length) : Mk Try.prog 80 #[.agg #[x.val, y.val]] v fun r J => ∃ t, r = t.val ∧ OwnD t (raiseL z.cells z.pend) J := by
  refine of80 _ _ _ _ ?_
  unfold vc80
  have hyn := hy.n
  have hyl := hy.le
  refine Mk.use (c_copyHeap hx) (.refl v) ?_
  rintro _ w1 J1 ⟨t, rfl, hO⟩ hS hsub
  refine ⟨_, rfl, ?_⟩
  refine ⟨fun i w => ∃ J, OwnD t (raiseL z.cells (z.pend.take i.toNat)) J ∧ St v w (J ++ []) ∧ 0 ≤ i ∧ i ≤ z.pend.length, fun i _ => (z.pend.length - i).toNat, ⟨J1, hO, hS, by omega, by omega⟩, ?_⟩
  rintro i w ⟨J, hO, hS, h0, h1⟩
  dsimp only
  refine ⟨fun hi => ?_, fun hi => ?_⟩
  · simp only [decide_eq_true_eq, decide_eq_false_iff_not, Bool.and_eq_true, Bool.and_eq_false_iff, Bool.or_eq_true, Bool.or_eq_false_iff, Bool.not_eq_true', Bool.not_eq_false', Bool.not_true, Bool.not_false, Bool.false_eq_true, Bool.true_eq_false, Int.not_lt, Int.not_le, ge_iff_le, gt_iff_lt, Bool.not_eq_eq_eq_not, Bool.true_or, Bool.or_true, Bool.false_or, Bool.or_false, Bool.true_and, Bool.and_true, false_or, or_false, true_and, and_true, Decidable.not_not] at hi
    obtain ⟨q0, q1⟩ := hp _ (nth_mem (l := z.pend) h0 (by omega))
    have hlen := raiseL_length z.cells (z.pend.take i.toNat)
    refine go_ix hy h0 (by omega) ?_
    refine ld_int (hy.mono hS.sub) h0 (by omega) ?_
    intro a0 a1
    refine ⟨hO.ix q0 (by omega), ?_⟩
    refine OwnD.store hO hS q0 (by omega) (raiseC (nth (raiseL z.cells (z.pend.take i.toNat)) (nth z.pend i))) [] (Nat.le_of_ble_eq_true rfl) (fun r K hr => ?_) ?_
    · obtain ⟨f, rfl, c1, c2, c3⟩ := hr
      exact ⟨K, ⟨f, rfl, one_in, c2, c3⟩, .inr ⟨rfl, rfl⟩⟩
    intro w2 I2 hO2 hS
    rw [List.append_nil] at hO2
    refine go_wr (by omega) (by omega) ?_
    refine ⟨rfl, rfl, ⟨I2, ?_, hS, by omega, by omega⟩, by omega⟩
    rw [take_nth h0 (by omega), raiseL_snoc]; exact hO2
  · simp only [decide_eq_true_eq, decide_eq_false_iff_not, Bool.and_eq_true, Bool.and_eq_false_iff, Bool.or_eq_true, Bool.or_eq_false_iff, Bool.not_eq_true', Bool.not_eq_false', Bool.not_true, Bool.not_false, Bool.false_eq_true, Bool.true_eq_false, Int.not_lt, Int.not_le, ge_iff_le, gt_iff_lt, Bool.not_eq_eq_eq_not, Bool.true_or, Bool.or_true, Bool.false_or, Bool.or_false, Bool.true_and, Bool.and_true, false_or, or_false, true_and, and_true, Decidable.not_not] at hi
    rw [take_all (by omega)] at hO
    exact ⟨J, by simpa using hS, t, rfl, hO⟩

theorem c_validLazy (hx : Read v x z.cells) (hy : Read v y z.pend) : Fn Try.prog 69 #[.agg #[x.val, y.val]] v (.bool (vlazyB z)) := by
  have vf : ¬ vlazy z → Value.bool false = .bool (vlazyB z) := fun hh => by rw [Bool.eq_false_iff.2 (fun e => hh (vlazyB_iff.1 e))]
  refine of69 _ _ _ _ ?_
  unfold vc69
  have hyn := hy.n
  have hyl := hy.le
  refine ⟨_, c_validPending hx hy, fun hc => ?_, fun hc => ⟨vf fun hh => ?_, .refl v⟩⟩
  · simp only [decide_eq_true_eq, decide_eq_false_iff_not, Bool.and_eq_true, Bool.and_eq_false_iff, Bool.or_eq_true, Bool.or_eq_false_iff, Bool.not_eq_true', Bool.not_eq_false', Bool.not_true, Bool.not_false, Bool.false_eq_true, Bool.true_eq_false, Int.not_lt, Int.not_le, ge_iff_le, gt_iff_lt, Bool.not_eq_eq_eq_not, Bool.true_or, Bool.or_true, Bool.false_or, Bool.or_false, Bool.true_and, Bool.and_true, false_or, or_false, true_and, and_true, Decidable.not_not] at hc
    have hvp := vpendB_iff.1 hc
    have hp : ∀ p ∈ z.pend, 0 ≤ p ∧ p < z.cells.length := fun p hp => ⟨(hvp.1 p hp).1, (hvp.1 p hp).2.1⟩
    refine Mk.use (c_raised hx hy hp) (.refl v) ?_
    rintro _ w1 J1 ⟨t, rfl, hO⟩ hS hsub
    refine ⟨_, rfl, _, c_validHeap (OwnD.read hO hS), fun hc => ⟨vf fun hh => ?_, hS.sub⟩, fun hc => ?_⟩
    · simp only [decide_eq_true_eq, decide_eq_false_iff_not, Bool.and_eq_true, Bool.and_eq_false_iff, Bool.or_eq_true, Bool.or_eq_false_iff, Bool.not_eq_true', Bool.not_eq_false', Bool.not_true, Bool.not_false, Bool.false_eq_true, Bool.true_eq_false, Int.not_lt, Int.not_le, ge_iff_le, gt_iff_lt, Bool.not_eq_eq_eq_not, Bool.true_or, Bool.or_true, Bool.false_or, Bool.or_false, Bool.true_and, Bool.and_true, false_or, or_false, true_and, and_true, Decidable.not_not] at hc
      rw [vheapB_iff.2 hh.2.1] at hc; cases hc
    simp only [decide_eq_true_eq, decide_eq_false_iff_not, Bool.and_eq_true, Bool.and_eq_false_iff, Bool.or_eq_true, Bool.or_eq_false_iff, Bool.not_eq_true', Bool.not_eq_false', Bool.not_true, Bool.not_false, Bool.false_eq_true, Bool.true_eq_false, Int.not_lt, Int.not_le, ge_iff_le, gt_iff_lt, Bool.not_eq_eq_eq_not, Bool.true_or, Bool.or_true, Bool.false_or, Bool.or_false, Bool.true_and, Bool.and_true, false_or, or_false, true_and, and_true, Decidable.not_not] at hc
    have hvh := vheapB_iff.1 hc
    refine Mk.use (c_raised hx hy hp) hS ?_
    rintro _ w2 J2 ⟨t2, rfl, hO2⟩ hS hsub
    refine ⟨_, rfl, ?_⟩
    refine Mk.usew (c_refsOf (OwnD.read hO2 hS) (vheap_len hvh)) hS ?_
    rintro _ w3 J3 ⟨t3, rfl, hO3⟩ hS hsub
    have hrl := length_refs (raiseL z.cells z.pend)
    have hrl2 := raiseL_length z.cells z.pend
    refine ⟨_, rfl, ?_⟩
    replace hO3 : Own v t3 _ J3 := hO3.ofInts
    refine ⟨fun i w => St v w (J3 ++ (J2 ++ (J1 ++ []))) ∧ 0 ≤ i ∧ i ≤ z.pend.length ∧ ∀ p ∈ z.pend.take i.toNat, nth (refL (raiseL z.cells z.pend)) p = 0, fun i _ => (z.pend.length - i).toNat, ⟨hS, by omega, by omega, by simp⟩, ?_⟩
    rintro i w ⟨hS, h0, h1, h2⟩
    dsimp only
    refine ⟨fun hi => ?_, fun hi => ?_⟩
    · simp only [decide_eq_true_eq, decide_eq_false_iff_not, Bool.and_eq_true, Bool.and_eq_false_iff, Bool.or_eq_true, Bool.or_eq_false_iff, Bool.not_eq_true', Bool.not_eq_false', Bool.not_true, Bool.not_false, Bool.false_eq_true, Bool.true_eq_false, Int.not_lt, Int.not_le, ge_iff_le, gt_iff_lt, Bool.not_eq_eq_eq_not, Bool.true_or, Bool.or_true, Bool.false_or, Bool.or_false, Bool.true_and, Bool.and_true, false_or, or_false, true_and, and_true, Decidable.not_not] at hi
      have hmem := nth_mem (l := z.pend) h0 (by omega)
      obtain ⟨q0, q1⟩ := hp _ hmem
      refine go_ix hy h0 (by omega) ?_
      refine ld_int (hy.mono hS.sub) h0 (by omega) ?_
      intro a0 a1
      refine go_oix hO3 q0 (by omega) ?_
      refine ld_int (Own.read hO3 hS) q0 (by omega) ?_
      intro b0 b1
      refine ⟨fun hc => ⟨vf fun hh => ?_, hS.sub⟩, fun hc => ?_⟩
      · simp only [decide_eq_true_eq, decide_eq_false_iff_not, Bool.and_eq_true, Bool.and_eq_false_iff, Bool.or_eq_true, Bool.or_eq_false_iff, Bool.not_eq_true', Bool.not_eq_false', Bool.not_true, Bool.not_false, Bool.false_eq_true, Bool.true_eq_false, Int.not_lt, Int.not_le, ge_iff_le, gt_iff_lt, Bool.not_eq_eq_eq_not, Bool.true_or, Bool.or_true, Bool.false_or, Bool.or_false, Bool.true_and, Bool.and_true, false_or, or_false, true_and, and_true, Decidable.not_not] at hc
        exact hc (hh.2.2 _ hmem)
      · simp only [decide_eq_true_eq, decide_eq_false_iff_not, Bool.and_eq_true, Bool.and_eq_false_iff, Bool.or_eq_true, Bool.or_eq_false_iff, Bool.not_eq_true', Bool.not_eq_false', Bool.not_true, Bool.not_false, Bool.false_eq_true, Bool.true_eq_false, Int.not_lt, Int.not_le, ge_iff_le, gt_iff_lt, Bool.not_eq_eq_eq_not, Bool.true_or, Bool.or_true, Bool.false_or, Bool.or_false, Bool.true_and, Bool.and_true, false_or, or_false, true_and, and_true, Decidable.not_not] at hc
        refine go_wr (by omega) (by omega) ?_
        refine ⟨rfl, rfl, ⟨hS, by omega, by omega, ?_⟩, by omega⟩
        rw [take_nth h0 (by omega)]; intro p hp
        rcases List.mem_append.1 hp with hp | hp
        · exact h2 p hp
        · rw [List.mem_singleton.1 hp]; exact hc
    · simp only [decide_eq_true_eq, decide_eq_false_iff_not, Bool.and_eq_true, Bool.and_eq_false_iff, Bool.or_eq_true, Bool.or_eq_false_iff, Bool.not_eq_true', Bool.not_eq_false', Bool.not_true, Bool.not_false, Bool.false_eq_true, Bool.true_eq_false, Int.not_lt, Int.not_le, ge_iff_le, gt_iff_lt, Bool.not_eq_eq_eq_not, Bool.true_or, Bool.or_true, Bool.false_or, Bool.or_false, Bool.true_and, Bool.and_true, false_or, or_false, true_and, and_true, Decidable.not_not] at hi
      rw [take_all (by omega)] at h2
      refine ⟨?_, hS.sub⟩
      rw [vlazyB_iff.2 ⟨hvp, hvh, h2⟩]
  · simp only [decide_eq_true_eq, decide_eq_false_iff_not, Bool.and_eq_true, Bool.and_eq_false_iff, Bool.or_eq_true, Bool.or_eq_false_iff, Bool.not_eq_true', Bool.not_eq_false', Bool.not_true, Bool.not_false, Bool.false_eq_true, Bool.true_eq_false, Int.not_lt, Int.not_le, ge_iff_le, gt_iff_lt, Bool.not_eq_eq_eq_not, Bool.true_or, Bool.or_true, Bool.false_or, Bool.or_false, Bool.true_and, Bool.and_true, false_or, or_false, true_and, and_true, Decidable.not_not] at hc
    rw [vpendB_iff.2 hh.1] at hc; cases hc

theorem c_copyLazy (hx : Read v x z.cells) (hy : Read v y z.pend) : Mk Try.prog 71 #[.agg #[x.val, y.val]] v fun r J => ∃ t s, ∃ J1 J2, r = .agg #[t.val, s.val] ∧ OwnD t z.cells J1 ∧ Own v s z.pend J2 ∧ J = J1 ++ J2 := by
  refine of71 _ _ _ _ ?_
  unfold vc71
  refine Mk.use (c_copyHeap hx) (.refl v) ?_
  rintro _ w1 J1 ⟨t, rfl, hO⟩ hS hsub
  refine ⟨_, rfl, hsub, ?_⟩
  refine Mk.use (c_copyInts hy) hS ?_
  rintro _ w2 J2 ⟨s, rfl, hP⟩ hS hsub
  exact ⟨_, rfl, J1 ++ J2, (hS.to : St v w2 (J1 ++ (J2 ++ []))).perm (by simp), t, s, J1, J2, rfl, hO, hP, rfl⟩

/-- a count that is lowered by one -/
theorem c_lower (hO : OwnD x h I) (hP : Own u y pend J) (hS : St u w L) [p : Pos I L R1 F1] [q : Pos J R1 R F] (h0 : 1000 ≤ f) (h1 : f - 1000 < h.length) (hc : 0 < (nth h (f - 1000)).count) (hf : f ≤ 9223372036854775807) (hpl : pend.length < 1099511627776) :
    Trip Try.prog 81 #[.agg #[x.val, y.val], .int .i64 f] w fun r w' => ∃ y' I' J', r = .agg #[x.val, y'.val] ∧ OwnD x (lowerZ ⟨h, pend⟩ (f - 1000)).cells I' ∧ Own u y' (lowerZ ⟨h, pend⟩ (f - 1000)).pend J' ∧ St u w' (I' ++ (J' ++ R)) := by
  replace hS : St u w (I ++ (J ++ R)) := (hS.perm p.perm.symm).perm (List.Perm.append_left I q.perm.symm)
  refine of81 _ _ _ _ _ ?_
  unfold vc81
  refine go_wr (by omega) (by omega) ?_
  refine ⟨hO.ix (by omega) h1, ?_⟩
  refine ld_count (OwnD.src hO hS) (by omega) h1 ?_
  intro a0 a1
  refine go_wr (by omega) (by omega) ?_
  refine ⟨hO.ix (by omega) h1, ?_⟩
  have hin1 : InI ((nth h (f - 1000)).count - 1) := ⟨by omega, by omega⟩
  refine OwnD.store hO hS (by omega) h1 (decC (nth h (f - 1000))) [] (Nat.le_of_ble_eq_true rfl) (fun r K hr => ?_) ?_
  · obtain ⟨f, rfl, c1, c2, c3⟩ := hr
    exact ⟨K, ⟨f, rfl, hin1, c2, c3⟩, .inr ⟨rfl, rfl⟩⟩
  intro w2 I2 hO2 hS
  rw [List.append_nil] at hO2
  refine ⟨hO2.ix (by omega) (by simpa using h1), ?_⟩
  refine ld_count (OwnD.src hO2 hS) (by omega) (by simpa using h1) ?_
  rw [nth_set _ _ _ _ (by omega) h1 (by omega), if_pos rfl]
  intro _ _
  have hz : (decC (nth h (f - 1000))).count = (nth h (f - 1000)).count - 1 := rfl
  refine ⟨fun hc => ?_, fun hc => ?_⟩
  · simp only [decide_eq_true_eq, decide_eq_false_iff_not, Bool.and_eq_true, Bool.and_eq_false_iff, Bool.or_eq_true, Bool.or_eq_false_iff, Bool.not_eq_true', Bool.not_eq_false', Bool.not_true, Bool.not_false, Bool.false_eq_true, Bool.true_eq_false, Int.not_lt, Int.not_le, ge_iff_le, gt_iff_lt, Bool.not_eq_eq_eq_not, Bool.true_or, Bool.or_true, Bool.false_or, Bool.or_false, Bool.true_and, Bool.and_true, false_or, or_false, true_and, and_true, Decidable.not_not] at hc
    refine St.build (α := Int) hS (by (repeat' (first | exact VsOf.nil | apply VsOf.cons | (apply VOf.int; first | assumption | (constructor <;> first | omega | (simp only [List.length_set, List.length_append, List.length_replicate, List.length_cons, List.length_nil, List.length_take, List.length_drop, List.length_map, List.length_singleton] at *; omega))) | exact VOf.bool | exact VOf.str))) rfl (by decide) ?_
    intro x4 w4 I4 hO4 hS hs
    refine ⟨_, rfl, ?_⟩
    refine Own.append hP hS (hO4.src hS) (by simp; omega) (by decide) ?_
    intro x5 w5 I5 hO5 hS
    refine ⟨_, rfl, x5, I2, I5, rfl, hO2, ?_, hS.to⟩
    unfold lowerZ
    simp only
    rw [if_pos (by omega)]; exact hO5
  · simp only [decide_eq_true_eq, decide_eq_false_iff_not, Bool.and_eq_true, Bool.and_eq_false_iff, Bool.or_eq_true, Bool.or_eq_false_iff, Bool.not_eq_true', Bool.not_eq_false', Bool.not_true, Bool.not_false, Bool.false_eq_true, Bool.true_eq_false, Int.not_lt, Int.not_le, ge_iff_le, gt_iff_lt, Bool.not_eq_eq_eq_not, Bool.true_or, Bool.or_true, Bool.false_or, Bool.or_false, Bool.true_and, Bool.and_true, false_or, or_false, true_and, and_true, Decidable.not_not] at hc
    refine ⟨y, I2, J, rfl, hO2, ?_, hS.to⟩
    unfold lowerZ
    simp only
    rw [if_neg (by omega)]; exact hP
end
end Go.Vc

namespace Go.Vc
open Go Go.Proofs Go.RowKit
set_option linter.all false
section
variable {u v w : World} {x y xf : Sl} {l ws fs pend : List Int} {h : List CellD} {z : LazyD} {m n k f : Int} {a : Addr} {I J L R R1 : Items} {F F1 : Items → Items}

theorem c_trimLazy (hx : Read v x h) (hy : Read v y pend) : Fn Try.prog 116 #[.agg #[x.val, y.val]] v (x.cut 0 (trimN h pend h.length) 3).val := by
  refine of116 _ _ _ _ ?_
  unfold vc116
  have hn := hx.n
  have hl := hx.le
  refine ⟨fun i w' => St v w' [] ∧ 0 ≤ i ∧ i ≤ h.length ∧ ∀ j : Int, i ≤ j → j < h.length → (nth h j).count = 0 ∧ j ∉ pend, fun i _ => i.toNat, ⟨.refl v, by omega, by omega, fun j h1 h2 => by omega⟩, ?_⟩
  rintro i w' ⟨hS, h0, h1, h2⟩
  dsimp only
  refine ⟨i - 1, fun hc => wrap_i64 (by omega) (by omega), fun hc => hx.ix (by simp only [decide_eq_true_eq, decide_eq_false_iff_not, Bool.and_eq_true, Bool.and_eq_false_iff, Bool.or_eq_true, Bool.or_eq_false_iff, Bool.not_eq_true', Bool.not_eq_false', Bool.not_true, Bool.not_false, Bool.false_eq_true, Bool.true_eq_false, Int.not_lt, Int.not_le, ge_iff_le, gt_iff_lt, Bool.not_eq_eq_eq_not, Bool.true_or, Bool.or_true, Bool.false_or, Bool.or_false, Bool.true_and, Bool.and_true, false_or, or_false, true_and, and_true, Decidable.not_not] at hc; omega) (by omega), ?_⟩
  refine ld_countg (hx.src hS.sub) (fun hc => ⟨by simp only [decide_eq_true_eq, decide_eq_false_iff_not, Bool.and_eq_true, Bool.and_eq_false_iff, Bool.or_eq_true, Bool.or_eq_false_iff, Bool.not_eq_true', Bool.not_eq_false', Bool.not_true, Bool.not_false, Bool.false_eq_true, Bool.true_eq_false, Int.not_lt, Int.not_le, ge_iff_le, gt_iff_lt, Bool.not_eq_eq_eq_not, Bool.true_or, Bool.or_true, Bool.false_or, Bool.or_false, Bool.true_and, Bool.and_true, false_or, or_false, true_and, and_true, Decidable.not_not] at hc; omega, by omega⟩) ?_
  refine ⟨i - 1, fun hc => wrap_i64 (by omega) (by omega), _, fun _ => c_specIsIn (hy.mono hS.sub), ?_⟩
  refine ⟨fun hc => ?_, fun hc => ?_⟩
  · simp only [decide_eq_true_eq, decide_eq_false_iff_not, Bool.and_eq_true, Bool.and_eq_false_iff, Bool.or_eq_true, Bool.or_eq_false_iff, Bool.not_eq_true', Bool.not_eq_false', Bool.not_true, Bool.not_false, Bool.false_eq_true, Bool.true_eq_false, Int.not_lt, Int.not_le, ge_iff_le, gt_iff_lt, Bool.not_eq_eq_eq_not, Bool.true_or, Bool.or_true, Bool.false_or, Bool.or_false, Bool.true_and, Bool.and_true, false_or, or_false, true_and, and_true, Decidable.not_not] at hc
    refine go_wr (by omega) (by omega) ?_
    refine ⟨rfl, rfl, ⟨hS, by omega, by omega, fun j j0 j1 => ?_⟩, by omega⟩
    by_cases e : j = i - 1
    · rw [e]; exact ⟨hc.1.2, hc.2⟩
    · exact h2 j (by omega) j1
  · simp only [decide_eq_true_eq, decide_eq_false_iff_not, Bool.and_eq_true, Bool.and_eq_false_iff, Bool.or_eq_true, Bool.or_eq_false_iff, Bool.not_eq_true', Bool.not_eq_false', Bool.not_true, Bool.not_false, Bool.false_eq_true, Bool.true_eq_false, Int.not_lt, Int.not_le, ge_iff_le, gt_iff_lt, Bool.not_eq_eq_eq_not, Bool.true_or, Bool.or_true, Bool.false_or, Bool.or_false, Bool.true_and, Bool.and_true, false_or, or_false, true_and, and_true, Decidable.not_not] at hc
    have e : trimN h pend h.length = i.toNat := trimN_eq (by omega) (fun k k0 k1 => h2 k (by omega) k1) (fun hp => by
      rw [Int.toNat_of_nonneg h0]
      rcases hc with (hc | hc) | hc
      · omega
      · exact .inl hc
      · exact .inr hc)
    refine ⟨⟨by omega, by omega, ?_⟩, ?_, hS.sub⟩
    · obtain ⟨_, hr, _⟩ := hx; have := hr.2.1; omega
    · rw [e, Int.toNat_of_nonneg h0]

theorem dropF_len (z : LazyD) (fs : List Int) : (dropF z fs).cells.length = z.cells.length := by
  induction fs generalizing z with
  | nil => rfl
  | cons f r ih => rw [dropF_cons, ih]; split <;> simp [lowerZ]
theorem pend_len {z : LazyD} {todo : List Int} (L : LZ z.cells z.pend todo) : z.pend.length ≤ z.cells.length := by
  have := List.Nodup.length_le_of_subset (l₁ := z.pend) (l₂ := (List.range z.cells.length).map (fun (k : Nat) => (k : Int))) L.pn (fun p hp => by
    have := L.pr p hp
    exact List.mem_map.2 ⟨p.toNat, by simp; omega, by omega⟩)
  simpa using this

theorem c_specSettle (hO : OwnD x z.cells I) (hP : Own u y z.pend J) (hS : St u w L) [p : Pos I L R1 F1] [q : Pos J R1 R F] (hL : LZ z.cells z.pend []) (hm0 : 0 ≤ m) (hm1 : m ≤ 9000000000000000000) (hl : z.cells.length ≤ 1000000000) :
    Trip Try.prog 70 #[.agg #[x.val, y.val], .int .i64 m] w fun r w' => ∃ x' y' I' J', r = .agg #[x'.val, y'.val] ∧ OwnD x' (settleL m.toNat z).cells I' ∧ Own u y' (settleL m.toNat z).pend J' ∧ St u w' (I' ++ (J' ++ R)) := by
  replace hS : St u w (I ++ (J ++ R)) := (hS.perm p.perm.symm).perm (List.Perm.append_left I q.perm.symm)
  refine of70 _ _ _ _ _ ?_
  unfold vc70
  refine ⟨fun i x y w => ∃ I J, OwnD x (settleN i.toNat z).cells I ∧ Own u y (settleN i.toNat z).pend J ∧ St u w (I ++ (J ++ R)) ∧ 0 ≤ i ∧ i ≤ m, fun i _ _ _ => (m - i).toNat, ⟨I, J, hO, hP, hS, by omega, hm0⟩, ?_⟩
  clear hO hP hS
  rintro i x y w ⟨I, J, hO, hP, hS, h0, h1⟩
  obtain ⟨L1, hlen, _⟩ := LZ.settleN i.toNat hL
  have hsucc : settleN (i + 1).toNat z = settle1 (settleN i.toNat z) := by rw [show (i + 1).toNat = i.toNat + 1 from by omega]; exact settleN_succ' _ _
  have hend : ¬ (i < m ∧ (settleN i.toNat z).pend ≠ []) → settleN m.toNat z = settleN i.toNat z := by
    intro hc
    rcases Int.lt_or_le i m with hlt | hge
    · have he : (settleN i.toNat z).pend = [] := Classical.byContradiction fun hn => hc ⟨hlt, hn⟩
      rw [show m.toNat = i.toNat + (m.toNat - i.toNat) from by omega, settleN_add, settleN_nil he]
    · rw [show m = i from by omega]
  dsimp only
  generalize hzz : settleN i.toNat z = zz at *
  obtain ⟨cells, pend⟩ := zz
  simp only at hO hP L1 hlen
  have hyn := hP.n
  have hxn := hO.n
  refine ⟨fun hc => ?_, fun hc => ?_⟩
  · simp only [decide_eq_true_eq, decide_eq_false_iff_not, Bool.and_eq_true, Bool.and_eq_false_iff, Bool.or_eq_true, Bool.or_eq_false_iff, Bool.not_eq_true', Bool.not_eq_false', Bool.not_true, Bool.not_false, Bool.false_eq_true, Bool.true_eq_false, Int.not_lt, Int.not_le, ge_iff_le, gt_iff_lt, Bool.not_eq_eq_eq_not, Bool.true_or, Bool.or_true, Bool.false_or, Bool.or_false, Bool.true_and, Bool.and_true, false_or, or_false, true_and, and_true, Decidable.not_not] at hc
    obtain ⟨at_, r, rfl⟩ : ∃ at_ r, pend = at_ :: r := by
      cases pend with
      | nil => simp at hyn; omega
      | cons a r => exact ⟨a, r, rfl⟩
    obtain ⟨p0, p1, p2⟩ := L1.pr at_ List.mem_cons_self
    refine go_oix hP (Int.le_refl 0) (by simp) ?_
    refine ld_int (Own.read hP hS) (Int.le_refl 0) (by simp) ?_
    have hn0 : nth (at_ :: r) 0 = at_ := rfl
    rw [hn0]
    intro a0 a1
    have hix := hO.ix p0 p1
    refine ⟨hix, ?_⟩
    obtain ⟨row, K, Rest, ⟨f, rfl, _, _, hF⟩, hperm, hcell, hstore⟩ := hO.apart p0 p1
    have hS2 : St u w (K ++ (Rest ++ (J ++ R))) := hS.perm (by rw [← List.append_assoc]; exact hperm.symm.append_right _)
    clear hS hO
    have hld := hcell w (hS2.items (I := Rest)) 2 _ rfl
    refine ⟨f, hld, ⟨by omega, by simp at hyn; omega⟩, ?_⟩
    have hcut := (Own.read hP hS2).cut (lo := 1) (hi := y.n) (by omega) (by simp at hyn; omega) (by omega)
    have hct : ((at_ :: r).take (y.n : Int).toNat).drop (1 : Int).toNat = r := by rw [hyn]; simp
    rw [hct] at hcut
    refine Mk.usew (c_copyInts hcut) hS2 ?_
    rintro _ w2 J2 ⟨y2, rfl, hP2⟩ hS2 hsub
    replace hP2 : Own u y2 r J2 := hP2.ofInts
    refine ⟨_, rfl, ?_⟩
    refine St.build (α := Int) hS2 (by (repeat' (first | exact VsOf.nil | apply VsOf.cons | (apply VOf.int; first | assumption | (constructor <;> first | omega | (simp only [List.length_set, List.length_append, List.length_replicate, List.length_cons, List.length_nil, List.length_take, List.length_drop, List.length_map, List.length_singleton] at *; omega))) | exact VOf.bool | exact VOf.str))) rfl (by decide) ?_
    intro x4 w4 I4 hO4 hS2 hs
    refine ⟨_, rfl, hix, ?_⟩
    refine hstore (off := 0) (a := free0) (J := I4) hS2 (Nat.le_refl 3) ⟨x4, rfl, zero_in, zero_in, hO4.toAll⟩ ?_
    intro w5 Rest' hO5 hS2
    have hpop := LZ.pop (h := cells) (p := at_) (r := r) L1
    have hfl := (L1.cell _ (nth_mem (l := cells) p0 p1)).2.2.1
    have hfn : f.n = (nth cells at_).fields.length := (hF u).n
    have hs1 : settle1 (⟨cells, at_ :: r⟩ : LazyD) = dropF ⟨cells.set at_.toNat free0, r⟩ (nth cells at_).fields := rfl
    generalize hz1 : (⟨cells.set at_.toNat free0, r⟩ : LazyD) = z1 at *
    have hz1c : z1.cells = cells.set at_.toNat free0 := by rw [← hz1]
    have hz1p : z1.pend = r := by rw [← hz1]
    rw [← hz1c] at hO5 hpop
    rw [← hz1p] at hP2 hpop
    refine ⟨fun j x y w => ∃ I J, OwnD x (dropF z1 ((nth cells at_).fields.take j.toNat)).cells I ∧ Own u y (dropF z1 ((nth cells at_).fields.take j.toNat)).pend J ∧ St u w (I ++ (J ++ (K ++ R))) ∧ 0 ≤ j ∧ j ≤ (nth cells at_).fields.length ∧
        LZ (dropF z1 ((nth cells at_).fields.take j.toNat)).cells (dropF z1 ((nth cells at_).fields.take j.toNat)).pend ((nth cells at_).fields.drop j.toNat),
      fun j _ _ _ => ((nth cells at_).fields.length - j).toNat, ⟨Rest' ++ I4, J2, hO5, hP2, by rw [List.append_assoc]; exact hS2.to, by omega, by omega, hpop⟩, ?_⟩
    clear hO5 hP2 hS2 hP hO4
    rintro j x y w ⟨I, J, hO, hP, hS, j0, j1, L2⟩
    dsimp only
    have hdl := dropF_len z1 ((nth cells at_).fields.take j.toNat)
    have hz1l : z1.cells.length = cells.length := by rw [hz1c]; simp
    have hpl := pend_len L2
    refine ⟨fun hj => ?_, fun hj => ?_⟩
    · simp only [decide_eq_true_eq, decide_eq_false_iff_not, Bool.and_eq_true, Bool.and_eq_false_iff, Bool.or_eq_true, Bool.or_eq_false_iff, Bool.not_eq_true', Bool.not_eq_false', Bool.not_true, Bool.not_false, Bool.false_eq_true, Bool.true_eq_false, Int.not_lt, Int.not_le, ge_iff_le, gt_iff_lt, Bool.not_eq_eq_eq_not, Bool.true_or, Bool.or_true, Bool.false_or, Bool.or_false, Bool.true_and, Bool.and_true, false_or, or_false, true_and, and_true, Decidable.not_not] at hj
      have hlt : j.toNat < (nth cells at_).fields.length := by omega
      have hdrop : (nth cells at_).fields.drop j.toNat = nth (nth cells at_).fields j :: (nth cells at_).fields.drop (j + 1).toNat := by
        rw [show (j + 1).toNat = j.toNat + 1 from by omega, List.drop_eq_getElem_cons hlt]
        congr 1
        exact (nth_of (i := j) (by simp [hlt])).symm
      have htake := take_nth (l := (nth cells at_).fields) j0 (by omega)
      have hstep := dropF_snoc z1 (nth (nth cells at_).fields j) ((nth cells at_).fields.take j.toNat)
      rw [← htake] at hstep
      rw [hdrop] at L2
      refine go_oix (hF u) j0 (by omega) ?_
      refine ld_int (Own.read (hF u) hS) j0 (by omega) ?_
      intro b0 b1
      refine ⟨_, c_isPointer, fun hq => ?_, fun hq => ?_⟩
      · simp only [decide_eq_true_eq, decide_eq_false_iff_not, Bool.and_eq_true, Bool.and_eq_false_iff, Bool.or_eq_true, Bool.or_eq_false_iff, Bool.not_eq_true', Bool.not_eq_false', Bool.not_true, Bool.not_false, Bool.false_eq_true, Bool.true_eq_false, Int.not_lt, Int.not_le, ge_iff_le, gt_iff_lt, Bool.not_eq_eq_eq_not, Bool.true_or, Bool.or_true, Bool.false_or, Bool.or_false, Bool.true_and, Bool.and_true, false_or, or_false, true_and, and_true, Decidable.not_not] at hq
        obtain ⟨l1, l2, l3⟩ := live_iff.1 (L2.head hq)
        refine go_oix (hF u) j0 (by omega) ?_
        refine ld_int (Own.read (hF u) hS) j0 (by omega) ?_
        intro _ _
        refine Trip.mono' (c_lower hO hP hS hq l2 l3 b1 (by omega)) ?_
        rintro _ w6 ⟨y6, I6, J6, rfl, hO6, hP6, hS⟩
        refine ⟨_, _, rfl, ?_⟩
        refine go_wr (by omega) (by omega) ?_
        rw [if_pos hq] at hstep
        refine ⟨rfl, rfl, ⟨I6, J6, by rw [hstep]; exact hO6, by rw [hstep]; exact hP6, hS, by omega, by omega, by rw [hstep]; exact L2.lower hq⟩, by omega⟩
      · simp only [decide_eq_true_eq, decide_eq_false_iff_not, Bool.and_eq_true, Bool.and_eq_false_iff, Bool.or_eq_true, Bool.or_eq_false_iff, Bool.not_eq_true', Bool.not_eq_false', Bool.not_true, Bool.not_false, Bool.false_eq_true, Bool.true_eq_false, Int.not_lt, Int.not_le, ge_iff_le, gt_iff_lt, Bool.not_eq_eq_eq_not, Bool.true_or, Bool.or_true, Bool.false_or, Bool.or_false, Bool.true_and, Bool.and_true, false_or, or_false, true_and, and_true, Decidable.not_not] at hq
        refine go_wr (by omega) (by omega) ?_
        rw [if_neg (by omega)] at hstep
        refine ⟨rfl, rfl, ⟨I, J, by rw [hstep]; exact hO, by rw [hstep]; exact hP, hS, by omega, by omega, by rw [hstep]; exact L2.skip (by omega)⟩, by omega⟩
    · simp only [decide_eq_true_eq, decide_eq_false_iff_not, Bool.and_eq_true, Bool.and_eq_false_iff, Bool.or_eq_true, Bool.or_eq_false_iff, Bool.not_eq_true', Bool.not_eq_false', Bool.not_true, Bool.not_false, Bool.false_eq_true, Bool.true_eq_false, Int.not_lt, Int.not_le, ge_iff_le, gt_iff_lt, Bool.not_eq_eq_eq_not, Bool.true_or, Bool.or_true, Bool.false_or, Bool.or_false, Bool.true_and, Bool.and_true, false_or, or_false, true_and, and_true, Decidable.not_not] at hj
      refine go_wr (by omega) (by omega) ?_
      rw [take_all (by omega)] at hO hP
      rw [← hs1, ← hsucc] at hO hP
      exact ⟨rfl, rfl, ⟨I, J, hO, hP, hS.to, by omega, by omega⟩, by omega⟩
  · simp only [decide_eq_true_eq, decide_eq_false_iff_not, Bool.and_eq_true, Bool.and_eq_false_iff, Bool.or_eq_true, Bool.or_eq_false_iff, Bool.not_eq_true', Bool.not_eq_false', Bool.not_true, Bool.not_false, Bool.false_eq_true, Bool.true_eq_false, Int.not_lt, Int.not_le, ge_iff_le, gt_iff_lt, Bool.not_eq_eq_eq_not, Bool.true_or, Bool.or_true, Bool.false_or, Bool.or_false, Bool.true_and, Bool.and_true, false_or, or_false, true_and, and_true, Decidable.not_not] at hc
    have he := hend (by
      rintro ⟨q1, q2⟩
      rcases hc with hc | hc
      · omega
      · exact q2 (List.eq_nil_of_length_eq_zero (by show pend.length = 0; omega)))
    refine Fn.use (c_trimLazy (OwnD.read hO hS) (Own.read hP hS)) hS ?_
    intro w2 hS hsub
    refine ⟨_, rfl, hsub, _, y, I, J, rfl, ?_, ?_, hS⟩
    · have hle := trimN_le cells pend cells.length
      have := hO.cut (hi := (trimN cells pend cells.length : Int)) (by omega) (by omega)
      unfold settleL trimZ
      rw [he]
      simp only [Int.toNat_natCast] at this
      exact this
    · unfold settleL trimZ
      rw [he]; exact hP
end
end Go.Vc

namespace Go.Vc
open Go Go.Proofs Go.RowKit
set_option linter.all false
section
variable {u v w : World} {x y xf : Sl} {l ws fs pend : List Int} {h : List CellD} {z : LazyD} {m n k f : Int} {a : Addr} {I J L R R1 : Items} {F F1 : Items → Items}

theorem c_specLazyDrop (hx : Read v x z.cells) (hy : Read v y z.pend) (hn : InI n) (hl : z.cells.length ≤ 1000000000) :
    Mk Try.prog 21 #[.agg #[x.val, y.val], .int .i64 n] v fun r J => ∃ x' y' : Sl, ∃ J1 J2, r = .tuple #[.agg #[x'.val, y'.val], .bool (dropB z n)] ∧ OwnD x' (dropR z n).cells J1 ∧ Own v y' (dropR z n).pend J2 ∧ J = J1 ++ J2 := by
  refine of21 _ _ _ _ _ ?_
  unfold vc21
  have bad : ¬ dropOk z n → ∀ w I, St v w (I ++ []) → ∃ J, St v w J ∧ ∃ x' y' : Sl, ∃ J1 J2, Value.tuple #[.agg #[.slice none 0 0, .slice none 0 0], .bool false] = .tuple #[.agg #[x'.val, y'.val], .bool (dropB z n)] ∧ OwnD x' (dropR z n).cells J1 ∧ Own v y' (dropR z n).pend J2 ∧ J = J1 ++ J2 :=
    fun hb w I hS => ⟨[], hS.to, ⟨none, 0, 0⟩, ⟨none, 0, 0⟩, [], [], by rw [dropB_f hb]; rfl, by rw [dropR_f hb]; exact OwnD.nil, by rw [dropR_f hb]; exact Own.nil v, rfl⟩
  refine ⟨_, c_validLazy hx hy, _, fun _ => c_isWord hx hn, fun hc => bad (fun hd => ?_) v [] (.refl v), fun hc => ?_⟩
  · simp only [decide_eq_true_eq, decide_eq_false_iff_not, Bool.and_eq_true, Bool.and_eq_false_iff, Bool.or_eq_true, Bool.or_eq_false_iff, Bool.not_eq_true', Bool.not_eq_false', Bool.not_true, Bool.not_false, Bool.false_eq_true, Bool.true_eq_false, Int.not_lt, Int.not_le, ge_iff_le, gt_iff_lt, Bool.not_eq_eq_eq_not, Bool.true_or, Bool.or_true, Bool.false_or, Bool.or_false, Bool.true_and, Bool.and_true, false_or, or_false, true_and, and_true, Decidable.not_not] at hc
    rw [vlazyB_iff.2 hd.1, hd.2.1] at hc
    simp at hc
  simp only [decide_eq_true_eq, decide_eq_false_iff_not, Bool.and_eq_true, Bool.and_eq_false_iff, Bool.or_eq_true, Bool.or_eq_false_iff, Bool.not_eq_true', Bool.not_eq_false', Bool.not_true, Bool.not_false, Bool.false_eq_true, Bool.true_eq_false, Int.not_lt, Int.not_le, ge_iff_le, gt_iff_lt, Bool.not_eq_eq_eq_not, Bool.true_or, Bool.or_true, Bool.false_or, Bool.or_false, Bool.true_and, Bool.and_true, false_or, or_false, true_and, and_true, Decidable.not_not] at hc
  have hv := vlazyB_iff.1 hc.1
  have hw := hc.2
  have hp : ∀ p ∈ z.pend, 0 ≤ p ∧ p < z.cells.length := fun p hp => ⟨(hv.1.1 p hp).1, (hv.1.1 p hp).2.1⟩
  refine Mk.use (c_copyLazy hx hy) (.refl v) ?_
  rintro _ w1 _ ⟨t, s, J1, J2, rfl, hO, hP, rfl⟩ hS hsub
  replace hS : St v w1 (J1 ++ (J2 ++ [])) := hS.perm (by simp)
  refine ⟨_, _, rfl, _, c_isPointer, fun hq => ?_, fun hq => ?_⟩
  · simp only [decide_eq_true_eq, decide_eq_false_iff_not, Bool.and_eq_true, Bool.and_eq_false_iff, Bool.or_eq_true, Bool.or_eq_false_iff, Bool.not_eq_true', Bool.not_eq_false', Bool.not_true, Bool.not_false, Bool.false_eq_true, Bool.true_eq_false, Int.not_lt, Int.not_le, ge_iff_le, gt_iff_lt, Bool.not_eq_eq_eq_not, Bool.true_or, Bool.or_true, Bool.false_or, Bool.or_false, Bool.true_and, Bool.and_true, false_or, or_false, true_and, and_true, Decidable.not_not] at hq
    obtain ⟨_, l2, l3⟩ := live_iff.1 (word_ptr hw hq)
    have hi := hn.2
    have hrl := length_refs (raiseL z.cells z.pend)
    have hrl2 := raiseL_length z.cells z.pend
    refine go_wr (by omega) (by omega) ?_
    refine go_ix hx (by omega) l2 ?_
    refine ld_count (hx.src hS.sub) (by omega) l2 ?_
    intro a0 a1
    refine go_wr (by omega) (by omega) ?_
    refine Mk.use (c_raised hx hy hp) hS ?_
    rintro _ w2 J3 ⟨t3, rfl, hO3⟩ hS hsub
    refine ⟨_, rfl, hsub, ?_⟩
    refine Mk.usew (c_refsOf (OwnD.read hO3 hS) (vheap_len hv.2.1)) hS ?_
    rintro _ w3 J4 ⟨t4, rfl, hO4⟩ hS hsub
    replace hO4 : Own v t4 _ J4 := hO4.ofInts
    refine ⟨_, rfl, hsub, ?_⟩
    refine go_oix hO4 (by omega) (by omega) ?_
    refine ld_int (Own.read hO4 hS) (by omega) (by omega) ?_
    intro b0 b1
    refine ⟨fun hc => bad (fun hd => ?_) w3 (J4 ++ (J3 ++ (J1 ++ J2))) (hS.perm (by simp)), fun hc => ?_⟩
    · simp only [decide_eq_true_eq, decide_eq_false_iff_not, Bool.and_eq_true, Bool.and_eq_false_iff, Bool.or_eq_true, Bool.or_eq_false_iff, Bool.not_eq_true', Bool.not_eq_false', Bool.not_true, Bool.not_false, Bool.false_eq_true, Bool.true_eq_false, Int.not_lt, Int.not_le, ge_iff_le, gt_iff_lt, Bool.not_eq_eq_eq_not, Bool.true_or, Bool.or_true, Bool.false_or, Bool.or_false, Bool.true_and, Bool.and_true, false_or, or_false, true_and, and_true, Decidable.not_not] at hc
      exact hd.2.2 hq hc
    · simp only [decide_eq_true_eq, decide_eq_false_iff_not, Bool.and_eq_true, Bool.and_eq_false_iff, Bool.or_eq_true, Bool.or_eq_false_iff, Bool.not_eq_true', Bool.not_eq_false', Bool.not_true, Bool.not_false, Bool.false_eq_true, Bool.true_eq_false, Int.not_lt, Int.not_le, ge_iff_le, gt_iff_lt, Bool.not_eq_eq_eq_not, Bool.true_or, Bool.or_true, Bool.false_or, Bool.or_false, Bool.true_and, Bool.and_true, false_or, or_false, true_and, and_true, Decidable.not_not] at hc
      have hd : dropOk z n := ⟨hv, hw, fun _ => hc⟩
      have hpl := pend_len' (vlazy_iff.1 hv).1
      refine Trip.mono' (c_lower hO hP hS hq l2 l3 hi (by omega)) ?_
      rintro _ w5 ⟨y5, I5, J5, rfl, hO5, hP5, hS⟩
      refine ⟨_, _, rfl, I5 ++ J5, (hS.to : St v w5 (I5 ++ (J5 ++ []))).perm (by simp), _, _, I5, J5, by rw [dropB_iff.2 hd], ?_, ?_, rfl⟩
      · rw [dropR_t hd, dropZ, if_pos hq]; exact hO5
      · rw [dropR_t hd, dropZ, if_pos hq]; exact hP5
  · simp only [decide_eq_true_eq, decide_eq_false_iff_not, Bool.and_eq_true, Bool.and_eq_false_iff, Bool.or_eq_true, Bool.or_eq_false_iff, Bool.not_eq_true', Bool.not_eq_false', Bool.not_true, Bool.not_false, Bool.false_eq_true, Bool.true_eq_false, Int.not_lt, Int.not_le, ge_iff_le, gt_iff_lt, Bool.not_eq_eq_eq_not, Bool.true_or, Bool.or_true, Bool.false_or, Bool.or_false, Bool.true_and, Bool.and_true, false_or, or_false, true_and, and_true, Decidable.not_not] at hq
    have hd : dropOk z n := ⟨hv, hw, fun h => by omega⟩
    refine ⟨J1 ++ J2, hS.perm (by simp), _, _, J1, J2, by rw [dropB_iff.2 hd], ?_, ?_, rfl⟩
    · rw [dropR_t hd, dropZ, if_neg (by omega)]; exact hO
    · rw [dropR_t hd, dropZ, if_neg (by omega)]; exact hP

theorem c_specSettle0 (hO : OwnD x z.cells I) (hP : Own u y z.pend J) (hS : St u w L) [p : Pos I L R1 F1] [q : Pos J R1 R F] (hp : z.pend = []) (hm0 : 0 ≤ m) :
    Trip Try.prog 70 #[.agg #[x.val, y.val], .int .i64 m] w fun r w' => ∃ x' y' I' J', r = .agg #[x'.val, y'.val] ∧ OwnD x' (settleL m.toNat z).cells I' ∧ Own u y' (settleL m.toNat z).pend J' ∧ St u w' (I' ++ (J' ++ R)) := by
  replace hS : St u w (I ++ (J ++ R)) := (hS.perm p.perm.symm).perm (List.Perm.append_left I q.perm.symm)
  refine of70 _ _ _ _ _ ?_
  unfold vc70
  refine ⟨fun i x' y' w' => i = 0 ∧ x' = x ∧ y' = y ∧ St u w' (I ++ (J ++ R)), fun _ _ _ _ => 0, ⟨rfl, rfl, rfl, hS⟩, ?_⟩
  clear hS
  rintro i x' y' w ⟨rfl, rfl, rfl, hS⟩
  have hyn := hP.n
  rw [hp] at hyn
  dsimp only
  refine ⟨fun hc => ?_, fun hc => ?_⟩
  · simp only [decide_eq_true_eq, decide_eq_false_iff_not, Bool.and_eq_true, Bool.and_eq_false_iff, Bool.or_eq_true, Bool.or_eq_false_iff, Bool.not_eq_true', Bool.not_eq_false', Bool.not_true, Bool.not_false, Bool.false_eq_true, Bool.true_eq_false, Int.not_lt, Int.not_le, ge_iff_le, gt_iff_lt, Bool.not_eq_eq_eq_not, Bool.true_or, Bool.or_true, Bool.false_or, Bool.or_false, Bool.true_and, Bool.and_true, false_or, or_false, true_and, and_true, Decidable.not_not] at hc
    simp at hyn
    omega
  · have he : settleN m.toNat z = z := settleN_nil hp _
    refine Fn.use (c_trimLazy (OwnD.read hO hS) (Own.read hP hS)) hS ?_
    intro w2 hS hsub
    refine ⟨_, rfl, hsub, _, _, I, J, rfl, ?_, ?_, hS⟩
    · have hle := trimN_le z.cells z.pend z.cells.length
      have := hO.cut (hi := (trimN z.cells z.pend z.cells.length : Int)) (by omega) (by omega)
      unfold settleL trimZ
      rw [he]
      simp only [Int.toNat_natCast] at this
      exact this
    · unfold settleL trimZ
      rw [he]; exact hP

theorem settleL_len {z : LazyD} (n : Nat) (hz : z.pend = [] ∨ vlazy z) : (settleL n z).cells.length ≤ z.cells.length ∧ ((settleL n z).pend = [] ∨ vlazy (settleL n z)) := by
  rcases hz with hz | hz
  · unfold settleL trimZ
    rw [settleN_nil hz]
    exact ⟨by simp; omega, .inl hz⟩
  · have L := (vlazy_iff.1 hz).1
    refine ⟨?_, .inr (settle_valid L n)⟩
    have := (LZ.settleN n L).2.1
    unfold settleL trimZ
    simp only [List.length_take]
    omega

theorem c_goodLazy (hr : Rdr u a m I) (hS : St u w L) [p : Pos I L R F] (hm : m ≤ 999980000) :
    Trip Try.prog 110 #[.pointer (some (a.add 0))] w fun r w' => ∃ x y, ∃ (z : LazyD), ∃ J K I', r = .agg #[x.val, y.val] ∧ OwnD x z.cells J ∧ Own u y z.pend K ∧ Rdr u a (m + 900) I' ∧ St u w' (J ++ (K ++ (I' ++ R))) ∧ z.cells.length ≤ 60 ∧ z.pend.length ≤ 60 := by
  replace hS := hS.front (I := I)
  refine of110 _ _ _ ?_
  unfold vc110
  refine Trip.mono' (c_goodHeap hr hS (by omega)) ?_
  rintro _ w1 ⟨x, h, J, I1, rfl, hO, hR, hS, hG⟩
  have hG1 := hG.1
  refine ⟨_, rfl, ?_⟩
  refine St.build (α := Int) hS (by (repeat' (first | exact VsOf.nil | apply VsOf.cons | (apply VOf.int; first | assumption | (constructor <;> first | omega | (simp only [List.length_set, List.length_append, List.length_replicate, List.length_cons, List.length_nil, List.length_take, List.length_drop, List.length_map, List.length_singleton] at *; omega))) | exact VOf.bool | exact VOf.str))) rfl (by decide) ?_
  intro y w2 K hP hS hs
  refine ⟨_, rfl, ?_⟩
  refine Trip.mono' (c_pick (n := 7) hR hS (by omega) (by omega) (by omega)) ?_
  rintro _ w3 ⟨n0, I3, rfl, hR, hS, a0, a1, a2⟩
  refine ⟨_, rfl, ?_⟩
  refine ⟨fun n x y w => ∃ (z : LazyD), ∃ J K I, OwnD x z.cells J ∧ Own u y z.pend K ∧ Rdr u a (m + 900 - 10 * n) I ∧ St u w (J ++ (K ++ (I ++ R))) ∧ 0 ≤ n ∧ n ≤ 7 ∧ z.cells.length ≤ 60 ∧ (z.pend = [] ∨ vlazy z), fun n _ _ _ => n.toNat,
    ⟨⟨h, []⟩, J, K, I3, hO, hP, hR.le (by omega), hS.to, by omega, by omega, (by show h.length ≤ 60; omega), .inl rfl⟩, ?_⟩
  clear hO hP hR hS hG
  rintro n x y w ⟨z, J, K, I, hO, hP, hR, hS, n0, n1, hzl, hz⟩
  have hon := hO.n
  dsimp only
  refine ⟨fun hc => ?_, fun hc => ?_⟩
  · simp only [decide_eq_true_eq, decide_eq_false_iff_not, Bool.and_eq_true, Bool.and_eq_false_iff, Bool.or_eq_true, Bool.or_eq_false_iff, Bool.not_eq_true', Bool.not_eq_false', Bool.not_true, Bool.not_false, Bool.false_eq_true, Bool.true_eq_false, Int.not_lt, Int.not_le, ge_iff_le, gt_iff_lt, Bool.not_eq_eq_eq_not, Bool.true_or, Bool.or_true, Bool.false_or, Bool.or_false, Bool.true_and, Bool.and_true, false_or, or_false, true_and, and_true, Decidable.not_not] at hc
    refine ⟨?_, .refl _, ?_⟩
    all_goals
      refine Trip.mono' (c_pick (n := x.n) hR hS (by omega) (by omega) (by omega)) ?_
      rintro _ w4 ⟨k4, I4, rfl, hR, hS, b0, b1, b2⟩
      refine ⟨_, rfl, ?_⟩
      refine go_wr (by omega) (by omega) ?_
    refine ⟨?_, .refl _, ?_⟩
    all_goals
      refine Mk.usew (c_specLazyDrop (z := z) (n := 1000 + k4) (OwnD.read hO hS) (Own.read hP hS) ⟨by omega, by omega⟩ (by omega)) hS ?_
      rintro _ w5 _ ⟨x5, y5, J5, K5, rfl, hO5, hP5, rfl⟩ hS hsub
      replace hP5 : Own u y5 _ K5 := hP5.ofInts
      replace hS : St u w5 (J5 ++ (K5 ++ (I4 ++ (J ++ (K ++ R))))) := hS.perm (by simp)
      refine ⟨_, _, _, rfl, ?_⟩
      try (refine ⟨.refl _, ?_⟩)
      refine ⟨fun hd => ?_, fun hd => ?_⟩
      · replace hd := dropB_iff.1 hd
        rw [dropR_t hd] at hO5 hP5
        have hz5 : (dropZ z (1000 + k4)).pend = [] ∨ vlazy (dropZ z (1000 + k4)) := .inr (drop_valid hd)
        have hl5 := dropZ_len z (1000 + k4)
        refine Trip.mono' (c_pick (n := 5) hR hS (by omega) (by omega) (by omega)) ?_
        rintro _ w6 ⟨k6, I6, rfl, hR, hS, c0, c1, c2⟩
        refine ⟨_, rfl, fun hc => ?_, fun hc => ?_⟩
        · refine Trip.mono' (c_specSettle (m := 1) hO5 hP5 hS (vlazy_iff.1 (drop_valid hd)).1 (by omega) (by omega) (by omega)) ?_
          rintro _ w7 ⟨x7, y7, J7, K7, rfl, hO7, hP7, hS⟩
          obtain ⟨e1, e2⟩ := settleL_len (1 : Int).toNat hz5
          refine ⟨_, _, rfl, ?_⟩
          refine go_wr (by omega) (by omega) ?_
          exact ⟨rfl, rfl, ⟨_, J7, K7, I6, hO7, hP7, hR.le (by omega), hS.to, by omega, by omega, by omega, e2⟩, by omega⟩
        · refine go_wr (by omega) (by omega) ?_
          exact ⟨rfl, rfl, ⟨_, J5, K5, I6, hO5, hP5, hR.le (by omega), hS.to, by omega, by omega, by omega, hz5⟩, by omega⟩
      · refine Trip.mono' (c_pick (n := 5) hR hS (by omega) (by omega) (by omega)) ?_
        rintro _ w6 ⟨k6, I6, rfl, hR, hS, c0, c1, c2⟩
        refine ⟨_, rfl, fun hc => ?_, fun hc => ?_⟩
        · have hS' : St u w6 (J ++ (K ++ (I6 ++ R))) := hS.to
          have hst : Trip Try.prog 70 #[.agg #[x.val, y.val], .int .i64 1] w6 fun r w' => ∃ x' y' I' J', r = .agg #[x'.val, y'.val] ∧ OwnD x' (settleL (1 : Int).toNat z).cells I' ∧ Own u y' (settleL (1 : Int).toNat z).pend J' ∧ St u w' (I' ++ (J' ++ (I6 ++ R))) := by
            rcases hz with hz | hz
            · exact c_specSettle0 hO hP hS' hz (by omega)
            · exact c_specSettle hO hP hS' (vlazy_iff.1 hz).1 (by omega) (by omega) (by omega)
          refine Trip.mono' hst ?_
          rintro _ w7 ⟨x7, y7, J7, K7, rfl, hO7, hP7, hS⟩
          obtain ⟨e1, e2⟩ := settleL_len (1 : Int).toNat hz
          refine ⟨_, _, rfl, ?_⟩
          refine go_wr (by omega) (by omega) ?_
          exact ⟨rfl, rfl, ⟨_, J7, K7, I6, hO7, hP7, hR.le (by omega), hS.to, by omega, by omega, by omega, e2⟩, by omega⟩
        · refine go_wr (by omega) (by omega) ?_
          exact ⟨rfl, rfl, ⟨_, J, K, I6, hO, hP, hR.le (by omega), hS.to, by omega, by omega, by omega, hz⟩, by omega⟩
  · refine ⟨x, y, z, J, K, I, rfl, hO, hP, hR.le (by omega), hS, hzl, ?_⟩
    rcases hz with hz | hz
    · rw [hz]; simp
    · have := pend_len' (vlazy_iff.1 hz).1; omega

theorem in_wrap (n : Int) : InI (IntKind.wrap .i64 n) := by
  have : IntKind.i64.wrap n = (n + 9223372036854775808) % 18446744073709551616 - 9223372036854775808 := by
    simp only [IntKind.wrap, IntKind.bits, IntKind.signed]
    simp
    split <;> omega
  rw [this]
  exact ⟨by omega, by omega⟩

theorem in_wrap' {n r : Int} (h : IntKind.wrap .i64 n = r) : InI r := h ▸ in_wrap n

theorem c_anyLazy (hr : Rdr u a m I) (hS : St u w L) [p : Pos I L R F] (hm : m ≤ 999970000) :
    Trip Try.prog 61 #[.pointer (some (a.add 0))] w fun r w' => ∃ x y, ∃ (z : LazyD), ∃ J K I', r = .agg #[x.val, y.val] ∧ OwnD x z.cells J ∧ Own u y z.pend K ∧ Rdr u a (m + 910) I' ∧ St u w' (J ++ (K ++ (I' ++ R))) ∧ z.cells.length ≤ 60 ∧ z.pend.length ≤ 61 := by
  replace hS := hS.front (I := I)
  refine of61 _ _ _ ?_
  unfold vc61
  refine Trip.mono' (c_goodLazy hr hS (by omega)) ?_
  rintro _ w1 ⟨x, y, z, J, K, I1, rfl, hO, hP, hR, hS, hzl, hpl⟩
  have hon := hO.n
  have hyn := hP.n
  refine ⟨_, _, rfl, ?_⟩
  refine go_max ?_
  refine Trip.mono' (c_pick (n := 20) hR hS (by omega) (by omega) (by omega)) ?_
  rintro _ w2 ⟨n8, I2, rfl, hR, hS, a0, a1, a2⟩
  refine ⟨_, rfl, fun hc => ?_, fun hc => ⟨fun hc => ⟨fun hc => ?_, fun hc => ?_⟩, fun hc => ⟨fun hc => ⟨fun hc => ?_, fun hc => ?_⟩, fun hc => ?_⟩⟩⟩
  · refine Trip.mono' (c_pick (n := max 1 x.n) hR hS (by omega) (by omega) (by omega)) ?_
    rintro _ w3 ⟨k, I3, rfl, hR, hS, b0, b1, b2⟩
    refine ⟨_, rfl, ?_⟩
    refine St.build (α := Int) hS (by (repeat' (first | exact VsOf.nil | apply VsOf.cons | (apply VOf.int; first | assumption | (constructor <;> first | omega | (simp only [List.length_set, List.length_append, List.length_replicate, List.length_cons, List.length_nil, List.length_take, List.length_drop, List.length_map, List.length_singleton] at *; omega))) | exact VOf.bool | exact VOf.str))) rfl (by decide) ?_
    intro x4 w4 I4 hO4 hS hs
    refine ⟨_, rfl, ?_⟩
    refine Trip.mono' (c_one hR hO4 hS (by omega) (by simp) (by simp)) ?_
    rintro _ w5 ⟨k5, I5, rfl, hR, hS, hk5⟩
    have hki : InI k5 := by simp only [List.mem_cons, List.not_mem_nil, or_false] at hk5; omega
    refine ⟨_, rfl, ?_⟩
    refine St.build (α := Int) hS (by (repeat' (first | exact VsOf.nil | apply VsOf.cons | (apply VOf.int; first | assumption | (constructor <;> first | omega | (simp only [List.length_set, List.length_append, List.length_replicate, List.length_cons, List.length_nil, List.length_take, List.length_drop, List.length_map, List.length_singleton] at *; omega))) | exact VOf.bool | exact VOf.str))) rfl (by decide) ?_
    intro x6 w6 I6 hO6 hS hs
    refine ⟨_, rfl, ?_⟩
    refine Own.append hP hS (hO6.src hS) (by simp; omega) (by decide) ?_
    intro x7 w7 I7 hO7 hS
    exact ⟨_, rfl, x, x7, ⟨z.cells, z.pend ++ [k5]⟩, J, I7, I5, rfl, hO, hO7, hR.le (by omega), hS.to, hzl, by simp; omega⟩
  · simp only [decide_eq_true_eq, decide_eq_false_iff_not, Bool.and_eq_true, Bool.and_eq_false_iff, Bool.or_eq_true, Bool.or_eq_false_iff, Bool.not_eq_true', Bool.not_eq_false', Bool.not_true, Bool.not_false, Bool.false_eq_true, Bool.true_eq_false, Int.not_lt, Int.not_le, ge_iff_le, gt_iff_lt, Bool.not_eq_eq_eq_not, Bool.true_or, Bool.or_true, Bool.false_or, Bool.or_false, Bool.true_and, Bool.and_true, false_or, or_false, true_and, and_true, Decidable.not_not] at hc
    have hcut := hP.cut (lo := 1) (hi := y.n) (by omega) (by omega) (by omega)
    refine ⟨⟨by omega, by omega⟩, x, _, ⟨z.cells, (z.pend.take (y.n : Int).toNat).drop (1 : Int).toNat⟩, J, K, I2, rfl, hO, hcut, hR.le (by omega), hS.to, hzl, by simp; omega⟩
  · exact ⟨x, y, z, J, K, I2, rfl, hO, hP, hR.le (by omega), hS.to, hzl, by omega⟩
  · simp only [decide_eq_true_eq, decide_eq_false_iff_not, Bool.and_eq_true, Bool.and_eq_false_iff, Bool.or_eq_true, Bool.or_eq_false_iff, Bool.not_eq_true', Bool.not_eq_false', Bool.not_true, Bool.not_false, Bool.false_eq_true, Bool.true_eq_false, Int.not_lt, Int.not_le, ge_iff_le, gt_iff_lt, Bool.not_eq_eq_eq_not, Bool.true_or, Bool.or_true, Bool.false_or, Bool.or_false, Bool.true_and, Bool.and_true, false_or, or_false, true_and, and_true, Decidable.not_not] at hc
    refine Trip.mono' (c_pick (n := max 1 x.n) hR hS (by omega) (by omega) (by omega)) ?_
    rintro _ w3 ⟨k, I3, rfl, hR, hS, k0, b1, b2⟩
    have hk : k < z.cells.length := by omega
    refine ⟨_, rfl, ⟨hO.ix k0 hk, ?_, ?_⟩, ?_⟩
    · refine ld_count (OwnD.src hO hS) k0 hk ?_
      intro c0 c1
      refine St.build (α := Int) hS (by (repeat' (first | exact VsOf.nil | apply VsOf.cons | (apply VOf.int; first | assumption | (constructor <;> first | omega | (simp only [List.length_set, List.length_append, List.length_replicate, List.length_cons, List.length_nil, List.length_take, List.length_drop, List.length_map, List.length_singleton] at *; omega))) | exact VOf.bool | exact VOf.str))) rfl (by decide) ?_
      intro x4 w4 I4 hO4 hS hs
      refine ⟨_, rfl, ?_⟩
      refine Trip.mono' (c_one hR hO4 hS (by omega) (by simp) (by simp)) ?_
      rintro _ w5 ⟨k5, I5, rfl, hR, hS, hk5⟩
      refine ⟨_, rfl, ?_⟩
      (refine go_wrap ?_; intro r hr; have hri := in_wrap' hr; refine ⟨hO.ix k0 hk, ?_⟩; refine OwnD.store hO hS k0 hk (⟨r, (nth z.cells k).tag, (nth z.cells k).fields⟩ : CellD) [] (Nat.le_of_ble_eq_true rfl) (fun r K hr => by obtain ⟨f, rfl, q1, q2, q3⟩ := hr; exact ⟨K, ⟨f, rfl, hri, q2, q3⟩, .inr ⟨rfl, rfl⟩⟩) ?_; intro w9 I9 hO9 hS; rw [List.append_nil] at hO9; exact ⟨x, y, ⟨z.cells.set k.toNat ⟨r, (nth z.cells k).tag, (nth z.cells k).fields⟩, z.pend⟩, I9, K, _, rfl, hO9, hP, hR.le (by omega), hS.to, by simpa using hzl, by show z.pend.length ≤ 61; omega⟩)
    · refine St.build (α := Int) hS (by (repeat' (first | exact VsOf.nil | apply VsOf.cons | (apply VOf.int; first | assumption | (constructor <;> first | omega | (simp only [List.length_set, List.length_append, List.length_replicate, List.length_cons, List.length_nil, List.length_take, List.length_drop, List.length_map, List.length_singleton] at *; omega))) | exact VOf.bool | exact VOf.str))) rfl (by decide) ?_
      intro x4 w4 I4 hO4 hS hs
      refine ⟨_, rfl, ?_, ?_⟩
      · refine ld_count (OwnD.src hO hS) k0 hk ?_
        intro c0 c1
        refine Trip.mono' (c_one hR hO4 hS (by omega) (by simp) (by simp)) ?_
        rintro _ w5 ⟨k5, I5, rfl, hR, hS, hk5⟩
        refine ⟨_, rfl, ?_⟩
        (refine go_wrap ?_; intro r hr; have hri := in_wrap' hr; refine ⟨hO.ix k0 hk, ?_⟩; refine OwnD.store hO hS k0 hk (⟨r, (nth z.cells k).tag, (nth z.cells k).fields⟩ : CellD) [] (Nat.le_of_ble_eq_true rfl) (fun r K hr => by obtain ⟨f, rfl, q1, q2, q3⟩ := hr; exact ⟨K, ⟨f, rfl, hri, q2, q3⟩, .inr ⟨rfl, rfl⟩⟩) ?_; intro w9 I9 hO9 hS; rw [List.append_nil] at hO9; exact ⟨x, y, ⟨z.cells.set k.toNat ⟨r, (nth z.cells k).tag, (nth z.cells k).fields⟩, z.pend⟩, I9, K, _, rfl, hO9, hP, hR.le (by omega), hS.to, by simpa using hzl, by show z.pend.length ≤ 61; omega⟩)
      · refine Trip.mono' (c_one hR hO4 hS (by omega) (by simp) (by simp)) ?_
        rintro _ w5 ⟨k5, I5, rfl, hR, hS, hk5⟩
        refine ⟨_, rfl, ?_⟩
        refine ld_count (OwnD.src hO hS) k0 hk ?_
        intro c0 c1
        (refine go_wrap ?_; intro r hr; have hri := in_wrap' hr; refine ⟨hO.ix k0 hk, ?_⟩; refine OwnD.store hO hS k0 hk (⟨r, (nth z.cells k).tag, (nth z.cells k).fields⟩ : CellD) [] (Nat.le_of_ble_eq_true rfl) (fun r K hr => by obtain ⟨f, rfl, q1, q2, q3⟩ := hr; exact ⟨K, ⟨f, rfl, hri, q2, q3⟩, .inr ⟨rfl, rfl⟩⟩) ?_; intro w9 I9 hO9 hS; rw [List.append_nil] at hO9; exact ⟨x, y, ⟨z.cells.set k.toNat ⟨r, (nth z.cells k).tag, (nth z.cells k).fields⟩, z.pend⟩, I9, K, _, rfl, hO9, hP, hR.le (by omega), hS.to, by simpa using hzl, by show z.pend.length ≤ 61; omega⟩)
    · refine St.build (α := Int) hS (by (repeat' (first | exact VsOf.nil | apply VsOf.cons | (apply VOf.int; first | assumption | (constructor <;> first | omega | (simp only [List.length_set, List.length_append, List.length_replicate, List.length_cons, List.length_nil, List.length_take, List.length_drop, List.length_map, List.length_singleton] at *; omega))) | exact VOf.bool | exact VOf.str))) rfl (by decide) ?_
      intro x4 w4 I4 hO4 hS hs
      refine ⟨_, rfl, ⟨hO.ix k0 hk, ?_, ?_⟩, ?_⟩
      · refine ld_count (OwnD.src hO hS) k0 hk ?_
        intro c0 c1
        refine Trip.mono' (c_one hR hO4 hS (by omega) (by simp) (by simp)) ?_
        rintro _ w5 ⟨k5, I5, rfl, hR, hS, hk5⟩
        refine ⟨_, rfl, ?_⟩
        (refine go_wrap ?_; intro r hr; have hri := in_wrap' hr; refine ⟨hO.ix k0 hk, ?_⟩; refine OwnD.store hO hS k0 hk (⟨r, (nth z.cells k).tag, (nth z.cells k).fields⟩ : CellD) [] (Nat.le_of_ble_eq_true rfl) (fun r K hr => by obtain ⟨f, rfl, q1, q2, q3⟩ := hr; exact ⟨K, ⟨f, rfl, hri, q2, q3⟩, .inr ⟨rfl, rfl⟩⟩) ?_; intro w9 I9 hO9 hS; rw [List.append_nil] at hO9; exact ⟨x, y, ⟨z.cells.set k.toNat ⟨r, (nth z.cells k).tag, (nth z.cells k).fields⟩, z.pend⟩, I9, K, _, rfl, hO9, hP, hR.le (by omega), hS.to, by simpa using hzl, by show z.pend.length ≤ 61; omega⟩)
      · refine Trip.mono' (c_one hR hO4 hS (by omega) (by simp) (by simp)) ?_
        rintro _ w5 ⟨k5, I5, rfl, hR, hS, hk5⟩
        refine ⟨_, rfl, ?_⟩
        refine ld_count (OwnD.src hO hS) k0 hk ?_
        intro c0 c1
        (refine go_wrap ?_; intro r hr; have hri := in_wrap' hr; refine ⟨hO.ix k0 hk, ?_⟩; refine OwnD.store hO hS k0 hk (⟨r, (nth z.cells k).tag, (nth z.cells k).fields⟩ : CellD) [] (Nat.le_of_ble_eq_true rfl) (fun r K hr => by obtain ⟨f, rfl, q1, q2, q3⟩ := hr; exact ⟨K, ⟨f, rfl, hri, q2, q3⟩, .inr ⟨rfl, rfl⟩⟩) ?_; intro w9 I9 hO9 hS; rw [List.append_nil] at hO9; exact ⟨x, y, ⟨z.cells.set k.toNat ⟨r, (nth z.cells k).tag, (nth z.cells k).fields⟩, z.pend⟩, I9, K, _, rfl, hO9, hP, hR.le (by omega), hS.to, by simpa using hzl, by show z.pend.length ≤ 61; omega⟩)
      · refine Trip.mono' (c_one hR hO4 hS (by omega) (by simp) (by simp)) ?_
        rintro _ w5 ⟨k5, I5, rfl, hR, hS, hk5⟩
        refine ⟨_, rfl, hO.ix k0 hk, ?_⟩
        refine ld_count (OwnD.src hO hS) k0 hk ?_
        intro c0 c1
        (refine go_wrap ?_; intro r hr; have hri := in_wrap' hr; refine ⟨hO.ix k0 hk, ?_⟩; refine OwnD.store hO hS k0 hk (⟨r, (nth z.cells k).tag, (nth z.cells k).fields⟩ : CellD) [] (Nat.le_of_ble_eq_true rfl) (fun r K hr => by obtain ⟨f, rfl, q1, q2, q3⟩ := hr; exact ⟨K, ⟨f, rfl, hri, q2, q3⟩, .inr ⟨rfl, rfl⟩⟩) ?_; intro w9 I9 hO9 hS; rw [List.append_nil] at hO9; exact ⟨x, y, ⟨z.cells.set k.toNat ⟨r, (nth z.cells k).tag, (nth z.cells k).fields⟩, z.pend⟩, I9, K, _, rfl, hO9, hP, hR.le (by omega), hS.to, by simpa using hzl, by show z.pend.length ≤ 61; omega⟩)
  · exact ⟨x, y, z, J, K, I2, rfl, hO, hP, hR.le (by omega), hS.to, hzl, by omega⟩
  · exact ⟨x, y, z, J, K, I2, rfl, hO, hP, hR.le (by omega), hS.to, hzl, by omega⟩

theorem c_DrawLazyDrop {code : List UInt8} (hx : Read v x code) : Mk Try.prog 19 #[x.val] v fun r J => ∃ y t, ∃ (z : LazyD) (n : Int), ∃ J1 J2, r = .tuple #[.agg #[y.val, t.val], .int .i64 n] ∧ OwnD y z.cells J1 ∧ Own v t z.pend J2 ∧ InI n ∧ z.cells.length ≤ 60 ∧ z.pend.length ≤ 61 ∧ J = J1 ++ J2 := by
  refine of19 _ _ _ ?_
  unfold vc19
  refine Mk.use (c_newReader hx) (.refl v) ?_
  rintro _ w1 J1 ⟨a, rfl, hR⟩ hS hsub
  refine ⟨_, rfl, ?_⟩
  refine Trip.mono' (c_anyLazy hR hS (by omega)) ?_
  rintro _ w2 ⟨x, y, z, J, K, I, rfl, hO, hP, hR, hS, hzl, hpl⟩
  have hon := hO.n
  refine ⟨_, _, rfl, ?_⟩
  refine Trip.mono' (c_wordFor (n := x.n) hR hS (by omega) (by omega) (by omega)) ?_
  rintro _ w3 ⟨k, I3, rfl, hk, hR, hS⟩
  exact ⟨_, rfl, J ++ K, (hS.to : St v w3 (J ++ (K ++ []))).perm (by simp), x, y, z, k, J, K, rfl, hO, hP, hk, hzl, hpl, rfl⟩
end
end Go.Vc

namespace Go.Vc
open Go Go.Proofs Go.RowKit
set_option linter.all false
section
variable {u v w : World} {x y xf : Sl} {l ws fs pend : List Int} {h : List CellD} {z : LazyD} {m n k f : Int} {a : Addr} {I J L R R1 : Items} {F F1 : Items → Items}

theorem c_cloneCells (hx : Read v x h) : Mk Try.prog 120 #[x.val] v fun r J => ∃ y, r = y.val ∧ Own v y h J := by
  refine of120 _ _ _ ?_
  unfold vc120
  have hS := St.refl v
  have hl := hx.le
  refine go_nil ⟨fun hc => ?_, fun _ => ?_⟩
  · have := hx.nil_of (Option.isNone_iff_eq_none.1 hc)
    subst this
    exact ⟨[], hS, _, rfl, Own.nil v⟩
  refine St.build (α := CellD) hS (by (repeat' (first | exact VsOf.nil | apply VsOf.cons | (apply VOf.int; first | assumption | (constructor <;> first | omega | (simp only [List.length_set, List.length_append, List.length_replicate, List.length_cons, List.length_nil, List.length_take, List.length_drop, List.length_map, List.length_singleton] at *; omega))) | exact VOf.bool | exact VOf.str))) rfl (by decide) ?_
  intro x1 w1 I1 hO hS hs
  refine ⟨_, rfl, ?_⟩
  refine Own.append hO hS (hx.src hS.sub) (by simp; omega) (by decide) ?_
  intro x2 w2 I2 hO hS
  exact ⟨_, rfl, I2, by simpa using hS, _, rfl, by simpa using hO⟩

theorem set_same {α : Type} [Inhabited α] {l : List α} {i : Int} (h0 : 0 ≤ i) (h1 : i < l.length) : l.set i.toNat (nth l i) = l := by
  refine List.ext_getElem? fun j => ?_
  rw [List.getElem?_set]
  split
  · rename_i e
    subst e
    rw [if_pos (by omega), ← nth_get h0 h1]
  · rfl

theorem c_cloneHeap (hx : Read v x h) : Trip Try.prog 83 #[x.val] v fun r w => ∃ y u' I, r = y.val ∧ Sub v u' ∧ St u' w I ∧ Own u' y h I := by
  refine of83 _ _ _ ?_
  unfold vc83
  have hn := hx.n
  have hl := hx.le
  refine Mk.use (c_cloneCells hx) (.refl v) ?_
  rintro _ w1 J1 ⟨y, rfl, hO⟩ hS hsub
  refine ⟨_, rfl, ?_⟩
  refine ⟨fun i w => ∃ u' I, Sub v u' ∧ St u' w (I ++ []) ∧ Own u' y h I ∧ 0 ≤ i ∧ i ≤ h.length, fun i _ => (h.length - i).toNat, ⟨v, J1, .refl v, hS, hO, by omega, by omega⟩, ?_⟩
  clear hO hS
  rintro i w ⟨u', I, hvu, hS, hO, h0, h1⟩
  dsimp only
  refine ⟨fun hi => ?_, fun hi => ⟨y, u', I, rfl, hvu, by simpa using hS, hO⟩⟩
  simp only [decide_eq_true_eq, decide_eq_false_iff_not, Bool.and_eq_true, Bool.and_eq_false_iff, Bool.or_eq_true, Bool.or_eq_false_iff, Bool.not_eq_true', Bool.not_eq_false', Bool.not_true, Bool.not_false, Bool.false_eq_true, Bool.true_eq_false, Int.not_lt, Int.not_le, ge_iff_le, gt_iff_lt, Bool.not_eq_eq_eq_not, Bool.true_or, Bool.or_true, Bool.false_or, Bool.or_false, Bool.true_and, Bool.and_true, false_or, or_false, true_and, and_true, Decidable.not_not] at hi
  refine go_ix hx h0 (by omega) ?_
  refine ld_cell (hx.src (hvu.trans hS.sub)) h0 (by omega) ?_
  intro f hf hcI htI
  refine Mk.use (c_cloneInts (hf.mono hvu)) hS ?_
  rintro _ w2 J2 ⟨t, rfl, hT⟩ hS hsub
  refine ⟨_, rfl, ?_⟩
  obtain ⟨u2, hu2, hS, hJ⟩ := hS.freeze J2
  have ht : Read u2 t _ := hT.read1 hJ
  refine ⟨hO.ix h0 (by omega), ?_⟩
  refine Own.store (hO.mono hu2) hS h0 (by omega) (nth h i) (Nat.le_of_ble_eq_true rfl) (fun r hr => ?_) ?_
  · obtain ⟨f, rfl, c1, c2, c3⟩ := hr
    exact ⟨t, rfl, c1, c2, ht⟩
  intro w3 I3 hO3 hS
  rw [set_same h0 (by omega)] at hO3
  refine go_wr (by omega) (by omega) ?_
  exact ⟨⟨u2, I3, hvu.trans hu2, hS, hO3, by omega, by omega⟩, by omega⟩

theorem c_cloneLazy (hx : Read v x z.cells) (hy : Read v y z.pend) : Trip Try.prog 64 #[.agg #[x.val, y.val]] v fun r w => ∃ t s u' I J, r = .agg #[t.val, s.val] ∧ Sub v u' ∧ St u' w (I ++ (J ++ [])) ∧ Own u' t z.cells I ∧ Own u' s z.pend J := by
  refine of64 _ _ _ _ ?_
  unfold vc64
  refine Trip.mono' (c_cloneHeap hx) ?_
  rintro _ w1 ⟨t, u1, I, rfl, hvu, hS, hO⟩
  refine ⟨_, rfl, hvu.trans hS.sub, ?_⟩
  have hS1 : St u1 w1 (I ++ []) := by simpa using hS
  refine Mk.use (c_cloneInts (hy.mono hvu)) hS1 ?_
  rintro _ w2 J ⟨s, rfl, hP⟩ hS hsub
  exact ⟨_, rfl, t, s, u1, I, J, rfl, hvu, hS.to, hO, hP⟩

theorem c_indexFunc {p : Int → Bool} {f : Nat} (hx : Read v x l) (hf : ∀ w, Sub v w → ∀ n ∈ l, Trip Try.prog f #[.int .i64 n, .pointer (some (a.add 0))] w fun r w' => r = .bool (p n) ∧ Sub w w') :
    Trip Try.prog 136 #[x.val, .func (.func f) #[] #[.pointer (some (a.add 0))]] v fun r w' => (∃ k : Int, r = .int .i64 k ∧ (0 ≤ k ↔ ∃ n ∈ l, p n = true)) ∧ Sub v w' := by
  refine of136 _ _ _ _ _ ?_
  unfold vc136
  have hn := hx.n
  have hl := hx.le
  refine ⟨fun i w => Sub v w ∧ 0 ≤ i ∧ i ≤ l.length ∧ ∀ n ∈ l.take i.toNat, p n = false, fun i _ => (l.length - i).toNat, ⟨.refl v, by omega, by omega, by simp⟩, ?_⟩
  rintro i w ⟨hs, h0, h1, h2⟩
  dsimp only
  refine ⟨fun hi => ?_, fun hi => ?_⟩
  · simp only [decide_eq_true_eq, decide_eq_false_iff_not, Bool.and_eq_true, Bool.and_eq_false_iff, Bool.or_eq_true, Bool.or_eq_false_iff, Bool.not_eq_true', Bool.not_eq_false', Bool.not_true, Bool.not_false, Bool.false_eq_true, Bool.true_eq_false, Int.not_lt, Int.not_le, ge_iff_le, gt_iff_lt, Bool.not_eq_eq_eq_not, Bool.true_or, Bool.or_true, Bool.false_or, Bool.or_false, Bool.true_and, Bool.and_true, false_or, or_false, true_and, and_true, Decidable.not_not] at hi
    refine go_ix hx h0 (by omega) ?_
    refine ld_int (hx.mono hs) h0 (by omega) ?_
    intro a0 a1
    have hm := nth_mem (l := l) h0 (by omega)
    refine Trip.mono' (hf w hs _ hm) ?_
    rintro _ w2 ⟨rfl, hs2⟩
    refine ⟨_, rfl, fun hq => ⟨⟨i, rfl, fun _ => ⟨_, hm, hq⟩, fun _ => h0⟩, hs.trans hs2⟩, fun hq => ?_⟩
    refine go_wr (by omega) (by omega) ?_
    refine ⟨⟨hs.trans hs2, by omega, by omega, ?_⟩, by omega⟩
    rw [take_nth h0 (by omega)]; intro n hn
    rcases List.mem_append.1 hn with hn | hn
    · exact h2 n hn
    · rw [List.mem_singleton.1 hn]; exact hq
  · simp only [decide_eq_true_eq, decide_eq_false_iff_not, Bool.and_eq_true, Bool.and_eq_false_iff, Bool.or_eq_true, Bool.or_eq_false_iff, Bool.not_eq_true', Bool.not_eq_false', Bool.not_true, Bool.not_false, Bool.false_eq_true, Bool.true_eq_false, Int.not_lt, Int.not_le, ge_iff_le, gt_iff_lt, Bool.not_eq_eq_eq_not, Bool.true_or, Bool.or_true, Bool.false_or, Bool.or_false, Bool.true_and, Bool.and_true, false_or, or_false, true_and, and_true, Decidable.not_not] at hi
    rw [take_all (by omega)] at h2
    refine ⟨⟨-1, rfl, fun h => by omega, fun ⟨n, hn, hp⟩ => by rw [h2 n hn] at hp; cases hp⟩, hs⟩

theorem c_containsFunc {p : Int → Bool} {f : Nat} (hx : Read v x l) (hf : ∀ w, Sub v w → ∀ n ∈ l, Trip Try.prog f #[.int .i64 n, .pointer (some (a.add 0))] w fun r w' => r = .bool (p n) ∧ Sub w w') :
    Trip Try.prog 121 #[x.val, .func (.func f) #[] #[.pointer (some (a.add 0))]] v fun r w' => r = .bool (l.any p) ∧ Sub v w' := by
  refine of121 _ _ _ _ _ ?_
  unfold vc121
  refine Trip.mono' (c_indexFunc hx hf) ?_
  rintro _ w1 ⟨⟨k, rfl, hk⟩, hs⟩
  refine ⟨_, rfl, ?_, hs⟩
  congr 1
  rw [Bool.eq_iff_iff]
  simp only [ge_iff_le, decide_eq_true_eq, List.any_eq_true]
  exact hk

theorem refs_nonneg {h : List CellD} {k : Int} (h0 : 0 ≤ k) (h1 : k < h.length) : 0 ≤ nth (refL h) k := by
  rw [refL, nth_refsW h0 (by omega)]
  simp [cnt]

theorem c_checkedLazy (hx : Read v x z.cells) (hy : Read v y z.pend) : Mk Try.prog 75 #[.agg #[x.val, y.val]] v fun r J => ∃ t : Sl, r = .tuple #[t.val, .bool (vlazyB z)] ∧ (vlazy z → Own v t (refL (raiseL z.cells z.pend)) J) := by
  refine of75 _ _ _ _ ?_
  unfold vc75
  have bad : ¬ vlazy z → ∀ w I, St v w (I ++ []) → ∃ J, St v w J ∧ ∃ t : Sl, Value.tuple #[.slice none 0 0, .bool false] = .tuple #[t.val, .bool (vlazyB z)] ∧ (vlazy z → Own v t (refL (raiseL z.cells z.pend)) J) :=
    fun hb w I hS => ⟨[], hS.to, ⟨none, 0, 0⟩, by rw [Bool.eq_false_iff.2 (fun e => hb (vlazyB_iff.1 e))]; rfl, fun h => absurd h hb⟩
  have hxn := hx.n
  have hxl := hx.le
  have hyn := hy.n
  have hyl := hy.le
  refine Mk.use (c_cloneCells hx) (.refl v) ?_
  rintro _ w1 J1 ⟨t, rfl, hO⟩ hS hsub
  have htn := hO.n
  refine ⟨_, rfl, ?_⟩
  refine ⟨fun i w => St v w (J1 ++ []) ∧ 0 ≤ i ∧ i ≤ z.cells.length ∧ ∀ c ∈ z.cells.take i.toNat, 0 ≤ c.count, fun i _ => (z.cells.length - i).toNat, ⟨hS, by omega, by omega, by simp⟩, ?_⟩
  clear hS
  rintro i w ⟨hS, h0, h1, h2⟩
  dsimp only
  refine ⟨fun hi => ?_, fun hi => ?_⟩
  · simp only [decide_eq_true_eq, decide_eq_false_iff_not, Bool.and_eq_true, Bool.and_eq_false_iff, Bool.or_eq_true, Bool.or_eq_false_iff, Bool.not_eq_true', Bool.not_eq_false', Bool.not_true, Bool.not_false, Bool.false_eq_true, Bool.true_eq_false, Int.not_lt, Int.not_le, ge_iff_le, gt_iff_lt, Bool.not_eq_eq_eq_not, Bool.true_or, Bool.or_true, Bool.false_or, Bool.or_false, Bool.true_and, Bool.and_true, false_or, or_false, true_and, and_true, Decidable.not_not] at hi
    have hm := nth_mem (l := z.cells) h0 (by omega)
    refine go_oix hO h0 (by omega) ?_
    refine ld_cell (hO.src hS) h0 (by omega) ?_
    intro f hf hcI htI
    refine ⟨fun hc => bad (fun hd => ?_) w J1 hS, fun hc => ?_⟩
    · simp only [decide_eq_true_eq, decide_eq_false_iff_not, Bool.and_eq_true, Bool.and_eq_false_iff, Bool.or_eq_true, Bool.or_eq_false_iff, Bool.not_eq_true', Bool.not_eq_false', Bool.not_true, Bool.not_false, Bool.false_eq_true, Bool.true_eq_false, Int.not_lt, Int.not_le, ge_iff_le, gt_iff_lt, Bool.not_eq_eq_eq_not, Bool.true_or, Bool.or_true, Bool.false_or, Bool.or_false, Bool.true_and, Bool.and_true, false_or, or_false, true_and, and_true, Decidable.not_not] at hc
      have := hd.1.2.2 _ hm
      omega
    · simp only [decide_eq_true_eq, decide_eq_false_iff_not, Bool.and_eq_true, Bool.and_eq_false_iff, Bool.or_eq_true, Bool.or_eq_false_iff, Bool.not_eq_true', Bool.not_eq_false', Bool.not_true, Bool.not_false, Bool.false_eq_true, Bool.true_eq_false, Int.not_lt, Int.not_le, ge_iff_le, gt_iff_lt, Bool.not_eq_eq_eq_not, Bool.true_or, Bool.or_true, Bool.false_or, Bool.or_false, Bool.true_and, Bool.and_true, false_or, or_false, true_and, and_true, Decidable.not_not] at hc
      refine go_wr (by omega) (by omega) ?_
      refine ⟨rfl, rfl, ⟨hS, by omega, by omega, ?_⟩, by omega⟩
      rw [take_nth h0 (by omega)]; intro c hm2
      rcases List.mem_append.1 hm2 with hm2 | hm2
      · exact h2 c hm2
      · rw [List.mem_singleton.1 hm2]; exact hc
  simp only [decide_eq_true_eq, decide_eq_false_iff_not, Bool.and_eq_true, Bool.and_eq_false_iff, Bool.or_eq_true, Bool.or_eq_false_iff, Bool.not_eq_true', Bool.not_eq_false', Bool.not_true, Bool.not_false, Bool.false_eq_true, Bool.true_eq_false, Int.not_lt, Int.not_le, ge_iff_le, gt_iff_lt, Bool.not_eq_eq_eq_not, Bool.true_or, Bool.or_true, Bool.false_or, Bool.or_false, Bool.true_and, Bool.and_true, false_or, or_false, true_and, and_true, Decidable.not_not] at hi
  rw [take_all (by omega)] at h2
  refine ⟨fun i w => ∃ I, Own v t (raiseL z.cells (z.pend.take i.toNat)) I ∧ St v w (I ++ []) ∧ 0 ≤ i ∧ i ≤ z.pend.length ∧ (∀ p ∈ z.pend.take i.toNat, 0 ≤ p ∧ p < z.cells.length ∧ (nth z.cells p).count = 0) ∧ (z.pend.take i.toNat).Nodup,
    fun i _ => (z.pend.length - i).toNat, ⟨J1, hO, hS, by omega, by omega, by simp, by simp⟩, ?_⟩
  clear hO hS
  rintro j w ⟨I, hO, hS, j0, j1, h3, h4⟩
  dsimp only
  have hrl := raiseL_length z.cells (z.pend.take j.toNat)
  refine ⟨fun hj => ?_, fun hj => ?_⟩
  · simp only [decide_eq_true_eq, decide_eq_false_iff_not, Bool.and_eq_true, Bool.and_eq_false_iff, Bool.or_eq_true, Bool.or_eq_false_iff, Bool.not_eq_true', Bool.not_eq_false', Bool.not_true, Bool.not_false, Bool.false_eq_true, Bool.true_eq_false, Int.not_lt, Int.not_le, ge_iff_le, gt_iff_lt, Bool.not_eq_eq_eq_not, Bool.true_or, Bool.or_true, Bool.false_or, Bool.or_false, Bool.true_and, Bool.and_true, false_or, or_false, true_and, and_true, Decidable.not_not] at hj
    have hm := nth_mem (l := z.pend) j0 (by omega)
    have htk := take_nth (l := z.pend) j0 (by omega)
    refine go_ix hy j0 (by omega) ?_
    refine ld_int (hy.mono hS.sub) j0 (by omega) ?_
    intro a0 a1
    have rng : (decide (nth z.pend j < 0) || decide (nth z.pend j ≥ (t.n : Int))) = false → 0 ≤ nth z.pend j ∧ nth z.pend j < (raiseL z.cells (z.pend.take j.toNat)).length := fun hc => by simp only [decide_eq_true_eq, decide_eq_false_iff_not, Bool.and_eq_true, Bool.and_eq_false_iff, Bool.or_eq_true, Bool.or_eq_false_iff, Bool.not_eq_true', Bool.not_eq_false', Bool.not_true, Bool.not_false, Bool.false_eq_true, Bool.true_eq_false, Int.not_lt, Int.not_le, ge_iff_le, gt_iff_lt, Bool.not_eq_eq_eq_not, Bool.true_or, Bool.or_true, Bool.false_or, Bool.or_false, Bool.true_and, Bool.and_true, false_or, or_false, true_and, and_true, Decidable.not_not] at hc; omega
    refine ⟨fun hc => hO.ix (rng hc).1 (rng hc).2, ?_⟩
    refine ld_countg (hO.src hS) rng ?_
    refine ⟨fun hc => bad (fun hd => ?_) w I hS, fun hc => ?_⟩
    · obtain ⟨p0, p1, p2⟩ := hd.1.1 _ hm
      simp only [decide_eq_true_eq, decide_eq_false_iff_not, Bool.and_eq_true, Bool.and_eq_false_iff, Bool.or_eq_true, Bool.or_eq_false_iff, Bool.not_eq_true', Bool.not_eq_false', Bool.not_true, Bool.not_false, Bool.false_eq_true, Bool.true_eq_false, Int.not_lt, Int.not_le, ge_iff_le, gt_iff_lt, Bool.not_eq_eq_eq_not, Bool.true_or, Bool.or_true, Bool.false_or, Bool.or_false, Bool.true_and, Bool.and_true, false_or, or_false, true_and, and_true, Decidable.not_not] at hc
      rcases hc with (hc | hc) | hc
      · omega
      · omega
      · rw [nth_raise (fun p hp => ⟨(h3 p hp).1, (h3 p hp).2.1⟩) p0 p1] at hc
        split at hc
        · rename_i hin
          have hnd := hd.1.2.1
          have h5 : (z.pend.take (j + 1).toNat).Nodup := hnd.sublist (List.take_sublist _ _)
          rw [htk] at h5
          exact (List.nodup_append.1 h5).2.2 _ hin _ (by simp) rfl
        · exact hc p2
    · simp only [decide_eq_true_eq, decide_eq_false_iff_not, Bool.and_eq_true, Bool.and_eq_false_iff, Bool.or_eq_true, Bool.or_eq_false_iff, Bool.not_eq_true', Bool.not_eq_false', Bool.not_true, Bool.not_false, Bool.false_eq_true, Bool.true_eq_false, Int.not_lt, Int.not_le, ge_iff_le, gt_iff_lt, Bool.not_eq_eq_eq_not, Bool.true_or, Bool.or_true, Bool.false_or, Bool.or_false, Bool.true_and, Bool.and_true, false_or, or_false, true_and, and_true, Decidable.not_not] at hc
      obtain ⟨⟨p0, p1⟩, p2⟩ := hc
      have p1' : nth z.pend j < z.cells.length := by omega
      rw [nth_raise (fun p hp => ⟨(h3 p hp).1, (h3 p hp).2.1⟩) p0 p1'] at p2
      have hnin : nth z.pend j ∉ z.pend.take j.toNat := fun hin => by
        rw [if_pos hin] at p2
        simp [raiseC] at p2
      rw [if_neg hnin] at p2
      refine ⟨hO.ix p0 (by omega), ?_⟩
      refine Own.store hO hS p0 (by omega) (raiseC (nth (raiseL z.cells (z.pend.take j.toNat)) (nth z.pend j))) (Nat.le_of_ble_eq_true rfl) (fun r hr => ?_) ?_
      · obtain ⟨f, rfl, c1, c2, c3⟩ := hr
        exact ⟨f, rfl, one_in, c2, c3⟩
      intro w3 I3 hO3 hS
      refine go_wr (by omega) (by omega) ?_
      refine ⟨rfl, rfl, ⟨I3, ?_, hS, by omega, by omega, ?_, ?_⟩, by omega⟩
      · rw [htk, raiseL_snoc]; exact hO3
      · rw [htk]; intro p hp
        rcases List.mem_append.1 hp with hp | hp
        · exact h3 p hp
        · rw [List.mem_singleton.1 hp]; exact ⟨p0, p1', p2⟩
      · rw [htk]
        exact List.nodup_append.2 ⟨h4, by simp, fun a ha b hb e => by rw [List.mem_singleton.1 hb] at e; subst e; exact hnin ha⟩
  simp only [decide_eq_true_eq, decide_eq_false_iff_not, Bool.and_eq_true, Bool.and_eq_false_iff, Bool.or_eq_true, Bool.or_eq_false_iff, Bool.not_eq_true', Bool.not_eq_false', Bool.not_true, Bool.not_false, Bool.false_eq_true, Bool.true_eq_false, Int.not_lt, Int.not_le, ge_iff_le, gt_iff_lt, Bool.not_eq_eq_eq_not, Bool.true_or, Bool.or_true, Bool.false_or, Bool.or_false, Bool.true_and, Bool.and_true, false_or, or_false, true_and, and_true, Decidable.not_not] at hj
  rw [take_all (by omega)] at h3 h4 hO hrl
  have hvp : vpend z := ⟨h3, h4, h2⟩
  refine Mk.usew (c_checkedHeap (Own.read hO hS)) hS ?_
  rintro _ w4 J4 ⟨s, rfl, hR⟩ hS hsub
  refine ⟨_, _, rfl, ?_⟩
  refine St.box (vals := [.slice none 0 0]) hS fun a w5 I5 hC hS hs => ?_
  refine Cel.store hC hS (by simp) ?_
  intro w6 I6 hC hS
  simp [putR] at hC
  refine ⟨fun hq => ?_, fun hq => bad (fun hd => ?_) w6 (I6 ++ (J4 ++ I)) (hS.perm (by simp))⟩
  · simp only [decide_eq_true_eq, decide_eq_false_iff_not, Bool.and_eq_true, Bool.and_eq_false_iff, Bool.or_eq_true, Bool.or_eq_false_iff, Bool.not_eq_true', Bool.not_eq_false', Bool.not_true, Bool.not_false, Bool.false_eq_true, Bool.true_eq_false, Int.not_lt, Int.not_le, ge_iff_le, gt_iff_lt, Bool.not_eq_eq_eq_not, Bool.true_or, Bool.or_true, Bool.false_or, Bool.or_false, Bool.true_and, Bool.and_true, false_or, or_false, true_and, and_true, Decidable.not_not] at hq
    have hv := vheapB_iff.1 hq
    have hR2 : Own v s _ J4 := (hR hq).ofInts
    have hlr := length_refs (raiseL z.cells z.pend)
    have hclo : ∀ w, Sub w6 w → ∀ n ∈ z.pend, Trip Try.prog 122 #[.int .i64 n, .pointer (some (a.add 0))] w fun r w' => r = .bool (decide (nth (refL (raiseL z.cells z.pend)) n > 0)) ∧ Sub w w' := by
      intro w hw n hn
      obtain ⟨p0, p1, p2⟩ := h3 n hn
      refine of122 _ _ _ _ ?_
      unfold vc122
      have hS7 := hS.sub_w hw
      refine ⟨s, Cel.load hC hS7 rfl, ?_⟩
      refine go_oix hR2 p0 (by omega) ?_
      refine ld_int (Own.read hR2 hS7) p0 (by omega) ?_
      intro _ _
      exact ⟨rfl, .refl w⟩
    refine Trip.mono' (c_containsFunc (hy.mono hS.sub) hclo) ?_
    rintro _ w7 ⟨rfl, hs7⟩
    replace hS := hS.sub_w hs7
    refine ⟨_, rfl, fun ha => bad (fun hd => ?_) w7 (I6 ++ (J4 ++ I)) (hS.perm (by simp)), fun ha => ?_⟩
    · obtain ⟨p, hp, hgt⟩ := List.any_eq_true.1 ha
      have := hd.2.2 p hp
      simp only [decide_eq_true_eq] at hgt
      omega
    · have hd : vlazy z := ⟨hvp, hv, fun p hp => by
        have h5 := List.any_eq_false.1 ha p hp
        simp only [decide_eq_true_eq] at h5
        obtain ⟨p0, p1, _⟩ := h3 p hp
        have := refs_nonneg (h := raiseL z.cells z.pend) p0 (by omega)
        omega⟩
      refine ⟨s, Cel.load hC hS rfl, J4, (hS.to : St v w7 (J4 ++ [])).left, s, by rw [vlazyB_iff.2 hd], fun _ => hR2⟩
  · simp only [decide_eq_true_eq, decide_eq_false_iff_not, Bool.and_eq_true, Bool.and_eq_false_iff, Bool.or_eq_true, Bool.or_eq_false_iff, Bool.not_eq_true', Bool.not_eq_false', Bool.not_true, Bool.not_false, Bool.false_eq_true, Bool.true_eq_false, Int.not_lt, Int.not_le, ge_iff_le, gt_iff_lt, Bool.not_eq_eq_eq_not, Bool.true_or, Bool.or_true, Bool.false_or, Bool.or_false, Bool.true_and, Bool.and_true, false_or, or_false, true_and, and_true, Decidable.not_not] at hq
    rw [vheapB_iff.2 hd.2.1] at hq
    cases hq

theorem c_validLazyI (hx : Read v x z.cells) (hy : Read v y z.pend) : Fn Try.prog 24 #[.agg #[x.val, y.val]] v (.bool (vlazyB z)) := by
  refine of24 _ _ _ _ ?_
  unfold vc24
  refine Mk.use (c_checkedLazy hx hy) (.refl v) ?_
  rintro _ w1 J1 ⟨t, rfl, _⟩ hS hsub
  exact ⟨_, _, rfl, rfl, hsub⟩
end
end Go.Vc

namespace Go.Vc
open Go Go.Proofs Go.RowKit
set_option linter.all false
section
variable {u v w : World} {x y xf s t : Sl} {l ws fs pend : List Int} {h g : List CellD} {z z' : LazyD} {m n k f : Int} {a : Addr} {I J L R R1 : Items} {F F1 : Items → Items}

theorem c_equalCell {c d : CellD} {f g : Sl} (hf : Read v f c.fields) (hg : Read v g d.fields) :
    Fn Try.prog 26 #[.agg #[.int .i64 c.count, .int .i64 c.tag, f.val], .agg #[.int .i64 d.count, .int .i64 d.tag, g.val]] v (.bool (@decide (c = d) (Classical.propDecidable _))) := by
  refine of26 _ _ _ _ _ _ _ _ ?_
  unfold vc26
  refine ⟨_, fun _ => c_equalInts hf hg, ?_, .refl v⟩
  congr 1
  obtain ⟨a1, a2, a3⟩ := c
  obtain ⟨b1, b2, b3⟩ := d
  rw [Bool.eq_iff_iff]
  simp only [Bool.and_eq_true, decide_eq_true_eq, CellD.mk.injEq]
  exact ⟨fun ⟨⟨h1, h2⟩, h3⟩ => ⟨h1, h2, h3⟩, fun ⟨h1, h2, h3⟩ => ⟨⟨h1, h2⟩, h3⟩⟩

noncomputable def eqHB (h g : List CellD) : Bool := @decide (h = g) (Classical.propDecidable _)
theorem eqHB_iff {h g : List CellD} : eqHB h g = true ↔ h = g := by unfold eqHB; exact @decide_eq_true_iff _ (Classical.propDecidable _)
theorem eqHB_f {h g : List CellD} (hn : ¬ h = g) : eqHB h g = false := Bool.eq_false_iff.2 fun e => hn (eqHB_iff.1 e)

theorem c_equalHeap (hx : Read v x h) (hy : Read v y g) : Fn Try.prog 25 #[x.val, y.val] v (.bool (eqHB h g)) := by
  refine of25 _ _ _ _ ?_
  unfold vc25
  have hn := hx.n
  have hl := hx.le
  have hyn := hy.n
  refine ⟨fun hc => ?_, fun hc => ?_⟩
  · simp only [decide_eq_true_eq, decide_eq_false_iff_not, Bool.and_eq_true, Bool.and_eq_false_iff, Bool.or_eq_true, Bool.or_eq_false_iff, Bool.not_eq_true', Bool.not_eq_false', Bool.not_true, Bool.not_false, Bool.false_eq_true, Bool.true_eq_false, Int.not_lt, Int.not_le, ge_iff_le, gt_iff_lt, Bool.not_eq_eq_eq_not, Bool.true_or, Bool.or_true, Bool.false_or, Bool.or_false, Bool.true_and, Bool.and_true, false_or, or_false, true_and, and_true, Decidable.not_not] at hc
    exact ⟨by rw [eqHB_f (fun e => by rw [e] at hn; omega)], .refl v⟩
  simp only [decide_eq_true_eq, decide_eq_false_iff_not, Bool.and_eq_true, Bool.and_eq_false_iff, Bool.or_eq_true, Bool.or_eq_false_iff, Bool.not_eq_true', Bool.not_eq_false', Bool.not_true, Bool.not_false, Bool.false_eq_true, Bool.true_eq_false, Int.not_lt, Int.not_le, ge_iff_le, gt_iff_lt, Bool.not_eq_eq_eq_not, Bool.true_or, Bool.or_true, Bool.false_or, Bool.or_false, Bool.true_and, Bool.and_true, false_or, or_false, true_and, and_true, Decidable.not_not] at hc
  have hlen : h.length = g.length := by omega
  refine ⟨fun i w => Sub v w ∧ 0 ≤ i ∧ i ≤ h.length ∧ h.take i.toNat = g.take i.toNat, fun i _ => (h.length - i).toNat, ⟨.refl v, by omega, by omega, by simp⟩, ?_⟩
  rintro i w ⟨hs, h0, h1, h2⟩
  dsimp only
  refine ⟨fun hi => ?_, fun hi => ?_⟩
  · simp only [decide_eq_true_eq, decide_eq_false_iff_not, Bool.and_eq_true, Bool.and_eq_false_iff, Bool.or_eq_true, Bool.or_eq_false_iff, Bool.not_eq_true', Bool.not_eq_false', Bool.not_true, Bool.not_false, Bool.false_eq_true, Bool.true_eq_false, Int.not_lt, Int.not_le, ge_iff_le, gt_iff_lt, Bool.not_eq_eq_eq_not, Bool.true_or, Bool.or_true, Bool.false_or, Bool.or_false, Bool.true_and, Bool.and_true, false_or, or_false, true_and, and_true, Decidable.not_not] at hi
    refine go_ix hx h0 (by omega) ?_
    refine ld_cell (hx.src hs) h0 (by omega) ?_
    intro f hf _ _
    refine go_ix hy h0 (by omega) ?_
    refine ld_cell (hy.src hs) h0 (by omega) ?_
    intro f2 hf2 _ _
    refine ⟨_, c_equalCell (c := nth h i) (d := nth g i) (hf.mono hs) (hf2.mono hs), fun hq => ?_, fun hq => ?_⟩
    · refine ⟨?_, hs⟩
      rw [eqHB_f fun e => ?_]
      subst e
      simp at hq
    · simp at hq
      refine go_wr (by omega) (by omega) ?_
      refine ⟨⟨hs, by omega, by omega, ?_⟩, by omega⟩
      rw [take_nth h0 (by omega), take_nth h0 (by omega), h2, hq]
  · simp only [decide_eq_true_eq, decide_eq_false_iff_not, Bool.and_eq_true, Bool.and_eq_false_iff, Bool.or_eq_true, Bool.or_eq_false_iff, Bool.not_eq_true', Bool.not_eq_false', Bool.not_true, Bool.not_false, Bool.false_eq_true, Bool.true_eq_false, Int.not_lt, Int.not_le, ge_iff_le, gt_iff_lt, Bool.not_eq_eq_eq_not, Bool.true_or, Bool.or_true, Bool.false_or, Bool.or_false, Bool.true_and, Bool.and_true, false_or, or_false, true_and, and_true, Decidable.not_not] at hi
    refine ⟨?_, hs⟩
    rw [take_all (by omega), take_all (by omega)] at h2
    rw [eqHB_iff.2 h2]

theorem c_equalLazy (hx : Read v x z.cells) (hy : Read v y z.pend) (hs : Read v s z'.cells) (ht : Read v t z'.pend) :
    Fn Try.prog 18 #[.agg #[x.val, y.val], .agg #[s.val, t.val]] v (.bool (@decide (z = z') (Classical.propDecidable _))) := by
  refine of18 _ _ _ _ _ _ ?_
  unfold vc18
  refine ⟨_, c_equalHeap hx hs, _, fun _ => c_equalInts hy ht, ?_, .refl v⟩
  congr 1
  obtain ⟨a1, a2⟩ := z
  obtain ⟨b1, b2⟩ := z'
  rw [Bool.eq_iff_iff]
  simp only [Bool.and_eq_true, decide_eq_true_eq, LazyD.mk.injEq, eqHB_iff]

theorem c_implDrop (hC : Cel a [x.val, y.val] I) (hO : Own u x h J) (hP : Own u y pend L) (hS : St u w (I ++ (J ++ (L ++ R)))) (h0 : 0 ≤ k) (h1 : k < h.length) (hc : 0 < (nth h k).count) (hk : k ≤ 1000000000000) (hpl : pend.length < 1099511627776) :
    Trip Try.prog 77 #[.pointer (some (a.add 0)), .int .i64 k] w fun r w' => ∃ y' I' J' L', r = .tuple #[] ∧ Cel a [x.val, y'.val] I' ∧ Own u x (lowerZ ⟨h, pend⟩ k).cells J' ∧ Own u y' (lowerZ ⟨h, pend⟩ k).pend L' ∧ St u w' (I' ++ (J' ++ (L' ++ R))) := by
  refine of77 _ _ _ _ ?_
  unfold vc77
  refine ⟨x, Cel.load hC hS rfl, ?_⟩
  refine go_oix hO h0 h1 ?_
  refine ld_count (hO.src hS) h0 h1 ?_
  intro a0 a1
  refine go_wr (by omega) (by omega) ?_
  refine go_oix hO h0 h1 ?_
  have hin1 : InI ((nth h k).count - 1) := ⟨by omega, by omega⟩
  refine Own.store hO hS h0 h1 (decC (nth h k)) (Nat.le_of_ble_eq_true rfl) (fun r hr => ?_) ?_
  · obtain ⟨f, rfl, c1, c2, c3⟩ := hr
    exact ⟨f, rfl, hin1, c2, c3⟩
  intro w2 J2 hO2 hS
  refine ⟨x, Cel.load hC hS rfl, ?_⟩
  refine go_oix hO2 h0 (by simpa using h1) ?_
  refine ld_count (hO2.src hS) h0 (by simpa using h1) ?_
  rw [nth_set _ _ _ _ h0 h1 h0, if_pos rfl]
  intro _ _
  have hz : (decC (nth h k)).count = (nth h k).count - 1 := rfl
  refine ⟨fun hc => ?_, fun hc => ?_⟩
  · simp only [decide_eq_true_eq, decide_eq_false_iff_not, Bool.and_eq_true, Bool.and_eq_false_iff, Bool.or_eq_true, Bool.or_eq_false_iff, Bool.not_eq_true', Bool.not_eq_false', Bool.not_true, Bool.not_false, Bool.false_eq_true, Bool.true_eq_false, Int.not_lt, Int.not_le, ge_iff_le, gt_iff_lt, Bool.not_eq_eq_eq_not, Bool.true_or, Bool.or_true, Bool.false_or, Bool.or_false, Bool.true_and, Bool.and_true, false_or, or_false, true_and, and_true, Decidable.not_not] at hc
    refine ⟨y, Cel.load hC hS rfl, ?_⟩
    refine St.build (α := Int) hS (by (repeat' (first | exact VsOf.nil | apply VsOf.cons | (apply VOf.int; first | assumption | (constructor <;> first | omega | (simp only [List.length_set, List.length_append, List.length_replicate, List.length_cons, List.length_nil, List.length_take, List.length_drop, List.length_map, List.length_singleton] at *; omega))) | exact VOf.bool | exact VOf.str))) rfl (by decide) ?_
    intro x4 w4 I4 hO4 hS hs
    refine ⟨_, rfl, ?_⟩
    refine Own.append hP hS (hO4.src hS) (by simp; omega) (by decide) ?_
    intro x5 w5 I5 hO5 hS
    refine ⟨_, rfl, ?_⟩
    refine Cel.store hC hS (by simp) ?_
    intro w6 I6 hC hS
    simp [putR] at hC
    refine ⟨x5, I6, J2, I5, rfl, hC, hO2, ?_, hS.to⟩
    unfold lowerZ
    simp only
    rw [if_pos (by omega)]; exact hO5
  · simp only [decide_eq_true_eq, decide_eq_false_iff_not, Bool.and_eq_true, Bool.and_eq_false_iff, Bool.or_eq_true, Bool.or_eq_false_iff, Bool.not_eq_true', Bool.not_eq_false', Bool.not_true, Bool.not_false, Bool.false_eq_true, Bool.true_eq_false, Int.not_lt, Int.not_le, ge_iff_le, gt_iff_lt, Bool.not_eq_eq_eq_not, Bool.true_or, Bool.or_true, Bool.false_or, Bool.or_false, Bool.true_and, Bool.and_true, false_or, or_false, true_and, and_true, Decidable.not_not] at hc
    refine ⟨y, I, J2, L, rfl, hC, hO2, ?_, hS.to⟩
    unfold lowerZ
    simp only
    rw [if_neg (by omega)]; exact hP

theorem c_implLazyDrop (hx : Read v x z.cells) (hy : Read v y z.pend) (hn : InI n) (hl : z.cells.length ≤ 1000000000) :
    Trip Try.prog 20 #[.agg #[x.val, y.val], .int .i64 n] v fun r w => ∃ x' y' u' I J, r = .tuple #[.agg #[x'.val, y'.val], .bool (dropB z n)] ∧ Sub v u' ∧ St u' w (I ++ (J ++ [])) ∧ Own u' x' (dropR z n).cells I ∧ Own u' y' (dropR z n).pend J := by
  refine of20 _ _ _ _ _ ?_
  unfold vc20
  have bad : ¬ dropOk z n → ∀ w I, St v w (I ++ []) → ∃ (x' y' : Sl) (u' : World) (I J : Items), Value.tuple #[.agg #[.slice none 0 0, .slice none 0 0], .bool false] = .tuple #[.agg #[x'.val, y'.val], .bool (dropB z n)] ∧ Sub v u' ∧ St u' w (I ++ (J ++ [])) ∧ Own u' x' (dropR z n).cells I ∧ Own u' y' (dropR z n).pend J :=
    fun hb w I hS => ⟨⟨none, 0, 0⟩, ⟨none, 0, 0⟩, v, [], [], by rw [dropB_f hb]; rfl, .refl v, (hS.to : St v w []), by rw [dropR_f hb]; exact Own.nil v, by rw [dropR_f hb]; exact Own.nil v⟩
  refine Mk.use (c_checkedLazy hx hy) (.refl v) ?_
  rintro _ w1 J1 ⟨t, rfl, hR⟩ hS hsub
  refine ⟨_, _, rfl, _, fun _ => c_wordValid (hx.mono hS.sub) hn, fun hc => bad (fun hd => ?_) w1 J1 hS, fun hc => ?_⟩
  · simp only [decide_eq_true_eq, decide_eq_false_iff_not, Bool.and_eq_true, Bool.and_eq_false_iff, Bool.or_eq_true, Bool.or_eq_false_iff, Bool.not_eq_true', Bool.not_eq_false', Bool.not_true, Bool.not_false, Bool.false_eq_true, Bool.true_eq_false, Int.not_lt, Int.not_le, ge_iff_le, gt_iff_lt, Bool.not_eq_eq_eq_not, Bool.true_or, Bool.or_true, Bool.false_or, Bool.or_false, Bool.true_and, Bool.and_true, false_or, or_false, true_and, and_true, Decidable.not_not] at hc
    rw [vlazyB_iff.2 hd.1, hd.2.1] at hc
    simp at hc
  simp only [decide_eq_true_eq, decide_eq_false_iff_not, Bool.and_eq_true, Bool.and_eq_false_iff, Bool.or_eq_true, Bool.or_eq_false_iff, Bool.not_eq_true', Bool.not_eq_false', Bool.not_true, Bool.not_false, Bool.false_eq_true, Bool.true_eq_false, Int.not_lt, Int.not_le, ge_iff_le, gt_iff_lt, Bool.not_eq_eq_eq_not, Bool.true_or, Bool.or_true, Bool.false_or, Bool.or_false, Bool.true_and, Bool.and_true, false_or, or_false, true_and, and_true, Decidable.not_not] at hc
  have hv := vlazyB_iff.1 hc.1
  have hw := hc.2
  replace hR := hR hv
  have hrl := length_refs (raiseL z.cells z.pend)
  have hrl2 := raiseL_length z.cells z.pend
  refine Trip.mono' (c_cloneLazy (hx.mono hS.sub) (hy.mono hS.sub)) ?_
  rintro _ w2 ⟨c, p, u2, I2, J2, rfl, hu2, hS2, hO, hP⟩
  have hs2 : Sub w1 w2 := hu2.trans hS2.sub
  have hRR : Read w1 t _ := Own.read hR hS
  replace hRR := hRR.mono hu2
  have hxx := (hx.mono hS.sub).mono hu2
  have hvu : Sub v u2 := hS.sub.trans hu2
  clear hR hs2
  replace hS := hS2
  clear hS2
  refine ⟨_, _, rfl, ?_⟩
  refine St.box (vals := [.slice none 0 0, .slice none 0 0]) hS fun a w3 I3 hC hS hs => ?_
  refine Cel.store hC hS (by simp) ?_
  intro w4 I4 hC hS
  simp [putR] at hC
  refine ⟨_, _, c_liveAt (hxx.mono hS.sub) hn, fun hq => ?_, fun hq => ?_⟩
  · obtain ⟨l1, l2, l3⟩ := live_iff.1 hq
    have hat : atI n = n - 1000 := atI_of l1 hn.2
    rw [hat]
    refine go_ix hxx (by omega) l2 ?_
    refine ld_count (hxx.src hS.sub) (by omega) l2 ?_
    intro a0 a1
    refine go_ix hRR (by omega) (by omega) ?_
    refine ld_int (hRR.mono hS.sub) (by omega) (by omega) ?_
    intro b0 b1
    refine ⟨fun hc => ?_, fun hc => ?_⟩
    · simp only [decide_eq_true_eq, decide_eq_false_iff_not, Bool.and_eq_true, Bool.and_eq_false_iff, Bool.or_eq_true, Bool.or_eq_false_iff, Bool.not_eq_true', Bool.not_eq_false', Bool.not_true, Bool.not_false, Bool.false_eq_true, Bool.true_eq_false, Int.not_lt, Int.not_le, ge_iff_le, gt_iff_lt, Bool.not_eq_eq_eq_not, Bool.true_or, Bool.or_true, Bool.false_or, Bool.or_false, Bool.true_and, Bool.and_true, false_or, or_false, true_and, and_true, Decidable.not_not] at hc
      have hnd : ¬ dropOk z n := fun hd => hd.2.2 l1 hc
      exact ⟨⟨none, 0, 0⟩, ⟨none, 0, 0⟩, u2, [], [], by rw [dropB_f hnd]; rfl, hvu, (hS.to : St u2 w4 []), by rw [dropR_f hnd]; exact Own.nil u2, by rw [dropR_f hnd]; exact Own.nil u2⟩
    · simp only [decide_eq_true_eq, decide_eq_false_iff_not, Bool.and_eq_true, Bool.and_eq_false_iff, Bool.or_eq_true, Bool.or_eq_false_iff, Bool.not_eq_true', Bool.not_eq_false', Bool.not_true, Bool.not_false, Bool.false_eq_true, Bool.true_eq_false, Int.not_lt, Int.not_le, ge_iff_le, gt_iff_lt, Bool.not_eq_eq_eq_not, Bool.true_or, Bool.or_true, Bool.false_or, Bool.or_false, Bool.true_and, Bool.and_true, false_or, or_false, true_and, and_true, Decidable.not_not] at hc
      have hd : dropOk z n := ⟨hv, hw, fun _ => hc⟩
      have hpl := pend_len' (vlazy_iff.1 hv).1
      refine Trip.mono' (c_implDrop hC hO hP hS (by omega) l2 l3 (by omega) (by omega)) ?_
      rintro _ w5 ⟨y5, I5, J5, L5, rfl, hC, hO, hP, hS⟩
      refine ⟨rfl, c, y5, ⟨Cel.load hC hS rfl, Cel.load hC hS rfl⟩, c, y5, u2, J5, L5, by rw [dropB_iff.2 hd], hvu, hS.to, ?_, ?_⟩
      · rw [dropR_t hd, dropZ, if_pos l1]; exact hO
      · rw [dropR_t hd, dropZ, if_pos l1]; exact hP
  · have hnp : ¬ 1000 ≤ n := fun hp => by
      have := word_ptr hw hp
      rw [this] at hq; cases hq
    have hd : dropOk z n := ⟨hv, hw, fun h => absurd h hnp⟩
    refine ⟨c, p, ⟨Cel.load hC hS rfl, Cel.load hC hS rfl⟩, c, p, u2, I2, J2, by rw [dropB_iff.2 hd], hvu, hS.to, ?_, ?_⟩
    · rw [dropR_t hd, dropZ, if_neg hnp]; exact hO
    · rw [dropR_t hd, dropZ, if_neg hnp]; exact hP
end

theorem drop_pre {z : LazyD} {n : Int} : z.pend <+: (dropZ z n).pend := by
  unfold dropZ lowerZ
  split
  · simp only
    split
    · exact List.prefix_append _ _
    · exact List.prefix_refl _
  · exact List.prefix_refl _
theorem drop_plen {z : LazyD} {n : Int} : (dropZ z n).pend.length ≤ z.pend.length + 1 := by
  unfold dropZ lowerZ
  split
  · simp only
    split <;> simp
  · omega
theorem drop_nth {z : LazyD} {n i : Int} (hd : dropOk z n) (h0 : 0 ≤ i) (h1 : i < z.cells.length) (hn : n ≠ 1000 + i) : nth (dropZ z n).cells i = nth z.cells i := by
  unfold dropZ
  split
  · rename_i hp
    obtain ⟨_, l2, l3⟩ := live_iff.1 (word_ptr hd.2.1 hp)
    unfold lowerZ
    rw [nth_set _ _ _ _ (by omega) l2 h0, if_neg (by omega)]
  · rfl

end Go.Vc

namespace Go.Vc
open Go Go.Proofs Go.RowKit
set_option linter.all false
section
variable {u v w : World} {x y xf s t : Sl} {l ws fs pend : List Int} {h g : List CellD} {z z' : LazyD} {m n k f : Int} {a : Addr} {I J K L R R1 : Items} {F F1 : Items → Items}

theorem c_index (hx : Read v x l) : ∃ k : Int, (0 ≤ k ↔ n ∈ l) ∧ Fn Try.prog 112 #[x.val, .int .i64 n] v (.int .i64 k) := by
  have hn := hx.n
  have hl := hx.le
  by_cases hm : n ∈ l
  · refine ⟨(l.idxOf n : Nat), ⟨fun _ => hm, fun _ => by omega⟩, ?_⟩
    refine of112 _ _ _ _ ?_
    unfold vc112
    have hlt := List.idxOf_lt_length_iff.2 hm
    have hget : nth l (l.idxOf n : Nat) = n := nth_of (by simp [hlt])
    have hfirst : ∀ i : Int, 0 ≤ i → i < l.length → nth l i = n → ((l.idxOf n : Nat) : Int) ≤ i := fun i h0 h1 he => by
      rcases Int.lt_or_le i (l.idxOf n : Nat) with hlt2 | hge
      · exfalso
        have := List.not_of_lt_findIdx (p := (· == n)) (xs := l) (i := i.toNat) (by rw [List.idxOf] at hlt2; omega)
        have e := nth_get h0 h1
        rw [he] at e
        obtain ⟨h2, h3⟩ := List.getElem?_eq_some_iff.1 e
        simp [h3] at this
      · exact hge
    refine ⟨fun i w => Sub v w ∧ 0 ≤ i ∧ i ≤ (l.idxOf n : Nat), fun i _ => (l.length - i).toNat, ⟨.refl v, by omega, by omega⟩, ?_⟩
    rintro i w ⟨hs, h0, h1⟩
    dsimp only
    refine ⟨fun hi => ?_, fun hi => ?_⟩
    · simp only [decide_eq_true_eq, decide_eq_false_iff_not, Bool.and_eq_true, Bool.and_eq_false_iff, Bool.or_eq_true, Bool.or_eq_false_iff, Bool.not_eq_true', Bool.not_eq_false', Bool.not_true, Bool.not_false, Bool.false_eq_true, Bool.true_eq_false, Int.not_lt, Int.not_le, ge_iff_le, gt_iff_lt, Bool.not_eq_eq_eq_not, Bool.true_or, Bool.or_true, Bool.false_or, Bool.or_false, Bool.true_and, Bool.and_true, false_or, or_false, true_and, and_true, Decidable.not_not] at hi
      refine go_ix hx h0 (by omega) ?_
      refine ld_int (hx.mono hs) h0 (by omega) ?_
      intro a0 a1
      refine ⟨fun hq => ?_, fun hq => ?_⟩
      · simp only [decide_eq_true_eq, decide_eq_false_iff_not, Bool.and_eq_true, Bool.and_eq_false_iff, Bool.or_eq_true, Bool.or_eq_false_iff, Bool.not_eq_true', Bool.not_eq_false', Bool.not_true, Bool.not_false, Bool.false_eq_true, Bool.true_eq_false, Int.not_lt, Int.not_le, ge_iff_le, gt_iff_lt, Bool.not_eq_eq_eq_not, Bool.true_or, Bool.or_true, Bool.false_or, Bool.or_false, Bool.true_and, Bool.and_true, false_or, or_false, true_and, and_true, Decidable.not_not] at hq
        have := hfirst i h0 (by omega) hq.symm
        exact ⟨by rw [show i = ((l.idxOf n : Nat) : Int) from by omega], hs⟩
      · simp only [decide_eq_true_eq, decide_eq_false_iff_not, Bool.and_eq_true, Bool.and_eq_false_iff, Bool.or_eq_true, Bool.or_eq_false_iff, Bool.not_eq_true', Bool.not_eq_false', Bool.not_true, Bool.not_false, Bool.false_eq_true, Bool.true_eq_false, Int.not_lt, Int.not_le, ge_iff_le, gt_iff_lt, Bool.not_eq_eq_eq_not, Bool.true_or, Bool.or_true, Bool.false_or, Bool.or_false, Bool.true_and, Bool.and_true, false_or, or_false, true_and, and_true, Decidable.not_not] at hq
        refine go_wr (by omega) (by omega) ?_
        refine ⟨⟨hs, by omega, ?_⟩, by omega⟩
        rcases Int.lt_or_le i (l.idxOf n : Nat) with hlt2 | hge
        · omega
        · exfalso; rw [show i = ((l.idxOf n : Nat) : Int) from by omega, hget] at hq; exact hq rfl
    · simp only [decide_eq_true_eq, decide_eq_false_iff_not, Bool.and_eq_true, Bool.and_eq_false_iff, Bool.or_eq_true, Bool.or_eq_false_iff, Bool.not_eq_true', Bool.not_eq_false', Bool.not_true, Bool.not_false, Bool.false_eq_true, Bool.true_eq_false, Int.not_lt, Int.not_le, ge_iff_le, gt_iff_lt, Bool.not_eq_eq_eq_not, Bool.true_or, Bool.or_true, Bool.false_or, Bool.or_false, Bool.true_and, Bool.and_true, false_or, or_false, true_and, and_true, Decidable.not_not] at hi
      omega
  · refine ⟨-1, ⟨fun h => by omega, fun h => absurd h hm⟩, ?_⟩
    refine of112 _ _ _ _ ?_
    unfold vc112
    refine ⟨fun i w => Sub v w ∧ 0 ≤ i ∧ i ≤ l.length, fun i _ => (l.length - i).toNat, ⟨.refl v, by omega, by omega⟩, ?_⟩
    rintro i w ⟨hs, h0, h1⟩
    dsimp only
    refine ⟨fun hi => ?_, fun hi => ⟨rfl, hs⟩⟩
    simp only [decide_eq_true_eq, decide_eq_false_iff_not, Bool.and_eq_true, Bool.and_eq_false_iff, Bool.or_eq_true, Bool.or_eq_false_iff, Bool.not_eq_true', Bool.not_eq_false', Bool.not_true, Bool.not_false, Bool.false_eq_true, Bool.true_eq_false, Int.not_lt, Int.not_le, ge_iff_le, gt_iff_lt, Bool.not_eq_eq_eq_not, Bool.true_or, Bool.or_true, Bool.false_or, Bool.or_false, Bool.true_and, Bool.and_true, false_or, or_false, true_and, and_true, Decidable.not_not] at hi
    refine go_ix hx h0 (by omega) ?_
    refine ld_int (hx.mono hs) h0 (by omega) ?_
    intro a0 a1
    refine ⟨fun hq => ?_, fun hq => ?_⟩
    · simp only [decide_eq_true_eq, decide_eq_false_iff_not, Bool.and_eq_true, Bool.and_eq_false_iff, Bool.or_eq_true, Bool.or_eq_false_iff, Bool.not_eq_true', Bool.not_eq_false', Bool.not_true, Bool.not_false, Bool.false_eq_true, Bool.true_eq_false, Int.not_lt, Int.not_le, ge_iff_le, gt_iff_lt, Bool.not_eq_eq_eq_not, Bool.true_or, Bool.or_true, Bool.false_or, Bool.or_false, Bool.true_and, Bool.and_true, false_or, or_false, true_and, and_true, Decidable.not_not] at hq
      exact absurd (hq ▸ nth_mem h0 (by omega)) hm
    · refine go_wr (by omega) (by omega) ?_
      exact ⟨⟨hs, by omega, by omega⟩, by omega⟩

theorem c_contains (hx : Read v x l) : Fn Try.prog 68 #[x.val, .int .i64 n] v (.bool (decide (n ∈ l))) := by
  refine of68 _ _ _ _ ?_
  unfold vc68
  obtain ⟨k, hk, hf⟩ := c_index (n := n) hx
  refine ⟨k, hf, ?_, .refl v⟩
  congr 1
  rw [Bool.eq_iff_iff]
  simp only [ge_iff_le, decide_eq_true_eq]
  exact hk

theorem c_implSettle (hC : Cel a [x.val, y.val] I) (hO : Own u x z.cells J) (hP : Own u y z.pend K) (hS : St u w (I ++ (J ++ (K ++ R)))) (hL : LZ z.cells z.pend []) (hm0 : 0 ≤ m) (hm1 : m ≤ 1000000000) (hl : z.cells.length ≤ 1000000000) :
    Trip Try.prog 65 #[.pointer (some (a.add 0)), .int .i64 m] w fun r w' => ∃ x' y' I' J' K', r = .tuple #[] ∧ Cel a [x'.val, y'.val] I' ∧ Own u x' (settleL m.toNat z).cells J' ∧ Own u y' (settleL m.toNat z).pend K' ∧ St u w' (I' ++ (J' ++ (K' ++ R))) := by
  refine of65 _ _ _ _ ?_
  unfold vc65
  refine ⟨fun i w => ∃ x y I J K, Cel a [x.val, y.val] I ∧ Own u x (settleN (m - i).toNat z).cells J ∧ Own u y (settleN (m - i).toNat z).pend K ∧ St u w (I ++ (J ++ (K ++ R))) ∧ 0 ≤ i ∧ i ≤ m, fun i _ => i.toNat,
    ⟨x, y, I, J, K, hC, by rw [show (m - m).toNat = 0 from by omega]; exact hO, by rw [show (m - m).toNat = 0 from by omega]; exact hP, hS, hm0, by omega⟩, ?_⟩
  clear hC hO hP hS
  rintro i w ⟨x, y, I, J, K, hC, hO, hP, hS, h0, h1⟩
  obtain ⟨L1, hlen, _⟩ := LZ.settleN (m - i).toNat hL
  have hsucc : 0 < i → settleN (m - (i - 1)).toNat z = settle1 (settleN (m - i).toNat z) := fun hi => by rw [show (m - (i - 1)).toNat = (m - i).toNat + 1 from by omega]; exact settleN_succ' _ _
  have hend : ¬ (0 < i ∧ (settleN (m - i).toNat z).pend ≠ []) → settleN m.toNat z = settleN (m - i).toNat z := by
    intro hc
    rcases Int.lt_or_le 0 i with hlt | hge
    · have he : (settleN (m - i).toNat z).pend = [] := Classical.byContradiction fun hn => hc ⟨hlt, hn⟩
      rw [show m.toNat = (m - i).toNat + i.toNat from by omega, settleN_add, settleN_nil he]
    · rw [show m - i = m from by omega]
  dsimp only
  generalize hzz : settleN (m - i).toNat z = zz at *
  obtain ⟨cells, pend⟩ := zz
  simp only at hO hP L1 hlen
  have hyn := hP.n
  have hxn := hO.n
  refine ⟨y, fun _ => Cel.load hC hS rfl, fun hc => ?_, fun hc => ?_⟩
  · simp only [decide_eq_true_eq, decide_eq_false_iff_not, Bool.and_eq_true, Bool.and_eq_false_iff, Bool.or_eq_true, Bool.or_eq_false_iff, Bool.not_eq_true', Bool.not_eq_false', Bool.not_true, Bool.not_false, Bool.false_eq_true, Bool.true_eq_false, Int.not_lt, Int.not_le, ge_iff_le, gt_iff_lt, Bool.not_eq_eq_eq_not, Bool.true_or, Bool.or_true, Bool.false_or, Bool.or_false, Bool.true_and, Bool.and_true, false_or, or_false, true_and, and_true, Decidable.not_not] at hc
    obtain ⟨at_, r, rfl⟩ : ∃ at_ r, pend = at_ :: r := by
      cases pend with
      | nil => simp at hyn; omega
      | cons a r => exact ⟨a, r, rfl⟩
    obtain ⟨p0, p1, p2⟩ := L1.pr at_ List.mem_cons_self
    refine ⟨y, Cel.load hC hS rfl, ?_⟩
    refine go_oix hP (Int.le_refl 0) (by simp) ?_
    refine ld_int (Own.read hP hS) (Int.le_refl 0) (by simp) ?_
    have hn0 : nth (at_ :: r) 0 = at_ := rfl
    rw [hn0]
    intro a0 a1
    refine ⟨y, Cel.load hC hS rfl, ⟨by omega, by simp at hyn; omega⟩, ?_⟩
    have hcut := hP.cut (lo := 1) (hi := y.n) (by omega) (by simp at hyn; omega) (by omega)
    have hct : ((at_ :: r).take (y.n : Int).toNat).drop (1 : Int).toNat = r := by rw [hyn]; simp
    rw [hct] at hcut
    refine Cel.store hC hS (by simp) ?_
    intro w2 I2 hC hS
    simp [putR] at hC
    refine ⟨x, Cel.load hC hS rfl, ?_⟩
    refine go_oix hO p0 p1 ?_
    refine ld_fields (hO.src hS) p0 p1 ?_
    intro f hF
    refine ⟨x, Cel.load hC hS rfl, ?_⟩
    refine go_oix hO p0 p1 ?_
    refine Own.store hO hS p0 p1 free0 (Nat.le_of_ble_eq_true rfl) (fun r hr => ?_) ?_
    · obtain ⟨f, rfl, c1, c2, c3⟩ := hr
      exact ⟨⟨none, 0, 0⟩, rfl, zero_in, zero_in, ReadB.nil⟩
    intro w5 J5 hO5 hS
    have hpop := LZ.pop (h := cells) (p := at_) (r := r) L1
    have hfn : f.n = (nth cells at_).fields.length := hF.n
    have hfl := (L1.cell _ (nth_mem (l := cells) p0 p1)).2.2.1
    have hs1 : settle1 (⟨cells, at_ :: r⟩ : LazyD) = dropF ⟨cells.set at_.toNat free0, r⟩ (nth cells at_).fields := rfl
    generalize hz1 : (⟨cells.set at_.toNat free0, r⟩ : LazyD) = z1 at *
    have hz1c : z1.cells = cells.set at_.toNat free0 := by rw [← hz1]
    have hz1p : z1.pend = r := by rw [← hz1]
    rw [← hz1c] at hO5 hpop
    rw [← hz1p] at hcut hpop
    refine ⟨fun j w => ∃ x y I J K, Cel a [x.val, y.val] I ∧ Own u x (dropF z1 ((nth cells at_).fields.take j.toNat)).cells J ∧ Own u y (dropF z1 ((nth cells at_).fields.take j.toNat)).pend K ∧ St u w (I ++ (J ++ (K ++ R))) ∧ 0 ≤ j ∧ j ≤ (nth cells at_).fields.length ∧
        LZ (dropF z1 ((nth cells at_).fields.take j.toNat)).cells (dropF z1 ((nth cells at_).fields.take j.toNat)).pend ((nth cells at_).fields.drop j.toNat),
      fun j _ => ((nth cells at_).fields.length - j).toNat, ⟨x, _, I2, J5, K, hC, hO5, hcut, hS.to, by omega, by omega, hpop⟩, ?_⟩
    clear hO5 hcut hS hP hO hC
    rintro j w ⟨x, y, I, J, K, hC, hO, hP, hS, j0, j1, L2⟩
    dsimp only
    have hdl := dropF_len z1 ((nth cells at_).fields.take j.toNat)
    have hz1l : z1.cells.length = cells.length := by rw [hz1c]; simp
    have hpl := pend_len L2
    refine ⟨fun hj => ?_, fun hj => ?_⟩
    · simp only [decide_eq_true_eq, decide_eq_false_iff_not, Bool.and_eq_true, Bool.and_eq_false_iff, Bool.or_eq_true, Bool.or_eq_false_iff, Bool.not_eq_true', Bool.not_eq_false', Bool.not_true, Bool.not_false, Bool.false_eq_true, Bool.true_eq_false, Int.not_lt, Int.not_le, ge_iff_le, gt_iff_lt, Bool.not_eq_eq_eq_not, Bool.true_or, Bool.or_true, Bool.false_or, Bool.or_false, Bool.true_and, Bool.and_true, false_or, or_false, true_and, and_true, Decidable.not_not] at hj
      have hlt : j.toNat < (nth cells at_).fields.length := by omega
      have hdrop : (nth cells at_).fields.drop j.toNat = nth (nth cells at_).fields j :: (nth cells at_).fields.drop (j + 1).toNat := by
        rw [show (j + 1).toNat = j.toNat + 1 from by omega, List.drop_eq_getElem_cons hlt]
        congr 1
        exact (nth_of (i := j) (by simp [hlt])).symm
      have htake := take_nth (l := (nth cells at_).fields) j0 (by omega)
      have hstep := dropF_snoc z1 (nth (nth cells at_).fields j) ((nth cells at_).fields.take j.toNat)
      rw [← htake] at hstep
      rw [hdrop] at L2
      refine go_ix hF j0 (by omega) ?_
      refine ld_int (hF.mono hS.sub) j0 (by omega) ?_
      intro b0 b1
      refine ⟨x, Cel.load hC hS rfl, _, _, c_liveAt (Own.read hO hS) ⟨b0, b1⟩, fun hq => ?_, fun hq => ?_⟩
      · obtain ⟨l1, l2, l3⟩ := live_iff.1 hq
        have hat : atI (nth (nth cells at_).fields j) = nth (nth cells at_).fields j - 1000 := atI_of l1 b1
        rw [hat]
        refine Trip.mono' (c_implDrop hC hO hP hS (by omega) l2 l3 (by omega) (by omega)) ?_
        rintro _ w6 ⟨y6, I6, J6, K6, rfl, hC6, hO6, hP6, hS⟩
        refine ⟨rfl, ?_⟩
        refine go_wr (by omega) (by omega) ?_
        rw [if_pos l1] at hstep
        refine ⟨⟨x, y6, I6, J6, K6, hC6, by rw [hstep]; exact hO6, by rw [hstep]; exact hP6, hS, by omega, by omega, by rw [hstep]; exact L2.lower l1⟩, by omega⟩
      · have hnp : ¬ 1000 ≤ nth (nth cells at_).fields j := fun hp => by have := L2.head hp; rw [this] at hq; cases hq
        refine go_wr (by omega) (by omega) ?_
        rw [if_neg hnp] at hstep
        refine ⟨⟨x, y, I, J, K, hC, by rw [hstep]; exact hO, by rw [hstep]; exact hP, hS, by omega, by omega, by rw [hstep]; exact L2.skip hnp⟩, by omega⟩
    · simp only [decide_eq_true_eq, decide_eq_false_iff_not, Bool.and_eq_true, Bool.and_eq_false_iff, Bool.or_eq_true, Bool.or_eq_false_iff, Bool.not_eq_true', Bool.not_eq_false', Bool.not_true, Bool.not_false, Bool.false_eq_true, Bool.true_eq_false, Int.not_lt, Int.not_le, ge_iff_le, gt_iff_lt, Bool.not_eq_eq_eq_not, Bool.true_or, Bool.or_true, Bool.false_or, Bool.or_false, Bool.true_and, Bool.and_true, false_or, or_false, true_and, and_true, Decidable.not_not] at hj
      refine go_wr (by omega) (by omega) ?_
      rw [take_all (by omega)] at hO hP
      rw [← hs1, ← hsucc hc.1] at hO hP
      exact ⟨⟨x, y, I, J, K, hC, hO, hP, hS, by omega, by omega⟩, by omega⟩
  · simp only [decide_eq_true_eq, decide_eq_false_iff_not, Bool.and_eq_true, Bool.and_eq_false_iff, Bool.or_eq_true, Bool.or_eq_false_iff, Bool.not_eq_true', Bool.not_eq_false', Bool.not_true, Bool.not_false, Bool.false_eq_true, Bool.true_eq_false, Int.not_lt, Int.not_le, ge_iff_le, gt_iff_lt, Bool.not_eq_eq_eq_not, Bool.true_or, Bool.or_true, Bool.false_or, Bool.or_false, Bool.true_and, Bool.and_true, false_or, or_false, true_and, and_true, Decidable.not_not] at hc
    have he := hend (by
      rintro ⟨q1, q2⟩
      rcases hc with hc | hc
      · omega
      · exact q2 (List.eq_nil_of_length_eq_zero (by show pend.length = 0; omega)))
    have hres : settleL m.toNat z = ⟨cells.take (trimN cells pend cells.length), pend⟩ := by unfold settleL trimZ; rw [he]
    refine ⟨x, Cel.load hC hS rfl, ?_⟩
    refine ⟨fun i w => St u w (I ++ (J ++ (K ++ R))) ∧ 0 ≤ i ∧ i ≤ cells.length ∧ ∀ j : Int, i ≤ j → j < cells.length → (nth cells j).count = 0 ∧ j ∉ pend, fun i _ => i.toNat, ⟨hS, by omega, by omega, fun j h1 h2 => by omega⟩, ?_⟩
    clear hS
    rintro i w ⟨hS, h0, h1, h2⟩
    dsimp only
    have hi : decide (i > 0) = true → 0 ≤ i - 1 ∧ i - 1 < cells.length := fun hc => by simp only [decide_eq_true_eq, decide_eq_false_iff_not, Bool.and_eq_true, Bool.and_eq_false_iff, Bool.or_eq_true, Bool.or_eq_false_iff, Bool.not_eq_true', Bool.not_eq_false', Bool.not_true, Bool.not_false, Bool.false_eq_true, Bool.true_eq_false, Int.not_lt, Int.not_le, ge_iff_le, gt_iff_lt, Bool.not_eq_eq_eq_not, Bool.true_or, Bool.or_true, Bool.false_or, Bool.or_false, Bool.true_and, Bool.and_true, false_or, or_false, true_and, and_true, Decidable.not_not] at hc; omega
    refine ⟨x, fun _ => Cel.load hC hS rfl, i - 1, fun _ => wrap_i64 (by omega) (by omega), fun hc => hO.ix (hi hc).1 (hi hc).2, ?_⟩
    refine ld_countg (hO.src hS) hi ?_
    refine ⟨y, fun _ => Cel.load hC hS rfl, i - 1, fun _ => wrap_i64 (by omega) (by omega), _, fun _ => c_contains (Own.read hP hS), fun hc => ?_, fun hc => ?_⟩
    · simp only [decide_eq_true_eq, decide_eq_false_iff_not, Bool.and_eq_true, Bool.and_eq_false_iff, Bool.or_eq_true, Bool.or_eq_false_iff, Bool.not_eq_true', Bool.not_eq_false', Bool.not_true, Bool.not_false, Bool.false_eq_true, Bool.true_eq_false, Int.not_lt, Int.not_le, ge_iff_le, gt_iff_lt, Bool.not_eq_eq_eq_not, Bool.true_or, Bool.or_true, Bool.false_or, Bool.or_false, Bool.true_and, Bool.and_true, false_or, or_false, true_and, and_true, Decidable.not_not] at hc
      refine go_wr (by omega) (by omega) ?_
      refine ⟨⟨hS, by omega, by omega, fun j j0 j1 => ?_⟩, by omega⟩
      by_cases e : j = i - 1
      · rw [e]; exact ⟨hc.1.2, hc.2⟩
      · exact h2 j (by omega) j1
    · simp only [decide_eq_true_eq, decide_eq_false_iff_not, Bool.and_eq_true, Bool.and_eq_false_iff, Bool.or_eq_true, Bool.or_eq_false_iff, Bool.not_eq_true', Bool.not_eq_false', Bool.not_true, Bool.not_false, Bool.false_eq_true, Bool.true_eq_false, Int.not_lt, Int.not_le, ge_iff_le, gt_iff_lt, Bool.not_eq_eq_eq_not, Bool.true_or, Bool.or_true, Bool.false_or, Bool.or_false, Bool.true_and, Bool.and_true, false_or, or_false, true_and, and_true, Decidable.not_not] at hc
      have e : trimN cells pend cells.length = i.toNat := trimN_eq (by omega) (fun k k0 k1 => h2 k (by omega) k1) (fun hp => by
        rw [Int.toNat_of_nonneg h0]
        rcases hc with (hc | hc) | hc
        · omega
        · exact .inl hc
        · exact .inr hc)
      have hcut := hO.cut (lo := 0) (hi := i) (by omega) h0 h1
      have hct : (cells.take i.toNat).drop (0 : Int).toNat = cells.take i.toNat := by simp
      rw [hct] at hcut
      refine ⟨x, Cel.load hC hS rfl, ⟨by omega, by omega, ?_⟩, ?_⟩
      · obtain ⟨_, hr, _⟩ := Own.read hO hS; have := hr.2.1; omega
      refine Cel.store hC hS (by simp) ?_
      intro w6 I6 hC hS
      simp [putR] at hC
      refine ⟨_, y, I6, J, K, rfl, hC, ?_, ?_, hS⟩
      · rw [hres, e]; exact hcut
      · rw [hres]; exact hP
end
end Go.Vc

namespace Go.Vc
open Go Go.Proofs Go.RowKit
set_option linter.all false

def stlOk (z : LazyD) (m : Int) : Prop := vlazy z ∧ 0 ≤ m ∧ m ≤ 100000
noncomputable def stlB (z : LazyD) (m : Int) : Bool := @decide (stlOk z m) (Classical.propDecidable _)
theorem stlB_iff {z : LazyD} {n : Int} : stlB z n = true ↔ stlOk z n := by unfold stlB; exact @decide_eq_true_iff _ (Classical.propDecidable _)
noncomputable def stlR (z : LazyD) (m : Int) : LazyD := bif stlB z m then settleL m.toNat z else ⟨[], []⟩
theorem stlR_t {z : LazyD} {n : Int} (h : stlOk z n) : stlR z n = settleL n.toNat z := by unfold stlR; rw [stlB_iff.2 h]; rfl
theorem stlB_f {z : LazyD} {n : Int} (h : ¬ stlOk z n) : stlB z n = false := Bool.eq_false_iff.2 fun e => h (stlB_iff.1 e)
theorem stlR_f {z : LazyD} {n : Int} (h : ¬ stlOk z n) : stlR z n = ⟨[], []⟩ := by unfold stlR; rw [stlB_f h]; rfl
/-- the settled heap -/
noncomputable def shR (z : LazyD) : List CellD := bif vlazyB z then (settleL z.cells.length z).cells else []
theorem shR_t {z : LazyD} (h : vlazy z) : shR z = (settleL z.cells.length z).cells := by unfold shR; rw [vlazyB_iff.2 h]; rfl
theorem vlazyB_f {z : LazyD} (h : ¬ vlazy z) : vlazyB z = false := Bool.eq_false_iff.2 fun e => h (vlazyB_iff.1 e)
theorem shR_f {z : LazyD} (h : ¬ vlazy z) : shR z = [] := by unfold shR; rw [vlazyB_f h]; rfl

theorem settle_zero {z : LazyD} (h : vlazy z) : settleL 0 z = z := trim_of_last (vlazy_iff.1 h).2
theorem settle_nil {z : LazyD} (h : vlazy z) (hp : z.pend = []) (n : Nat) : settleL n z = z := by
  unfold settleL
  rw [settleN_nil hp]
  exact trim_of_last (vlazy_iff.1 h).2
theorem settle_done {z : LazyD} (L : LZ z.cells z.pend []) {m n : Nat} (hp : (settleL m z).pend = []) : settleL (m + n) z = settleL m z := by
  rw [← settle_again L m n]
  exact settle_nil (settle_valid L m) hp n
theorem settle_full {z : LazyD} (L : LZ z.cells z.pend []) {m : Nat} (hp : (settleL m z).pend = []) : settleL m z = settleL z.cells.length z := by
  have h1 := settle_done L (n := z.cells.length) hp
  have h2 := settle_done L (m := z.cells.length) (n := m) (settle_all L (nf_le L)).2
  rw [← h1, Nat.add_comm, h2]

section
variable {u v w : World} {x y xf s t : Sl} {l ws fs pend : List Int} {h g : List CellD} {z z' : LazyD} {m n k f : Int} {a : Addr} {I J K L R R1 : Items} {F F1 : Items → Items}

theorem c_implSettledHeap (hx : Read v x z.cells) (hy : Read v y z.pend) (hl : z.cells.length ≤ 1000000000) :
    Trip Try.prog 22 #[.agg #[x.val, y.val]] v fun r w => ∃ x' u' I, r = .tuple #[x'.val, .bool (vlazyB z)] ∧ Sub v u' ∧ St u' w (I ++ []) ∧ Own u' x' (shR z) I := by
  refine of22 _ _ _ _ ?_
  unfold vc22
  refine ⟨_, c_validLazyI hx hy, fun hc => ?_, fun hc => ?_⟩
  · have hb : ¬ vlazy z := fun hd => by rw [vlazyB_iff.2 hd] at hc; cases hc
    exact ⟨⟨none, 0, 0⟩, v, [], by rw [vlazyB_f hb]; rfl, .refl v, .refl v, by rw [shR_f hb]; exact Own.nil v⟩
  simp only [decide_eq_true_eq, decide_eq_false_iff_not, Bool.and_eq_true, Bool.and_eq_false_iff, Bool.or_eq_true, Bool.or_eq_false_iff, Bool.not_eq_true', Bool.not_eq_false', Bool.not_true, Bool.not_false, Bool.false_eq_true, Bool.true_eq_false, Int.not_lt, Int.not_le, ge_iff_le, gt_iff_lt, Bool.not_eq_eq_eq_not, Bool.true_or, Bool.or_true, Bool.false_or, Bool.or_false, Bool.true_and, Bool.and_true, false_or, or_false, true_and, and_true, Decidable.not_not] at hc
  have hd := vlazyB_iff.1 hc
  have hL := (vlazy_iff.1 hd).1
  refine Trip.mono' (c_cloneLazy hx hy) ?_
  rintro _ w2 ⟨c, p, u2, I2, J2, rfl, hu2, hS, hO, hP⟩
  refine ⟨_, _, rfl, ?_⟩
  refine St.box (vals := [.slice none 0 0, .slice none 0 0]) hS fun a w3 I3 hC hS hs => ?_
  refine Cel.store hC hS (by simp) ?_
  intro w4 I4 hC hS
  simp [putR] at hC
  let Inv : Nat → World → Prop := fun n w => ∃ (k : Nat) (x y : Sl) (I J K : Items), n = nf z - 100000 * k ∧ Cel a [x.val, y.val] I ∧ Own u2 x (settleL (100000 * k) z).cells J ∧ Own u2 y (settleL (100000 * k) z).pend K ∧ St u2 w (I ++ (J ++ (K ++ [])))
  refine ⟨fun w => ∃ n, Inv n w, fun w => leastM fun n => Inv n w, ⟨_, 0, c, p, I4, I2, J2, rfl, hC, by rw [Nat.mul_zero, settle_zero hd]; exact hO, by rw [Nat.mul_zero, settle_zero hd]; exact hP, hS⟩, ?_⟩
  clear hC hO hP hS
  intro w hI
  replace hI := leastM_spec hI
  dsimp only
  generalize leastM (fun n => Inv n w) = n at *
  obtain ⟨k, x, y, I, J, K, hn, hC, hO, hP, hS⟩ := hI
  have hyn := hP.n
  refine ⟨y, Cel.load hC hS rfl, fun hc => ?_, fun hc => ?_⟩
  · simp only [decide_eq_true_eq, decide_eq_false_iff_not, Bool.and_eq_true, Bool.and_eq_false_iff, Bool.or_eq_true, Bool.or_eq_false_iff, Bool.not_eq_true', Bool.not_eq_false', Bool.not_true, Bool.not_false, Bool.false_eq_true, Bool.true_eq_false, Int.not_lt, Int.not_le, ge_iff_le, gt_iff_lt, Bool.not_eq_eq_eq_not, Bool.true_or, Bool.or_true, Bool.false_or, Bool.or_false, Bool.true_and, Bool.and_true, false_or, or_false, true_and, and_true, Decidable.not_not] at hc
    have hlt : 100000 * k < nf z := by
      rcases Nat.lt_or_ge (100000 * k) (nf z) with h | h
      · exact h
      · have := (settle_all hL h).2
        rw [this] at hyn; simp at hyn; omega
    have L2 := (vlazy_iff.1 (settle_valid hL (100000 * k))).1
    have hle : (settleL (100000 * k) z).cells.length ≤ z.cells.length := (settleL_len (100000 * k) (.inr hd)).1
    refine Trip.mono' (c_implSettle (m := 100000) hC hO hP hS L2 (by omega) (by omega) (by omega)) ?_
    rintro _ w5 ⟨x5, y5, I5, J5, K5, rfl, hC, hO, hP, hS⟩
    have hag : settleL (100000 : Int).toNat (settleL (100000 * k) z) = settleL (100000 * (k + 1)) z := by rw [settle_again hL, Nat.mul_add]; rfl
    rw [hag] at hO hP
    exact ⟨rfl, rfl, rfl, loopEnd (k := nf z - 100000 * (k + 1)) ⟨k + 1, x5, y5, I5, J5, K5, rfl, hC, hO, hP, hS⟩ (by omega)⟩
  · simp only [decide_eq_true_eq, decide_eq_false_iff_not, Bool.and_eq_true, Bool.and_eq_false_iff, Bool.or_eq_true, Bool.or_eq_false_iff, Bool.not_eq_true', Bool.not_eq_false', Bool.not_true, Bool.not_false, Bool.false_eq_true, Bool.true_eq_false, Int.not_lt, Int.not_le, ge_iff_le, gt_iff_lt, Bool.not_eq_eq_eq_not, Bool.true_or, Bool.or_true, Bool.false_or, Bool.or_false, Bool.true_and, Bool.and_true, false_or, or_false, true_and, and_true, Decidable.not_not] at hc
    have hp : (settleL (100000 * k) z).pend = [] := List.eq_nil_of_length_eq_zero (by omega)
    rw [settle_full hL hp] at hO
    exact ⟨x, Cel.load hC hS rfl, x, u2, J, by rw [vlazyB_iff.2 hd], hu2, hS.to, by rw [shR_t hd]; exact hO⟩

theorem c_liveIn (hx : Read v x h) : Mk Try.prog 57 #[x.val] v fun r J => ∃ y l, r = y.val ∧ Own v y l J ∧ l.length = nlive h ∧ ∀ k : Int, k ∈ l ↔ 0 ≤ k ∧ k < h.length ∧ 0 < (nth h k).count := by
  refine of57 _ _ _ ?_
  unfold vc57
  have hn := hx.n
  have hl := hx.le
  refine St.build (α := Int) (.refl v) (by (repeat' (first | exact VsOf.nil | apply VsOf.cons | (apply VOf.int; first | assumption | (constructor <;> first | omega | (simp only [List.length_set, List.length_append, List.length_replicate, List.length_cons, List.length_nil, List.length_take, List.length_drop, List.length_map, List.length_singleton] at *; omega))) | exact VOf.bool | exact VOf.str))) rfl (by decide) ?_
  intro y w1 I1 hO hS hs
  refine ⟨_, rfl, ?_⟩
  refine ⟨fun y i w => ∃ (l : List Int) (I : Items), Own v y l I ∧ St v w (I ++ []) ∧ 0 ≤ i ∧ i ≤ h.length ∧ l.length = nlive (h.take i.toNat) ∧ l.length ≤ i ∧ ∀ k : Int, k ∈ l ↔ 0 ≤ k ∧ k < i ∧ 0 < (nth h k).count,
    fun _ i _ => (h.length - i).toNat, ⟨[], I1, hO, hS, by omega, by omega, by simp [nlive], by simp, fun k => ⟨fun h => (by cases h), fun h => by omega⟩⟩, ?_⟩
  clear hO hS
  rintro y i w ⟨l, I, hO, hS, h0, h1, h2, h3, h4⟩
  dsimp only
  refine ⟨fun hi => ?_, fun hi => ?_⟩
  · simp only [decide_eq_true_eq, decide_eq_false_iff_not, Bool.and_eq_true, Bool.and_eq_false_iff, Bool.or_eq_true, Bool.or_eq_false_iff, Bool.not_eq_true', Bool.not_eq_false', Bool.not_true, Bool.not_false, Bool.false_eq_true, Bool.true_eq_false, Int.not_lt, Int.not_le, ge_iff_le, gt_iff_lt, Bool.not_eq_eq_eq_not, Bool.true_or, Bool.or_true, Bool.false_or, Bool.or_false, Bool.true_and, Bool.and_true, false_or, or_false, true_and, and_true, Decidable.not_not] at hi
    have htk := take_nth (l := h) h0 (by omega)
    refine go_ix hx h0 (by omega) ?_
    refine ld_count (hx.src hS.sub) h0 (by omega) ?_
    intro a0 a1
    refine ⟨fun hc => ?_, fun hc => ?_⟩
    · simp only [decide_eq_true_eq, decide_eq_false_iff_not, Bool.and_eq_true, Bool.and_eq_false_iff, Bool.or_eq_true, Bool.or_eq_false_iff, Bool.not_eq_true', Bool.not_eq_false', Bool.not_true, Bool.not_false, Bool.false_eq_true, Bool.true_eq_false, Int.not_lt, Int.not_le, ge_iff_le, gt_iff_lt, Bool.not_eq_eq_eq_not, Bool.true_or, Bool.or_true, Bool.false_or, Bool.or_false, Bool.true_and, Bool.and_true, false_or, or_false, true_and, and_true, Decidable.not_not] at hc
      refine St.build (α := Int) hS (by (repeat' (first | exact VsOf.nil | apply VsOf.cons | (apply VOf.int; first | assumption | (constructor <;> first | omega | (simp only [List.length_set, List.length_append, List.length_replicate, List.length_cons, List.length_nil, List.length_take, List.length_drop, List.length_map, List.length_singleton] at *; omega))) | exact VOf.bool | exact VOf.str))) rfl (by decide) ?_
      intro x4 w4 I4 hO4 hS hs
      refine ⟨_, rfl, ?_⟩
      refine Own.append hO hS (hO4.src hS) (by simp; omega) (by decide) ?_
      intro x5 w5 I5 hO5 hS
      refine ⟨_, rfl, ?_⟩
      refine go_wr (by omega) (by omega) ?_
      refine ⟨⟨_, I5, hO5, hS.to, by omega, by omega, ?_, by simp; omega, fun k => ?_⟩, by omega⟩
      · rw [htk]; simp only [nlive, List.countP_append, List.length_append, List.length_singleton] at h2 ⊢
        rw [h2]; simp [hc]
      · rw [List.mem_append, h4 k, List.mem_singleton]
        constructor
        · rintro (h | rfl)
          · exact ⟨h.1, by omega, h.2.2⟩
          · exact ⟨h0, by omega, hc⟩
        · rintro ⟨g0, g1, g2⟩
          rcases Int.lt_or_le k i with hlt | hge
          · exact .inl ⟨g0, hlt, g2⟩
          · exact .inr (by omega)
    · simp only [decide_eq_true_eq, decide_eq_false_iff_not, Bool.and_eq_true, Bool.and_eq_false_iff, Bool.or_eq_true, Bool.or_eq_false_iff, Bool.not_eq_true', Bool.not_eq_false', Bool.not_true, Bool.not_false, Bool.false_eq_true, Bool.true_eq_false, Int.not_lt, Int.not_le, ge_iff_le, gt_iff_lt, Bool.not_eq_eq_eq_not, Bool.true_or, Bool.or_true, Bool.false_or, Bool.or_false, Bool.true_and, Bool.and_true, false_or, or_false, true_and, and_true, Decidable.not_not] at hc
      refine go_wr (by omega) (by omega) ?_
      refine ⟨⟨l, I, hO, hS, by omega, by omega, ?_, by omega, fun k => ?_⟩, by omega⟩
      · rw [htk]; simp only [nlive, List.countP_append] at h2 ⊢
        rw [h2]; simp; omega
      · rw [h4 k]
        constructor
        · rintro ⟨g0, g1, g2⟩; exact ⟨g0, by omega, g2⟩
        · rintro ⟨g0, g1, g2⟩
          refine ⟨g0, ?_, g2⟩
          rcases Int.lt_or_le k i with hlt | hge
          · exact hlt
          · have : k = i := by omega
            rw [this] at g2; omega
  · simp only [decide_eq_true_eq, decide_eq_false_iff_not, Bool.and_eq_true, Bool.and_eq_false_iff, Bool.or_eq_true, Bool.or_eq_false_iff, Bool.not_eq_true', Bool.not_eq_false', Bool.not_true, Bool.not_false, Bool.false_eq_true, Bool.true_eq_false, Int.not_lt, Int.not_le, ge_iff_le, gt_iff_lt, Bool.not_eq_eq_eq_not, Bool.true_or, Bool.or_true, Bool.false_or, Bool.or_false, Bool.true_and, Bool.and_true, false_or, or_false, true_and, and_true, Decidable.not_not] at hi
    rw [take_all (by omega)] at h2
    exact ⟨I, by simpa using hS, y, l, rfl, hO, h2, fun k => by rw [h4 k, show i = (h.length : Int) from by omega]⟩

end
end Go.Vc
