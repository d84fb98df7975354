/- Part of the proofs about the heaps: a law is joined in the text whose name ends in W and the law. -/
import Derived.Test.YtmmkfmmcmjpcgaaBCY
namespace Go.Vc
open Go Go.Proofs Go.RowKit
set_option linter.all false

def lzP (z : LazyD) (k : Nat) : Prop := k = z.cells.length ∨ (k < z.cells.length ∧ (nth z.cells k).count = 0 ∧ (k : Int) ∉ z.pend)
/-- the first cell that is free -/
noncomputable def lzIdx (z : LazyD) : Nat := leastM (lzP z)
theorem lzIdx_eq {z : LazyD} {i : Nat} (h : lzP z i) (hs : ∀ j, j < i → ¬ lzP z j) : lzIdx z = i := by
  have h1 := leastM_spec (p := lzP z) ⟨i, h⟩
  have h2 := leastM_le h
  unfold lzIdx
  rcases Nat.lt_or_ge (leastM (lzP z)) i with hlt | hge
  · exact absurd h1 (hs _ hlt)
  · omega
theorem lzIdx_le (z : LazyD) : lzIdx z ≤ z.cells.length := leastM_le (p := lzP z) (.inl rfl)
def alZ (z : LazyD) (k n : Int) (fs : List Int) : LazyD := ⟨placeL z.cells k ⟨1, n, fs⟩, z.pend⟩
def alOk (z : LazyD) (n : Int) (fs : List Int) : Prop := vlazy z ∧ (∀ f ∈ fs, word (settleL 1 z).cells f = true) ∧ vlazy (alZ (settleL 1 z) (lzIdx (settleL 1 z)) n fs)
noncomputable def alB (z : LazyD) (n : Int) (fs : List Int) : Bool := @decide (alOk z n fs) (Classical.propDecidable _)
theorem alB_t {z : LazyD} {n : Int} {fs : List Int} (h : alOk z n fs) : alB z n fs = true := by unfold alB; exact (@decide_eq_true_iff _ (Classical.propDecidable _)).2 h
theorem alB_f {z : LazyD} {n : Int} {fs : List Int} (h : ¬ alOk z n fs) : alB z n fs = false := by unfold alB; exact (@decide_eq_false_iff_not _ (Classical.propDecidable _)).2 h
noncomputable def alR (z : LazyD) (n : Int) (fs : List Int) : LazyD := bif alB z n fs then alZ (settleL 1 z) (lzIdx (settleL 1 z)) n fs else ⟨[], []⟩
noncomputable def alN (z : LazyD) (n : Int) (fs : List Int) : Int := bif alB z n fs then 1000 + (lzIdx (settleL 1 z) : Int) else 0

section
variable {u v w : World} {x y xf s t : Sl} {l ws fs pend : List Int} {h g : List CellD} {z z' : LazyD} {b m n k f : Int} {a : Addr} {I J K L R R1 : Items} {F F1 : Items → Items} {q : Nat → List Value → Prop}

theorem c_lazyIndex (hx : Read v x z.cells) (hy : Read v y z.pend) : Fn Try.prog 84 #[.agg #[x.val, y.val]] v (.int .i64 (lzIdx z)) := by
  refine of84 _ _ _ _ ?_
  unfold vc84
  have hn := hx.n
  have hl := hx.le
  refine ⟨fun i w => Sub v w ∧ 0 ≤ i ∧ i ≤ z.cells.length ∧ ∀ j : Nat, (j : Int) < i → ¬ lzP z j, fun i _ => (z.cells.length - i).toNat, ⟨.refl v, by omega, by omega, fun j hj => by omega⟩, ?_⟩
  rintro i w ⟨hs, h0, h1, h2⟩
  dsimp only
  refine ⟨fun hi => ?_, fun hi => ?_⟩
  · simp only [decide_eq_true_eq, decide_eq_false_iff_not, Bool.and_eq_true, Bool.and_eq_false_iff, Bool.or_eq_true, Bool.or_eq_false_iff, Bool.not_eq_true', Bool.not_eq_false', Bool.not_true, Bool.not_false, Bool.false_eq_true, Bool.true_eq_false, Int.not_lt, Int.not_le, ge_iff_le, gt_iff_lt, Bool.not_eq_eq_eq_not, Bool.true_or, Bool.or_true, Bool.false_or, Bool.or_false, Bool.true_and, Bool.and_true, false_or, or_false, true_and, and_true, Decidable.not_not] at hi
    refine go_ix hx h0 (by omega) ?_
    refine ld_count (hx.src hs) h0 (by omega) ?_
    intro a0 a1
    refine ⟨_, fun _ => c_specIsIn (hy.mono hs), fun hc => ?_, fun hc => ?_⟩
    · simp only [decide_eq_true_eq, decide_eq_false_iff_not, Bool.and_eq_true, Bool.and_eq_false_iff, Bool.or_eq_true, Bool.or_eq_false_iff, Bool.not_eq_true', Bool.not_eq_false', Bool.not_true, Bool.not_false, Bool.false_eq_true, Bool.true_eq_false, Int.not_lt, Int.not_le, ge_iff_le, gt_iff_lt, Bool.not_eq_eq_eq_not, Bool.true_or, Bool.or_true, Bool.false_or, Bool.or_false, Bool.true_and, Bool.and_true, false_or, or_false, true_and, and_true, Decidable.not_not] at hc
      have e : lzIdx z = i.toNat := lzIdx_eq (.inr ⟨by omega, by rw [Int.toNat_of_nonneg h0]; exact hc.1, by rw [Int.toNat_of_nonneg h0]; exact hc.2⟩) (fun j hj => h2 j (by omega))
      exact ⟨by rw [e, Int.toNat_of_nonneg h0], hs⟩
    · simp only [decide_eq_true_eq, decide_eq_false_iff_not, Bool.and_eq_true, Bool.and_eq_false_iff, Bool.or_eq_true, Bool.or_eq_false_iff, Bool.not_eq_true', Bool.not_eq_false', Bool.not_true, Bool.not_false, Bool.false_eq_true, Bool.true_eq_false, Int.not_lt, Int.not_le, ge_iff_le, gt_iff_lt, Bool.not_eq_eq_eq_not, Bool.true_or, Bool.or_true, Bool.false_or, Bool.or_false, Bool.true_and, Bool.and_true, false_or, or_false, true_and, and_true, Decidable.not_not] at hc
      refine go_wr (by omega) (by omega) ?_
      refine ⟨rfl, rfl, ⟨hs, by omega, by omega, fun j hj hp => ?_⟩, by omega⟩
      by_cases e : (j : Int) = i
      · rcases hp with hp | ⟨hp1, hp2, hp3⟩
        · omega
        · rw [e] at hp2 hp3
          rcases hc with hc | hc
          · exact hc hp2
          · exact hp3 hc
      · exact h2 j (by omega) hp
  · simp only [decide_eq_true_eq, decide_eq_false_iff_not, Bool.and_eq_true, Bool.and_eq_false_iff, Bool.or_eq_true, Bool.or_eq_false_iff, Bool.not_eq_true', Bool.not_eq_false', Bool.not_true, Bool.not_false, Bool.false_eq_true, Bool.true_eq_false, Int.not_lt, Int.not_le, ge_iff_le, gt_iff_lt, Bool.not_eq_eq_eq_not, Bool.true_or, Bool.or_true, Bool.false_or, Bool.or_false, Bool.true_and, Bool.and_true, false_or, or_false, true_and, and_true, Decidable.not_not] at hi
    have e : lzIdx z = z.cells.length := lzIdx_eq (.inl rfl) (fun j hj => h2 j (by omega))
    exact ⟨by rw [e, hn], hs⟩

theorem c_specLazyAlloc (hx : Read v x z.cells) (hy : Read v y z.pend) (hf : Read v xf fs) (hn : InI n) (hl : z.cells.length ≤ 1000000000) :
    Mk Try.prog 46 #[.agg #[x.val, y.val], .int .i64 n, xf.val] v fun r J => ∃ x' y' : Sl, ∃ J1 J2, r = .tuple #[.agg #[x'.val, y'.val], .int .i64 (alN z n fs)] ∧ OwnD x' (alR z n fs).cells J1 ∧ Own v y' (alR z n fs).pend J2 ∧ J = J1 ++ J2 := by
  refine of46 _ _ _ _ _ _ ?_
  unfold vc46
  have hfn := hf.n
  have hfl := hf.le
  have bad : ¬ alOk z n fs → ∀ w I, St v w (I ++ []) → ∃ J, St v w J ∧ ∃ x' y' : Sl, ∃ J1 J2, Value.tuple #[.agg #[.slice none 0 0, .slice none 0 0], .int .i64 0] = .tuple #[.agg #[x'.val, y'.val], .int .i64 (alN z n fs)] ∧ OwnD x' (alR z n fs).cells J1 ∧ Own v y' (alR z n fs).pend J2 ∧ J = J1 ++ J2 :=
    fun hb w I hS => ⟨[], hS.to, ⟨none, 0, 0⟩, ⟨none, 0, 0⟩, [], [], by unfold alN; rw [alB_f hb]; rfl, by unfold alR; rw [alB_f hb]; exact OwnD.nil, by unfold alR; rw [alB_f hb]; exact Own.nil v, rfl⟩
  refine ⟨_, c_validLazy hx hy, fun hc => bad (fun hd => ?_) v [] (.refl v), fun hc => ?_⟩
  · rw [vlazyB_iff.2 hd.1] at hc; cases hc
  simp only [decide_eq_true_eq, decide_eq_false_iff_not, Bool.and_eq_true, Bool.and_eq_false_iff, Bool.or_eq_true, Bool.or_eq_false_iff, Bool.not_eq_true', Bool.not_eq_false', Bool.not_true, Bool.not_false, Bool.false_eq_true, Bool.true_eq_false, Int.not_lt, Int.not_le, ge_iff_le, gt_iff_lt, Bool.not_eq_eq_eq_not, Bool.true_or, Bool.or_true, Bool.false_or, Bool.or_false, Bool.true_and, Bool.and_true, false_or, or_false, true_and, and_true, Decidable.not_not] at hc
  have hd := vlazyB_iff.1 hc
  refine Mk.use (c_copyLazy hx hy) (.refl v) ?_
  rintro _ w1 _ ⟨t, s, J1, J2, rfl, hO, hP, rfl⟩ hS hsub
  replace hS : St v w1 (J1 ++ (J2 ++ [])) := hS.perm (by simp)
  refine ⟨_, _, rfl, ?_⟩
  refine Trip.mono' (c_specSettle (m := 1) hO hP hS (vlazy_iff.1 hd).1 (by omega) (by omega) hl) ?_
  rintro _ w2 ⟨x7, y7, J7, K7, rfl, hO, hP, hS⟩
  rw [show (1 : Int).toNat = 1 from rfl] at hO hP
  have hl7 := (settleL_len 1 (.inr hd)).1
  refine ⟨_, _, rfl, ?_⟩
  refine ⟨fun i w => St v w (J7 ++ (K7 ++ [])) ∧ 0 ≤ i ∧ i ≤ fs.length ∧ ∀ f ∈ fs.take i.toNat, word (settleL 1 z).cells f = true, fun i _ => (fs.length - i).toNat, ⟨hS, by omega, by omega, by simp⟩, ?_⟩
  clear hS
  rintro i w ⟨hS, h0, h1, h2⟩
  dsimp only
  refine ⟨fun hi => ?_, fun hi => ?_⟩
  · simp only [decide_eq_true_eq, decide_eq_false_iff_not, Bool.and_eq_true, Bool.and_eq_false_iff, Bool.or_eq_true, Bool.or_eq_false_iff, Bool.not_eq_true', Bool.not_eq_false', Bool.not_true, Bool.not_false, Bool.false_eq_true, Bool.true_eq_false, Int.not_lt, Int.not_le, ge_iff_le, gt_iff_lt, Bool.not_eq_eq_eq_not, Bool.true_or, Bool.or_true, Bool.false_or, Bool.or_false, Bool.true_and, Bool.and_true, false_or, or_false, true_and, and_true, Decidable.not_not] at hi
    have hm := nth_mem (l := fs) h0 (by omega)
    refine go_ix hf h0 (by omega) ?_
    refine ld_int (hf.mono hS.sub) h0 (by omega) ?_
    intro a0 a1
    refine ⟨_, c_isWord (OwnD.read hO hS) ⟨a0, a1⟩, fun hc => bad (fun hd => ?_) w (J7 ++ K7) (hS.perm (by simp)), fun hc => ?_⟩
    · rw [hd.2.1 _ hm] at hc; cases hc
    · simp only [decide_eq_true_eq, decide_eq_false_iff_not, Bool.and_eq_true, Bool.and_eq_false_iff, Bool.or_eq_true, Bool.or_eq_false_iff, Bool.not_eq_true', Bool.not_eq_false', Bool.not_true, Bool.not_false, Bool.false_eq_true, Bool.true_eq_false, Int.not_lt, Int.not_le, ge_iff_le, gt_iff_lt, Bool.not_eq_eq_eq_not, Bool.true_or, Bool.or_true, Bool.false_or, Bool.or_false, Bool.true_and, Bool.and_true, false_or, or_false, true_and, and_true, Decidable.not_not] at hc
      refine go_wr (by omega) (by omega) ?_
      refine ⟨rfl, rfl, rfl, rfl, rfl, rfl, ⟨hS, by omega, by omega, ?_⟩, by omega⟩
      rw [take_nth h0 (by omega)]; intro f hf2
      rcases List.mem_append.1 hf2 with hf2 | hf2
      · exact h2 f hf2
      · rw [List.mem_singleton.1 hf2]; exact hc
  · simp only [decide_eq_true_eq, decide_eq_false_iff_not, Bool.and_eq_true, Bool.and_eq_false_iff, Bool.or_eq_true, Bool.or_eq_false_iff, Bool.not_eq_true', Bool.not_eq_false', Bool.not_true, Bool.not_false, Bool.false_eq_true, Bool.true_eq_false, Int.not_lt, Int.not_le, ge_iff_le, gt_iff_lt, Bool.not_eq_eq_eq_not, Bool.true_or, Bool.or_true, Bool.false_or, Bool.or_false, Bool.true_and, Bool.and_true, false_or, or_false, true_and, and_true, Decidable.not_not] at hi
    rw [take_all (by omega)] at h2
    have hk := lzIdx_le (settleL 1 z)
    refine ⟨_, c_lazyIndex (OwnD.read hO hS) (Own.read hP hS), ?_⟩
    refine Trip.mono' (c_place hO hS (hf.mono hS.sub) (by omega) (by omega) hn (by omega)) ?_
    rintro _ w3 ⟨x8, I8, rfl, hO, hS⟩
    refine ⟨_, rfl, _, c_validLazy (z := alZ (settleL 1 z) (lzIdx (settleL 1 z)) n fs) (OwnD.read hO hS) (Own.read hP hS), fun hc => bad (fun hd => ?_) w3 (I8 ++ K7) (hS.perm (by simp)), fun hc => ?_⟩
    · rw [vlazyB_iff.2 hd.2.2] at hc; cases hc
    · simp only [decide_eq_true_eq, decide_eq_false_iff_not, Bool.and_eq_true, Bool.and_eq_false_iff, Bool.or_eq_true, Bool.or_eq_false_iff, Bool.not_eq_true', Bool.not_eq_false', Bool.not_true, Bool.not_false, Bool.false_eq_true, Bool.true_eq_false, Int.not_lt, Int.not_le, ge_iff_le, gt_iff_lt, Bool.not_eq_eq_eq_not, Bool.true_or, Bool.or_true, Bool.false_or, Bool.or_false, Bool.true_and, Bool.and_true, false_or, or_false, true_and, and_true, Decidable.not_not] at hc
      have hok : alOk z n fs := ⟨hd, h2, vlazyB_iff.1 hc⟩
      refine go_wr (by omega) (by omega) ?_
      refine ⟨I8 ++ K7, hS.perm (by simp), x8, y7, I8, K7, by unfold alN; rw [alB_t hok]; rfl, by unfold alR; rw [alB_t hok]; exact hO, by unfold alR; rw [alB_t hok]; exact hP, rfl⟩

theorem c_implLazyAllocD (hx : Read v x z.cells) (hy : Read v y z.pend) (hf : Read v xf fs) (hn : InI n) (hl : z.cells.length ≤ 1000000000) :
    Mk Try.prog 48 #[.agg #[x.val, y.val], .int .i64 n, xf.val] v fun r J => ∃ x' y' : Sl, ∃ J1 J2, r = .tuple #[.agg #[x'.val, y'.val], .int .i64 (alN z n fs)] ∧ OwnD x' (alR z n fs).cells J1 ∧ Own v y' (alR z n fs).pend J2 ∧ J = J1 ++ J2 := by
  refine of48 _ _ _ _ _ _ ?_
  unfold vc48
  have hfn := hf.n
  have hfl := hf.le
  have bad : ¬ alOk z n fs → ∀ w I, St v w (I ++ []) → ∃ J, St v w J ∧ ∃ x' y' : Sl, ∃ J1 J2, Value.tuple #[.agg #[.slice none 0 0, .slice none 0 0], .int .i64 0] = .tuple #[.agg #[x'.val, y'.val], .int .i64 (alN z n fs)] ∧ OwnD x' (alR z n fs).cells J1 ∧ Own v y' (alR z n fs).pend J2 ∧ J = J1 ++ J2 :=
    fun hb w I hS => ⟨[], hS.to, ⟨none, 0, 0⟩, ⟨none, 0, 0⟩, [], [], by unfold alN; rw [alB_f hb]; rfl, by unfold alR; rw [alB_f hb]; exact OwnD.nil, by unfold alR; rw [alB_f hb]; exact Own.nil v, rfl⟩
  refine ⟨_, c_validLazyI hx hy, fun hc => bad (fun hd => ?_) v [] (.refl v), fun hc => ?_⟩
  · rw [vlazyB_iff.2 hd.1] at hc; cases hc
  simp only [decide_eq_true_eq, decide_eq_false_iff_not, Bool.and_eq_true, Bool.and_eq_false_iff, Bool.or_eq_true, Bool.or_eq_false_iff, Bool.not_eq_true', Bool.not_eq_false', Bool.not_true, Bool.not_false, Bool.false_eq_true, Bool.true_eq_false, Int.not_lt, Int.not_le, ge_iff_le, gt_iff_lt, Bool.not_eq_eq_eq_not, Bool.true_or, Bool.or_true, Bool.false_or, Bool.or_false, Bool.true_and, Bool.and_true, false_or, or_false, true_and, and_true, Decidable.not_not] at hc
  have hd := vlazyB_iff.1 hc
  refine Mk.use (c_cloneLazyD hx hy) (.refl v) ?_
  rintro _ w1 _ ⟨c, p, I2, J2, rfl, hO, hP, rfl⟩ hS hsub
  replace hS : St v w1 (I2 ++ (J2 ++ [])) := hS.perm (by simp)
  refine ⟨_, _, rfl, ?_⟩
  refine St.box (vals := [.slice none 0 0, .slice none 0 0]) hS fun a w3 I3 hC hS hs => ?_
  refine Cel.store hC hS (by simp) ?_
  intro w4 I4 hC hS
  simp [putR] at hC
  refine Trip.mono' (c_implSettleD (m := 1) hC hO hP hS (vlazy_iff.1 hd).1 (by omega) (by omega) hl) ?_
  rintro _ w5 ⟨x7, y7, I, J, K, rfl, hC, hO, hP, hS⟩
  rw [show (1 : Int).toNat = 1 from rfl] at hO hP
  have hl7 := (settleL_len 1 (.inr hd)).1
  have hon := hO.n
  refine ⟨rfl, ?_⟩
  refine ⟨fun i w => St v w (I ++ (J ++ (K ++ []))) ∧ 0 ≤ i ∧ i ≤ fs.length ∧ ∀ f ∈ fs.take i.toNat, word (settleL 1 z).cells f = true, fun i _ => (fs.length - i).toNat, ⟨hS, by omega, by omega, by simp⟩, ?_⟩
  clear hS
  rintro i w ⟨hS, h0, h1, h2⟩
  dsimp only
  refine ⟨fun hi => ?_, fun hi => ?_⟩
  · simp only [decide_eq_true_eq, decide_eq_false_iff_not, Bool.and_eq_true, Bool.and_eq_false_iff, Bool.or_eq_true, Bool.or_eq_false_iff, Bool.not_eq_true', Bool.not_eq_false', Bool.not_true, Bool.not_false, Bool.false_eq_true, Bool.true_eq_false, Int.not_lt, Int.not_le, ge_iff_le, gt_iff_lt, Bool.not_eq_eq_eq_not, Bool.true_or, Bool.or_true, Bool.false_or, Bool.or_false, Bool.true_and, Bool.and_true, false_or, or_false, true_and, and_true, Decidable.not_not] at hi
    have hm := nth_mem (l := fs) h0 (by omega)
    refine go_ix hf h0 (by omega) ?_
    refine ld_int (hf.mono hS.sub) h0 (by omega) ?_
    intro a0 a1
    refine ⟨x7, Cel.load hC hS rfl, _, c_wordValid (OwnD.read hO hS) ⟨a0, a1⟩, fun hc => bad (fun hd => ?_) w (I ++ (J ++ K)) (hS.perm (by simp)), fun hc => ?_⟩
    · rw [hd.2.1 _ hm] at hc; cases hc
    · simp only [decide_eq_true_eq, decide_eq_false_iff_not, Bool.and_eq_true, Bool.and_eq_false_iff, Bool.or_eq_true, Bool.or_eq_false_iff, Bool.not_eq_true', Bool.not_eq_false', Bool.not_true, Bool.not_false, Bool.false_eq_true, Bool.true_eq_false, Int.not_lt, Int.not_le, ge_iff_le, gt_iff_lt, Bool.not_eq_eq_eq_not, Bool.true_or, Bool.or_true, Bool.false_or, Bool.or_false, Bool.true_and, Bool.and_true, false_or, or_false, true_and, and_true, Decidable.not_not] at hc
      refine go_wr (by omega) (by omega) ?_
      refine ⟨rfl, rfl, rfl, rfl, ⟨hS, by omega, by omega, ?_⟩, by omega⟩
      rw [take_nth h0 (by omega)]; intro f hf2
      rcases List.mem_append.1 hf2 with hf2 | hf2
      · exact h2 f hf2
      · rw [List.mem_singleton.1 hf2]; exact hc
  simp only [decide_eq_true_eq, decide_eq_false_iff_not, Bool.and_eq_true, Bool.and_eq_false_iff, Bool.or_eq_true, Bool.or_eq_false_iff, Bool.not_eq_true', Bool.not_eq_false', Bool.not_true, Bool.not_false, Bool.false_eq_true, Bool.true_eq_false, Int.not_lt, Int.not_le, ge_iff_le, gt_iff_lt, Bool.not_eq_eq_eq_not, Bool.true_or, Bool.or_true, Bool.false_or, Bool.or_false, Bool.true_and, Bool.and_true, false_or, or_false, true_and, and_true, Decidable.not_not] at hi
  rw [take_all (by omega)] at h2
  refine Mk.use (c_cloneInts hf) hS ?_
  rintro _ w6 M ⟨tf, rfl, hM⟩ hS hsub
  refine ⟨_, rfl, ?_⟩
  generalize hzz : settleL 1 z = zz at *
  refine ⟨fun i w => St v w (M ++ (I ++ (J ++ (K ++ [])))) ∧ 0 ≤ i ∧ i ≤ zz.cells.length ∧ ∀ j : Nat, (j : Int) < i → ¬ lzP zz j, fun i _ => (zz.cells.length - i).toNat, ⟨hS, by omega, by omega, fun j hj => by omega⟩, ?_⟩
  clear hS
  rintro i w ⟨hS, i0, i1, h3⟩
  dsimp only
  have rng : decide (i < (x7.n : Int)) = true → 0 ≤ i ∧ i < zz.cells.length := fun hc => by simp only [decide_eq_true_eq, decide_eq_false_iff_not, Bool.and_eq_true, Bool.and_eq_false_iff, Bool.or_eq_true, Bool.or_eq_false_iff, Bool.not_eq_true', Bool.not_eq_false', Bool.not_true, Bool.not_false, Bool.false_eq_true, Bool.true_eq_false, Int.not_lt, Int.not_le, ge_iff_le, gt_iff_lt, Bool.not_eq_eq_eq_not, Bool.true_or, Bool.or_true, Bool.false_or, Bool.or_false, Bool.true_and, Bool.and_true, false_or, or_false, true_and, and_true, Decidable.not_not] at hc; omega
  refine ⟨x7, Cel.load hC hS rfl, x7, fun _ => Cel.load hC hS rfl, fun hc => hO.ix (rng hc).1 (rng hc).2, ?_⟩
  refine ld_countg (OwnD.src hO hS) rng ?_
  refine ⟨y7, fun _ _ => Cel.load hC hS rfl, _, fun _ _ => c_contains (Own.read hP hS), fun hc => ?_, fun hc => ?_⟩
  · simp only [decide_eq_true_eq, decide_eq_false_iff_not, Bool.and_eq_true, Bool.and_eq_false_iff, Bool.or_eq_true, Bool.or_eq_false_iff, Bool.not_eq_true', Bool.not_eq_false', Bool.not_true, Bool.not_false, Bool.false_eq_true, Bool.true_eq_false, Int.not_lt, Int.not_le, ge_iff_le, gt_iff_lt, Bool.not_eq_eq_eq_not, Bool.true_or, Bool.or_true, Bool.false_or, Bool.or_false, Bool.true_and, Bool.and_true, false_or, or_false, true_and, and_true, Decidable.not_not] at hc
    refine go_wr (by omega) (by omega) ?_
    refine ⟨rfl, rfl, rfl, rfl, rfl, rfl, rfl, ⟨hS, by omega, by omega, fun j hj hp => ?_⟩, by omega⟩
    by_cases e : (j : Int) = i
    · rcases hp with hp | ⟨hp1, hp2, hp3⟩
      · omega
      · rw [e] at hp2 hp3
        rcases hc.2 with hc | hc
        · exact hc hp2
        · exact hp3 hc
    · exact h3 j (by omega) hp
  have hidx : lzIdx zz = i.toNat := by
    refine lzIdx_eq ?_ (fun j hj => h3 j (by omega))
    simp only [decide_eq_true_eq, decide_eq_false_iff_not, Bool.and_eq_true, Bool.and_eq_false_iff, Bool.or_eq_true, Bool.or_eq_false_iff, Bool.not_eq_true', Bool.not_eq_false', Bool.not_true, Bool.not_false, Bool.false_eq_true, Bool.true_eq_false, Int.not_lt, Int.not_le, ge_iff_le, gt_iff_lt, Bool.not_eq_eq_eq_not, Bool.true_or, Bool.or_true, Bool.false_or, Bool.or_false, Bool.true_and, Bool.and_true, false_or, or_false, true_and, and_true, Decidable.not_not] at hc
    by_cases e : i = zz.cells.length
    · exact .inl (by omega)
    · refine .inr ⟨by omega, ?_⟩
      rw [Int.toNat_of_nonneg i0]
      rcases hc with hc | hc
      · omega
      · exact hc
  have hk : (lzIdx zz : Int) = i := by omega
  have fin : ∀ (w : World) (x9 : Sl) (I9 J9 : Items), Cel a [x9.val, y7.val] I9 → OwnD x9 (placeL zz.cells i ⟨1, n, fs⟩) J9 → St v w (I9 ++ (J9 ++ (K ++ []))) →
      ∃ x47 y48 : Sl, (w.cell? (a.add 0) = some x47.val ∧ w.cell? (a.add 1) = some y48.val) ∧ ∃ q49 : Bool, (Trip Try.prog 43 #[.agg #[x47.val, y48.val]] w fun r w' => r = .bool q49 ∧ Sub w w') ∧
        ((!q49) = true → ∃ J, St v w J ∧ ∃ x' y' : Sl, ∃ J1 J2, Value.tuple #[.agg #[.slice none 0 0, .slice none 0 0], .int .i64 0] = .tuple #[.agg #[x'.val, y'.val], .int .i64 (alN z n fs)] ∧ OwnD x' (alR z n fs).cells J1 ∧ Own v y' (alR z n fs).pend J2 ∧ J = J1 ++ J2) ∧
        ((!q49) = false → ∃ x52 y53 : Sl, (w.cell? (a.add 0) = some x52.val ∧ w.cell? (a.add 1) = some y53.val) ∧ ∃ n54 : Int, Wr .i64 (1000 + i) n54 ∧ ∃ J, St v w J ∧ ∃ x' y' : Sl, ∃ J1 J2, Value.tuple #[.agg #[x52.val, y53.val], .int .i64 n54] = .tuple #[.agg #[x'.val, y'.val], .int .i64 (alN z n fs)] ∧ OwnD x' (alR z n fs).cells J1 ∧ Own v y' (alR z n fs).pend J2 ∧ J = J1 ++ J2) := by
    intro w x9 I9 J9 hC hO hS
    have hcell : (alZ zz (lzIdx zz) n fs).cells = placeL zz.cells i ⟨1, n, fs⟩ := by unfold alZ; rw [hk]
    refine ⟨x9, y7, ⟨Cel.load hC hS rfl, Cel.load hC hS rfl⟩, _, c_validLazyI (z := alZ zz (lzIdx zz) n fs) (by rw [hcell]; exact OwnD.read hO hS) (Own.read hP hS), fun hc => bad (fun hd => ?_) w (I9 ++ (J9 ++ K)) (hS.perm (by simp)), fun hc => ?_⟩
    · have := hd.2.2
      rw [hzz] at this
      rw [vlazyB_iff.2 this] at hc; cases hc
    · simp only [decide_eq_true_eq, decide_eq_false_iff_not, Bool.and_eq_true, Bool.and_eq_false_iff, Bool.or_eq_true, Bool.or_eq_false_iff, Bool.not_eq_true', Bool.not_eq_false', Bool.not_true, Bool.not_false, Bool.false_eq_true, Bool.true_eq_false, Int.not_lt, Int.not_le, ge_iff_le, gt_iff_lt, Bool.not_eq_eq_eq_not, Bool.true_or, Bool.or_true, Bool.false_or, Bool.or_false, Bool.true_and, Bool.and_true, false_or, or_false, true_and, and_true, Decidable.not_not] at hc
      have hok : alOk z n fs := ⟨hd, by rw [hzz]; exact h2, by rw [hzz]; exact vlazyB_iff.1 hc⟩
      refine ⟨x9, y7, ⟨Cel.load hC hS rfl, Cel.load hC hS rfl⟩, ?_⟩
      refine go_wr (by omega) (by omega) ?_
      refine ⟨J9 ++ K, (hS.to : St v w (J9 ++ (K ++ []))).perm (by simp), x9, y7, J9, K, ?_, ?_, ?_, rfl⟩
      · unfold alN; rw [alB_t hok, hzz, ← hk]; rfl
      · unfold alR; rw [alB_t hok, hzz]; exact hcell ▸ hO
      · unfold alR; rw [alB_t hok, hzz]; exact hP
  refine ⟨x7, Cel.load hC hS rfl, fun he => ?_, fun he => ?_⟩
  · simp only [decide_eq_true_eq, decide_eq_false_iff_not, Bool.and_eq_true, Bool.and_eq_false_iff, Bool.or_eq_true, Bool.or_eq_false_iff, Bool.not_eq_true', Bool.not_eq_false', Bool.not_true, Bool.not_false, Bool.false_eq_true, Bool.true_eq_false, Int.not_lt, Int.not_le, ge_iff_le, gt_iff_lt, Bool.not_eq_eq_eq_not, Bool.true_or, Bool.or_true, Bool.false_or, Bool.or_false, Bool.true_and, Bool.and_true, false_or, or_false, true_and, and_true, Decidable.not_not] at he
    refine ⟨x7, Cel.load hC hS rfl, ?_⟩
    refine St.buildR hS ?_ ?_ ?_ ?_
    · simp [Value.cells]
    · rfl
    · decide
    intro x8 w8 I8 hB hS hs _
    refine ⟨_, rfl, ?_⟩
    refine OwnD.push' (a := (⟨1, n, fs⟩ : CellD)) hO hS (hB.rd hS.items) ⟨tf, rfl, one_in, hn, hM.toAll⟩ (by omega) (by decide) ?_
    intro x9 w9 J9 hO9 hS
    refine ⟨_, rfl, ?_⟩
    refine Cel.store hC hS (by simp) ?_
    intro w10 I10 hC hS
    simp [putR] at hC
    exact fin w10 x9 I10 J9 hC (by rw [placeL, if_pos (by omega)]; exact hO9) hS.to
  · simp only [decide_eq_true_eq, decide_eq_false_iff_not, Bool.and_eq_true, Bool.and_eq_false_iff, Bool.or_eq_true, Bool.or_eq_false_iff, Bool.not_eq_true', Bool.not_eq_false', Bool.not_true, Bool.not_false, Bool.false_eq_true, Bool.true_eq_false, Int.not_lt, Int.not_le, ge_iff_le, gt_iff_lt, Bool.not_eq_eq_eq_not, Bool.true_or, Bool.or_true, Bool.false_or, Bool.or_false, Bool.true_and, Bool.and_true, false_or, or_false, true_and, and_true, Decidable.not_not] at he
    have hlt : i < zz.cells.length := by omega
    refine ⟨x7, Cel.load hC hS rfl, hO.ix i0 hlt, ?_⟩
    refine OwnD.store hO hS i0 hlt (⟨1, n, fs⟩ : CellD) M (Nat.le_refl 3) (fun r K hr => ⟨M, ?_, .inl rfl⟩) ?_
    · obtain ⟨f, rfl, _⟩ := hr
      exact ⟨tf, rfl, one_in, hn, hM.toAll⟩
    · intro w9 J9 hO9 hS
      exact fin w9 x7 I (J9 ++ M) hC (by rw [placeL, if_neg (by omega)]; exact hO9) (hS.perm (by
        classical
        exact List.perm_iff_count.2 fun a => by simp only [List.count_append]; omega))

theorem alR_bound (hl : z.cells.length ≤ 1048576) (hf : fs.length ≤ 1048576) : (alR z n fs).cells.length ≤ 2000000 ∧ ∀ c ∈ (alR z n fs).cells, c.fields.length ≤ 2000000 := by
  unfold alR
  by_cases hd : alOk z n fs
  · rw [alB_t hd]
    simp only [cond_true, alZ]
    have L := (vlazy_iff.1 hd.1).1
    have h1 := (settleL_len 1 (.inr hd.1)).1
    have L1 := (vlazy_iff.1 (settle_valid L 1)).1
    have h2 := length_placeL (settleL 1 z).cells (lzIdx (settleL 1 z)) ⟨1, n, fs⟩
    refine ⟨by omega, fun c hc => ?_⟩
    have hc2 : c ∈ (settleL 1 z).cells ∨ c = ⟨1, n, fs⟩ := by
      unfold placeL at hc
      split at hc
      · rcases List.mem_append.1 hc with hc | hc
        · exact .inl hc
        · exact .inr (List.mem_singleton.1 hc)
      · exact mem_set_of hc
    rcases hc2 with hc | rfl
    · have := (L1.cell c hc).2.2.1; omega
    · show fs.length ≤ 2000000; omega
  · rw [alB_f hd]
    exact ⟨Nat.zero_le _, fun c hc => by cases hc⟩
end

theorem l_ExactLazyAlloc {v : World} {x y xf : Sl} {z : LazyD} {n : Int} {fs : List Int} (hx : ReadB BM v x z.cells) (hy : ReadB BM v y z.pend) (hn : InI n) (hf : ReadB BM v xf fs) :
    Trip Try.prog 13 #[.agg #[x.val, y.val], .int .i64 n, xf.val] v fun r v' => r = .bool true ∧ Sub v v' := by
  refine of13 _ _ _ _ _ _ ?_
  unfold vc13
  have hfn := hf.n
  refine ⟨fun hc => ⟨rfl, .refl v⟩, fun hc0 => ?_⟩
  simp only [decide_eq_true_eq, decide_eq_false_iff_not, Bool.and_eq_true, Bool.and_eq_false_iff, Bool.or_eq_true, Bool.or_eq_false_iff, Bool.not_eq_true', Bool.not_eq_false', Bool.not_true, Bool.not_false, Bool.false_eq_true, Bool.true_eq_false, Int.not_lt, Int.not_le, ge_iff_le, gt_iff_lt, Bool.not_eq_eq_eq_not, Bool.true_or, Bool.or_true, Bool.false_or, Bool.or_false, Bool.true_and, Bool.and_true, false_or, or_false, true_and, and_true, Decidable.not_not] at hc0
  have hfl : fs.length ≤ 1048576 := by omega
  refine ⟨_, c_szLazy (b := 1048576) hx hy (by omega) (by omega), fun hc => ⟨rfl, .refl v⟩, fun hc => ?_⟩
  simp only [decide_eq_true_eq, decide_eq_false_iff_not, Bool.and_eq_true, Bool.and_eq_false_iff, Bool.or_eq_true, Bool.or_eq_false_iff, Bool.not_eq_true', Bool.not_eq_false', Bool.not_true, Bool.not_false, Bool.false_eq_true, Bool.true_eq_false, Int.not_lt, Int.not_le, ge_iff_le, gt_iff_lt, Bool.not_eq_eq_eq_not, Bool.true_or, Bool.or_true, Bool.false_or, Bool.or_false, Bool.true_and, Bool.and_true, false_or, or_false, true_and, and_true, Decidable.not_not] at hc
  have hbnd : z.cells.length ≤ 1048576 ∧ (∀ c ∈ z.cells, c.fields.length ≤ 1048576) ∧ z.pend.length ≤ 1048576 := by
    unfold szL at hc
    split at hc
    · omega
    · rename_i h2
      obtain ⟨s1, s2, s3⟩ := szH_le (h := z.cells) (b := 1048576) (by omega)
      obtain ⟨s4, s5⟩ := szI_le hc
      exact ⟨by omega, fun c hc => by have := s3 c hc; omega, by omega⟩
  obtain ⟨b1, b2, b3⟩ := hbnd
  replace hx : Read v x z.cells := hx.toCells (by show z.cells.length ≤ 1099511627776; omega) (fun c hc => by have := b2 c hc; show c.fields.length ≤ 1099511627776; omega)
  replace hy : Read v y z.pend := hy.toInts (by show z.pend.length ≤ 1099511627776; omega)
  replace hf : Read v xf fs := hf.toInts (by show fs.length ≤ 1099511627776; omega)
  have hlen : z.cells.length ≤ 1000000000 := by omega
  have hl2 : z.cells.length ≤ 2000000 := by omega
  have hb2 : ∀ c ∈ z.cells, c.fields.length ≤ 2000000 := fun c hc => by have := b2 c hc; omega
  obtain ⟨hlR, hbR⟩ := alR_bound (n := n) (fs := fs) b1 hfl
  have hposR := endZ_pos hbR
  have hpos := endZ_pos hb2
  have hend : endZ 1 z ≤ 100000000000000 := by
    have := (endH_le z.cells 1 hb2).2
    unfold endZ; omega
  refine Mk.use (c_toLazy hx hy) (.refl v) ?_
  rintro _ w1 _ ⟨t1, s1, J1, J2, rfl, hO, hP, rfl⟩ hS hsub
  refine ⟨_, _, rfl, ?_⟩
  refine Mk.use (c_toIntS hf) hS ?_
  rintro _ w1' M1 ⟨q1, rfl, hM⟩ hS hsub
  replace hS : St v w1' ((M1 ++ (J1 ++ J2)) ++ []) := hS.perm (by simp)
  obtain ⟨u1, hu1, hS, hJ⟩ := hS.freeze (M1 ++ (J1 ++ J2))
  have hx1 : Read u1 t1 z.cells := hO.read1 hJ.right.left
  have hy1 : Read u1 s1 z.pend := Own.read1 (u := v) hP hJ.right.right
  have hf1 : Read u1 q1 fs := Own.read1 (u := v) hM hJ.left
  clear hO hP hJ hM
  refine ⟨_, rfl, ?_⟩
  refine Mk.use (c_specLazyAlloc hx1 hy1 hf1 hn hlen) hS ?_
  rintro _ w2 _ ⟨x10, y10, J3, J4, rfl, hO, hP, rfl⟩ hS hsub
  obtain ⟨u2, hu2, hS, hJ⟩ := hS.freeze (J3 ++ J4)
  have hx10 : Read u2 x10 _ := hO.read1 hJ.left
  have hy10 : Read u2 y10 _ := Own.read1 (u := u1) hP hJ.right
  clear hO hP hJ
  have hv2 : Sub v u2 := hu1.trans hu2
  replace hx := hx.mono hv2
  replace hy := hy.mono hv2
  replace hf := hf.mono hv2
  refine ⟨_, _, _, rfl, ?_⟩
  refine Mk.use (c_toLazy hx hy) hS ?_
  rintro _ w3 _ ⟨x15, x16, J5, J6, rfl, hO5, hP6, rfl⟩ hS hsub
  refine ⟨_, _, rfl, ?_⟩
  refine Mk.use (c_toIntS hf) hS ?_
  rintro _ w3' M2 ⟨q2, rfl, hM2⟩ hS hsub
  replace hS : St u2 w3' (J5 ++ (J6 ++ (M2 ++ []))) := hS.perm (by
    classical
    exact List.perm_iff_count.2 fun a => by simp only [List.count_append]; omega)
  refine ⟨_, rfl, ?_⟩
  refine Mk.usew (c_implLazyAllocD (z := z) (fs := fs) (OwnD.read hO5 hS) (Own.read hP6 hS) (Own.read hM2 hS) hn hlen) hS ?_
  rintro _ w4 _ ⟨x19, x20, J7, J8, rfl, hO7, hP8, rfl⟩ hS hsub
  replace hP8 : Own u2 x20 _ J8 := hP8.ofInts
  replace hS : St u2 w4 (J7 ++ (J8 ++ (J5 ++ (J6 ++ (M2 ++ []))))) := hS.perm (by simp)
  refine ⟨_, _, _, rfl, _, c_eqLazy (z := alR z n fs) (z' := alR z n fs) (OwnD.read hO7 hS) (Own.read hP8 hS) (hx10.mono hS.sub) (hy10.mono hS.sub), fun hc => ?_, fun _ => ?_⟩
  · rw [eqZB_iff.2 rfl] at hc; simp at hc
  refine Mk.use (c_toLazy hx hy) hS ?_
  rintro _ w5 _ ⟨x27, x28, J9, J10, rfl, hO9, hP10, rfl⟩ hS hsub
  replace hS : St u2 w5 (J9 ++ (J10 ++ (J5 ++ (J6 ++ (M2 ++ (J7 ++ (J8 ++ []))))))) := hS.perm (by
    classical
    exact List.perm_iff_count.2 fun a => by simp only [List.count_append]; omega)
  refine ⟨_, _, rfl, hsub, _, c_eqLazy (z := z) (z' := z) (OwnD.read hO5 hS) (Own.read hP6 hS) (OwnD.read hO9 hS) (Own.read hP10 hS), fun hc => ?_, fun _ => ?_⟩
  · rw [eqZB_iff.2 rfl] at hc; simp at hc
  refine Mk.use (c_toIntS hf) hS ?_
  rintro _ w5' M3 ⟨q3, rfl, hM3⟩ hS hsub
  refine ⟨_, rfl, _, c_eqIntS (l := fs) (ws := fs) (Own.read hM2 hS) (Own.read hM3 hS), fun hc => ?_, fun _ => ?_⟩
  · simp at hc
  replace hS : St u2 w5' (J5 ++ (J6 ++ (M2 ++ (J7 ++ (J8 ++ []))))) := hS.to
  refine Trip.mono' (c_markLazy hO5 hP6 hS hl2 hb2) ?_
  rintro _ w6 ⟨I5, I6, rfl, hO5, hP6, hS⟩
  replace hS : St u2 w6 (M2 ++ (J7 ++ (J8 ++ []))) := hS.to
  refine ⟨_, rfl, ?_⟩
  refine Trip.mono' (c_markIntS hM2 hS (by omega) (by omega)) ?_
  rintro _ w6' ⟨M4, rfl, hM4, hS⟩
  refine ⟨_, rfl, _, fun _ => c_eqLazy (z := alR z n fs) (z' := alR z n fs) (OwnD.read hO7 hS) (Own.read hP8 hS) (hx10.mono hS.sub) (hy10.mono hS.sub), fun hc => ?_, fun _ => ?_⟩
  · rw [eqZB_iff.2 rfl] at hc
    simp at hc
    omega
  replace hS : St u2 w6' (J7 ++ (J8 ++ [])) := hS.to
  refine Trip.mono' (c_markLazy hO7 hP8 hS hlR hbR) ?_
  rintro _ w7 ⟨I7, I8, rfl, hO7, hP8, hS⟩
  refine ⟨_, rfl, _, c_heldLazy (z := alR z n fs) (OwnD.read hO7 hS) (Own.read hP8 hS) hlR hbR, fun hc => ?_, fun _ => ⟨fun hc => ?_, fun _ => ?_⟩⟩
  · simp only [decide_eq_true_eq, decide_eq_false_iff_not, Bool.and_eq_true, Bool.and_eq_false_iff, Bool.or_eq_true, Bool.or_eq_false_iff, Bool.not_eq_true', Bool.not_eq_false', Bool.not_true, Bool.not_false, Bool.false_eq_true, Bool.true_eq_false, Int.not_lt, Int.not_le, ge_iff_le, gt_iff_lt, Bool.not_eq_eq_eq_not, Bool.true_or, Bool.or_true, Bool.false_or, Bool.or_false, Bool.true_and, Bool.and_true, false_or, or_false, true_and, and_true, Decidable.not_not] at hc; omega
  · simp at hc
  refine Mk.use (c_toLazy hx hy) hS ?_
  rintro _ w8 _ ⟨x46, x47, J11, J12, rfl, hO11, hP12, rfl⟩ hS hsub
  refine ⟨_, _, rfl, ?_⟩
  refine Mk.use (c_toIntS hf) hS ?_
  rintro _ w8' M5 ⟨q5, rfl, hM5⟩ hS hsub
  replace hS : St u2 w8' (M5 ++ (J11 ++ (J12 ++ (I7 ++ (I8 ++ []))))) := hS.perm (by simp)
  refine ⟨_, rfl, ?_⟩
  refine Mk.usew (c_implLazyAllocD (z := z) (fs := fs) (OwnD.read hO11 hS) (Own.read hP12 hS) (Own.read hM5 hS) hn hlen) hS ?_
  rintro _ w9 _ ⟨x50, x51, J13, J14, rfl, hO13, hP14, rfl⟩ hS hsub
  replace hP14 : Own u2 x51 _ J14 := hP14.ofInts
  replace hS : St u2 w9 (J13 ++ (J14 ++ (M5 ++ (J11 ++ (J12 ++ (I7 ++ (I8 ++ []))))))) := hS.perm (by simp)
  refine ⟨_, _, _, rfl, _, c_eqLazy (z := alR z n fs) (z' := alR z n fs) (OwnD.read hO13 hS) (Own.read hP14 hS) (hx10.mono hS.sub) (hy10.mono hS.sub), fun hc => ?_, fun _ => ?_⟩
  · rw [eqZB_iff.2 rfl] at hc; simp at hc
  refine ⟨_, c_heldLazy (z := alR z n fs) (OwnD.read hO7 hS) (Own.read hP8 hS) hlR hbR, fun hc => ?_, fun _ => ⟨fun hc => ?_, fun _ => ⟨rfl, hv2.trans hS.sub⟩⟩⟩
  · simp only [decide_eq_true_eq, decide_eq_false_iff_not, Bool.and_eq_true, Bool.and_eq_false_iff, Bool.or_eq_true, Bool.or_eq_false_iff, Bool.not_eq_true', Bool.not_eq_false', Bool.not_true, Bool.not_false, Bool.false_eq_true, Bool.true_eq_false, Int.not_lt, Int.not_le, ge_iff_le, gt_iff_lt, Bool.not_eq_eq_eq_not, Bool.true_or, Bool.or_true, Bool.false_or, Bool.or_false, Bool.true_and, Bool.and_true, false_or, or_false, true_and, and_true, Decidable.not_not] at hc; omega
  · simp at hc
end Go.Vc
