/- Part of the proofs about the heaps: a law is joined in the text whose name ends in W and the law. -/
import Derived.Test.YtmmkfmmcmjpcgaaBReach
import Derived.Test.YtmmkfmmcmjpcgaaBC10
namespace Go.Vc
open Go Go.Proofs Go.RowKit
set_option linter.all false
section
variable {u v w : World} {x y xf : Sl} {l ws fs : List Int} {h : List CellD} {m n k : Int} {a : Addr} {I J L R : Items} {F : Items → Items}

theorem c_reachOf (hx : Read v x h) (hy : Read v y ws) (hf3 : ∀ c ∈ h, c.fields.length ≤ 3) (hl : h.length ≤ 1000000000) (hwl : ws.length ≤ 1000000000) :
    Mk Try.prog 61 #[x.val, y.val] v fun r J => ∃ z, r = z.val ∧ Own v z (reachL h ws) J := by
  refine of61 _ _ _ _ ?_
  unfold vc61
  have hn := hx.n
  refine St.makeBools (.refl v) (by omega) (by omega) (by decide) ?_
  intro y1 w1 I1 hO hS hs
  refine ⟨_, rfl, ?_⟩
  refine Mk.use (c_copyInts hy) hS ?_
  rintro _ w2 J2 ⟨z2, rfl, hZ⟩ hS hsub
  refine ⟨_, rfl, ?_⟩
  have hw3 := fun s => wtS_le hf3 s
  let Inv : Nat → Sl → World → Prop := fun n z w => ∃ (s : List Bool) (t : List Int), ∃ I J, Own v y1 s I ∧ Own v z t J ∧ St v w (J ++ (I ++ [])) ∧ Dfs h ws s t ∧ t.length + wtS h s = n ∧ n ≤ 5000000000
  refine ⟨fun z w => ∃ n, Inv n z w, fun z w => leastM (fun n => Inv n z w), ⟨_, _, _, I1, J2, hO, hZ, hS, by rw [hn]; exact Dfs.start, rfl, by have := hw3 (List.replicate (x.n : Int).toNat false); omega⟩, ?_⟩
  clear hZ hS hO
  rintro z w hI
  replace hI := leastM_spec hI
  dsimp only
  generalize leastM (fun n => Inv n z w) = n at *
  obtain ⟨s, t, I, J, hO, hZ, hS, D, hM, hM2⟩ := hI
  have hzn := hZ.n
  have hzl := hZ.le
  have hon := hO.n
  have hll := D.ll
  refine ⟨fun hi => ?_, fun hi => ?_⟩
  · simp only [decide_eq_true_eq, decide_eq_false_iff_not, Bool.and_eq_true, Bool.and_eq_false_iff, Bool.or_eq_true, Bool.or_eq_false_iff, Bool.not_eq_true', Bool.not_eq_false', Bool.not_true, Bool.not_false, Bool.false_eq_true, Bool.true_eq_false, Int.not_lt, Int.not_le, ge_iff_le, gt_iff_lt, Bool.not_eq_eq_eq_not, Bool.true_or, Bool.or_true, Bool.false_or, Bool.or_false, Bool.true_and, Bool.and_true, false_or, or_false, true_and, and_true, Decidable.not_not] at hi
    refine go_wr (by omega) (by omega) ?_
    refine go_oix hZ (by omega) (by omega) ?_
    refine ld_int (Own.read hZ hS) (by omega) (by omega) ?_
    intro b0 b1
    obtain ⟨ws0, at_, rfl⟩ : ∃ ws0 at_, t = ws0 ++ [at_] := by
      have hne : t ≠ [] := fun e => by rw [e] at hzn; simp at hzn; omega
      exact ⟨_, _, (List.dropLast_concat_getLast hne).symm⟩
    have hnth : nth (ws0 ++ [at_]) ((z.n : Int) - 1) = at_ := by
      refine nth_of ?_
      rw [hzn]; simp
    rw [hnth] at b0 b1 ⊢
    have hcut := hZ.cut (lo := 0) (hi := (z.n : Int) - 1) (by omega) (by omega) (by omega)
    have hct : ((ws0 ++ [at_]).take ((z.n : Int) - 1).toNat).drop (0 : Int).toNat = ws0 := by
      rw [hzn]; simp
    rw [hct] at hcut
    have hl0 : (ws0 ++ [at_]).length = ws0.length + 1 := by simp
    refine go_wr (by omega) (by omega) ?_
    refine ⟨⟨by omega, by omega, ?_⟩, _, c_isLive (hx.mono hS.sub) ⟨b0, b1⟩, ?_⟩
    · obtain ⟨_, hr, _⟩ := Own.read hZ hS; have := hr.2.1; omega
    refine ⟨at_ - 1000, fun hlv => wrap_i64 (by have := live_spec hlv; omega) (by omega), fun hlv => hO.ix (by have := live_spec hlv; omega) (by have := live_spec hlv; omega), ?_⟩
    refine ld_boolg (Own.read hO hS) (fun hlv => by have := live_spec hlv; omega) ?_
    refine ⟨fun hc => ?_, fun hc => ?_⟩
    · simp only [Bool.and_eq_true, Bool.not_eq_true'] at hc
      obtain ⟨p1, p2, p3⟩ := live_spec hc.1
      refine go_wr (by omega) (by omega) ?_
      refine go_oix hO (by omega) (by omega) ?_
      refine st_bool hO hS (by omega) (by omega) ?_
      intro w3 I3 hO3 hS
      refine go_wr (by omega) (by omega) ?_
      refine go_ix hx (by omega) (by omega) ?_
      refine ld_fields (hx.src hS.sub) (by omega) (by omega) ?_
      intro f hf
      have hc3 := hf3 _ (nth_mem (l := h) (i := at_ - 1000) (by omega) (by omega))
      have hwt := wtS_take (h := h) (s := s) (k := at_ - 1000) (by omega) (by omega) hll hc.2
      refine Own.append hcut hS (hf.src hS.sub) (by omega) (by decide) ?_
      intro x5 w5 I5 hO5 hS
      refine ⟨_, rfl, loopEnd (k := (ws0 ++ (nth h (at_ - 1000)).fields).length + wtS h (s.set (at_ - 1000).toNat true)) ⟨_, _, I3, I5, hO3, hO5, hS, D.take hc.1, rfl, by rw [List.length_append]; omega⟩ (by rw [List.length_append]; omega)⟩
    · refine loopEnd (k := ws0.length + wtS h s) ⟨s, ws0, I, J, hO, hcut, hS, D.skip ?_, rfl, by omega⟩ (by omega)
      cases hlv : live h at_ with
      | false => exact .inl rfl
      | true => rw [hlv] at hc; exact .inr (by simpa using hc)
  · simp only [decide_eq_true_eq, decide_eq_false_iff_not, Bool.and_eq_true, Bool.and_eq_false_iff, Bool.or_eq_true, Bool.or_eq_false_iff, Bool.not_eq_true', Bool.not_eq_false', Bool.not_true, Bool.not_false, Bool.false_eq_true, Bool.true_eq_false, Int.not_lt, Int.not_le, ge_iff_le, gt_iff_lt, Bool.not_eq_eq_eq_not, Bool.true_or, Bool.or_true, Bool.false_or, Bool.or_false, Bool.true_and, Bool.and_true, false_or, or_false, true_and, and_true, Decidable.not_not] at hi
    have hnil : t = [] := List.eq_nil_of_length_eq_zero (by omega)
    subst hnil
    have he := D.end_
    refine St.build (α := Int) hS (by (repeat' (first | exact VsOf.nil | apply VsOf.cons | (apply VOf.int; first | assumption | (constructor <;> first | omega | (simp only [List.length_set, List.length_append, List.length_replicate, List.length_cons, List.length_nil, List.length_take, List.length_drop, List.length_map, List.length_singleton] at *; omega))) | exact VOf.bool | exact VOf.str))) rfl (by decide) ?_
    intro x3 w3 I3 hO3 hS hs
    refine ⟨_, rfl, ?_⟩
    refine ⟨fun z i w => ∃ I3, Own v z (idxL (s.take i.toNat)) I3 ∧ St v w (I3 ++ (J ++ (I ++ []))) ∧ 0 ≤ i ∧ i ≤ h.length, fun _ i _ => (h.length - i).toNat, ⟨I3, hO3, hS, by omega, by omega⟩, ?_⟩
    rintro z i w ⟨I3, hO3, hS, h0, h1⟩
    dsimp only
    have hil := idxL_len (s.take i.toNat)
    rw [List.length_take] at hil
    refine ⟨fun hi => ?_, fun hi => ?_⟩
    · simp only [decide_eq_true_eq, decide_eq_false_iff_not, Bool.and_eq_true, Bool.and_eq_false_iff, Bool.or_eq_true, Bool.or_eq_false_iff, Bool.not_eq_true', Bool.not_eq_false', Bool.not_true, Bool.not_false, Bool.false_eq_true, Bool.true_eq_false, Int.not_lt, Int.not_le, ge_iff_le, gt_iff_lt, Bool.not_eq_eq_eq_not, Bool.true_or, Bool.or_true, Bool.false_or, Bool.or_false, Bool.true_and, Bool.and_true, false_or, or_false, true_and, and_true, Decidable.not_not] at hi
      refine go_oix hO h0 (by omega) ?_
      refine ld_bool (Own.read hO hS) h0 (by omega) ?_
      have hsn := idxL_snoc (s := s) h0 (by omega)
      refine ⟨fun hq => ?_, fun hq => ?_⟩
      · refine St.build (α := Int) hS (by (repeat' (first | exact VsOf.nil | apply VsOf.cons | (apply VOf.int; first | assumption | (constructor <;> first | omega | (simp only [List.length_set, List.length_append, List.length_replicate, List.length_cons, List.length_nil, List.length_take, List.length_drop, List.length_map, List.length_singleton] at *; omega))) | exact VOf.bool | exact VOf.str))) rfl (by decide) ?_
        intro x4 w4 I4 hO4 hS hs
        refine ⟨_, rfl, ?_⟩
        refine Own.append hO3 hS (hO4.src hS) (by simp; omega) (by decide) ?_
        intro x5 w5 I5 hO5 hS
        refine ⟨_, rfl, ?_⟩
        refine go_wr (by omega) (by omega) ?_
        refine ⟨⟨I5, ?_, hS.to, by omega, by omega⟩, by omega⟩
        rw [hsn, hq]; exact hO5
      · refine go_wr (by omega) (by omega) ?_
        refine ⟨⟨I3, ?_, hS, by omega, by omega⟩, by omega⟩
        rw [hsn, hq]; simpa using hO3
    · simp only [decide_eq_true_eq, decide_eq_false_iff_not, Bool.and_eq_true, Bool.and_eq_false_iff, Bool.or_eq_true, Bool.or_eq_false_iff, Bool.not_eq_true', Bool.not_eq_false', Bool.not_true, Bool.not_false, Bool.false_eq_true, Bool.true_eq_false, Int.not_lt, Int.not_le, ge_iff_le, gt_iff_lt, Bool.not_eq_eq_eq_not, Bool.true_or, Bool.or_true, Bool.false_or, Bool.or_false, Bool.true_and, Bool.and_true, false_or, or_false, true_and, and_true, Decidable.not_not] at hi
      rw [take_all (by omega), he] at hO3
      exact ⟨I3, hS.left, z, rfl, hO3⟩

theorem c_specReachOf (hx : Read v x h) (hy : Read v y ws) (hl : h.length ≤ 1000000000) (hwl : ws.length ≤ 1000000000) :
    Mk Try.prog 22 #[x.val, y.val] v fun r J => ∃ z, r = z.val ∧ Own v z (if vheapB h then reachL h ws else []) J := by
  refine of22 _ _ _ _ ?_
  unfold vc22
  refine ⟨_, c_validHeap hx, fun hv => ?_, fun hv => ?_⟩
  · simp only [decide_eq_true_eq, decide_eq_false_iff_not, Bool.and_eq_true, Bool.and_eq_false_iff, Bool.or_eq_true, Bool.or_eq_false_iff, Bool.not_eq_true', Bool.not_eq_false', Bool.not_true, Bool.not_false, Bool.false_eq_true, Bool.true_eq_false, Int.not_lt, Int.not_le, ge_iff_le, gt_iff_lt, Bool.not_eq_eq_eq_not, Bool.true_or, Bool.or_true, Bool.false_or, Bool.or_false, Bool.true_and, Bool.and_true, false_or, or_false, true_and, and_true, Decidable.not_not] at hv
    rw [if_neg (by rw [hv]; exact Bool.false_ne_true)]
    exact ⟨[], .refl v, ⟨none, 0, 0⟩, rfl, Own.nil v⟩
  · simp only [decide_eq_true_eq, decide_eq_false_iff_not, Bool.and_eq_true, Bool.and_eq_false_iff, Bool.or_eq_true, Bool.or_eq_false_iff, Bool.not_eq_true', Bool.not_eq_false', Bool.not_true, Bool.not_false, Bool.false_eq_true, Bool.true_eq_false, Int.not_lt, Int.not_le, ge_iff_le, gt_iff_lt, Bool.not_eq_eq_eq_not, Bool.true_or, Bool.or_true, Bool.false_or, Bool.or_false, Bool.true_and, Bool.and_true, false_or, or_false, true_and, and_true, Decidable.not_not] at hv
    rw [if_pos hv]
    refine Mk.use (c_reachOf hx hy (vheap_len (vheapB_iff.1 hv)) hl hwl) (.refl v) ?_
    rintro _ w2 J2 ⟨z2, rfl, hZ⟩ hS hsub
    exact ⟨_, rfl, J2, by simpa using hS, z2, rfl, hZ⟩

theorem c_indicesOf {s : List Bool} (hx : Read v x s) : Mk Try.prog 60 #[x.val] v fun r J => ∃ z, r = z.val ∧ Own v z (idxL s) J := by
  refine of60 _ _ _ ?_
  unfold vc60
  have hn := hx.n
  have hl := hx.le
  refine ⟨fun z i w => ∃ I3, Own v z (idxL (s.take i.toNat)) I3 ∧ St v w (I3 ++ []) ∧ 0 ≤ i ∧ i ≤ s.length, fun _ i _ => (s.length - i).toNat, ⟨[], Own.nil v, .refl v, by omega, by omega⟩, ?_⟩
  rintro z i w ⟨I3, hO3, hS, h0, h1⟩
  dsimp only
  have hil := idxL_len (s.take i.toNat)
  rw [List.length_take] at hil
  refine ⟨fun hi => ?_, fun hi => ?_⟩
  · simp only [decide_eq_true_eq, decide_eq_false_iff_not, Bool.and_eq_true, Bool.and_eq_false_iff, Bool.or_eq_true, Bool.or_eq_false_iff, Bool.not_eq_true', Bool.not_eq_false', Bool.not_true, Bool.not_false, Bool.false_eq_true, Bool.true_eq_false, Int.not_lt, Int.not_le, ge_iff_le, gt_iff_lt, Bool.not_eq_eq_eq_not, Bool.true_or, Bool.or_true, Bool.false_or, Bool.or_false, Bool.true_and, Bool.and_true, false_or, or_false, true_and, and_true, Decidable.not_not] at hi
    refine go_ix hx h0 (by omega) ?_
    refine ld_bool (hx.mono hS.sub) h0 (by omega) ?_
    have hsn := idxL_snoc (s := s) h0 (by omega)
    refine ⟨fun hq => ?_, fun hq => ?_⟩
    · refine St.build (α := Int) hS (by (repeat' (first | exact VsOf.nil | apply VsOf.cons | (apply VOf.int; first | assumption | (constructor <;> first | omega | (simp only [List.length_set, List.length_append, List.length_replicate, List.length_cons, List.length_nil, List.length_take, List.length_drop, List.length_map, List.length_singleton] at *; omega))) | exact VOf.bool | exact VOf.str))) rfl (by decide) ?_
      intro x4 w4 I4 hO4 hS hs
      refine ⟨_, rfl, ?_⟩
      refine Own.append hO3 hS (hO4.src hS) (by simp; omega) (by decide) ?_
      intro x5 w5 I5 hO5 hS
      refine ⟨_, rfl, ?_⟩
      refine go_wr (by omega) (by omega) ?_
      refine ⟨⟨I5, ?_, hS.to, by omega, by omega⟩, by omega⟩
      rw [hsn, hq]; exact hO5
    · refine go_wr (by omega) (by omega) ?_
      refine ⟨⟨I3, ?_, hS, by omega, by omega⟩, by omega⟩
      rw [hsn, hq]; simpa using hO3
  · simp only [decide_eq_true_eq, decide_eq_false_iff_not, Bool.and_eq_true, Bool.and_eq_false_iff, Bool.or_eq_true, Bool.or_eq_false_iff, Bool.not_eq_true', Bool.not_eq_false', Bool.not_true, Bool.not_false, Bool.false_eq_true, Bool.true_eq_false, Int.not_lt, Int.not_le, ge_iff_le, gt_iff_lt, Bool.not_eq_eq_eq_not, Bool.true_or, Bool.or_true, Bool.false_or, Bool.or_false, Bool.true_and, Bool.and_true, false_or, or_false, true_and, and_true, Decidable.not_not] at hi
    rw [take_all (by omega)] at hO3
    exact ⟨I3, hS.left, z, rfl, hO3⟩

theorem c_implReachOf (hx : Read v x h) (hy : Read v y ws) (hl : h.length ≤ 1000000000) (hwl : ws.length ≤ 1000000000) :
    Mk Try.prog 20 #[x.val, y.val] v fun r J => ∃ z, r = z.val ∧ Own v z (if vheapB h then reachL h ws else []) J := by
  refine of20 _ _ _ _ ?_
  unfold vc20
  have hn := hx.n
  refine ⟨_, c_implValidHeap hx, fun hv => ?_, fun hv => ?_⟩
  · simp only [decide_eq_true_eq, decide_eq_false_iff_not, Bool.and_eq_true, Bool.and_eq_false_iff, Bool.or_eq_true, Bool.or_eq_false_iff, Bool.not_eq_true', Bool.not_eq_false', Bool.not_true, Bool.not_false, Bool.false_eq_true, Bool.true_eq_false, Int.not_lt, Int.not_le, ge_iff_le, gt_iff_lt, Bool.not_eq_eq_eq_not, Bool.true_or, Bool.or_true, Bool.false_or, Bool.or_false, Bool.true_and, Bool.and_true, false_or, or_false, true_and, and_true, Decidable.not_not] at hv
    rw [if_neg (by rw [hv]; exact Bool.false_ne_true)]
    exact ⟨[], .refl v, ⟨none, 0, 0⟩, rfl, Own.nil v⟩
  simp only [decide_eq_true_eq, decide_eq_false_iff_not, Bool.and_eq_true, Bool.and_eq_false_iff, Bool.or_eq_true, Bool.or_eq_false_iff, Bool.not_eq_true', Bool.not_eq_false', Bool.not_true, Bool.not_false, Bool.false_eq_true, Bool.true_eq_false, Int.not_lt, Int.not_le, ge_iff_le, gt_iff_lt, Bool.not_eq_eq_eq_not, Bool.true_or, Bool.or_true, Bool.false_or, Bool.or_false, Bool.true_and, Bool.and_true, false_or, or_false, true_and, and_true, Decidable.not_not] at hv
  rw [if_pos hv]
  have hf3 := vheap_len (vheapB_iff.1 hv)
  refine St.makeBools (.refl v) (by omega) (by omega) (by decide) ?_
  intro y1 w1 I1 hO hS hs
  refine ⟨_, rfl, ?_⟩
  refine Mk.use (c_cloneInts hy) hS ?_
  rintro _ w2 J2 ⟨z2, rfl, hZ⟩ hS hsub
  refine ⟨_, rfl, ?_⟩
  have hw3 := fun s => wtS_le hf3 s
  let Inv : Nat → Sl → World → Prop := fun n z w => ∃ (s : List Bool) (t : List Int), ∃ I J, Own v y1 s I ∧ Own v z t J ∧ St v w (J ++ (I ++ [])) ∧ Dfs h ws s t ∧ t.length + wtS h s = n ∧ n ≤ 5000000000
  refine ⟨fun z w => ∃ n, Inv n z w, fun z w => leastM (fun n => Inv n z w), ⟨_, _, _, I1, J2, hO, hZ, hS, by rw [hn]; exact Dfs.start, rfl, by have := hw3 (List.replicate (x.n : Int).toNat false); omega⟩, ?_⟩
  clear hZ hS hO
  rintro z w hI
  replace hI := leastM_spec hI
  dsimp only
  generalize leastM (fun n => Inv n z w) = n at *
  obtain ⟨s, t, I, J, hO, hZ, hS, D, hM, hM2⟩ := hI
  have hzn := hZ.n
  have hzl := hZ.le
  have hon := hO.n
  have hll := D.ll
  refine ⟨fun hi => ?_, fun hi => ?_⟩
  · simp only [decide_eq_true_eq, decide_eq_false_iff_not, Bool.and_eq_true, Bool.and_eq_false_iff, Bool.or_eq_true, Bool.or_eq_false_iff, Bool.not_eq_true', Bool.not_eq_false', Bool.not_true, Bool.not_false, Bool.false_eq_true, Bool.true_eq_false, Int.not_lt, Int.not_le, ge_iff_le, gt_iff_lt, Bool.not_eq_eq_eq_not, Bool.true_or, Bool.or_true, Bool.false_or, Bool.or_false, Bool.true_and, Bool.and_true, false_or, or_false, true_and, and_true, Decidable.not_not] at hi
    refine go_wr (by omega) (by omega) ?_
    refine go_oix hZ (by omega) (by omega) ?_
    refine ld_int (Own.read hZ hS) (by omega) (by omega) ?_
    intro b0 b1
    obtain ⟨ws0, at_, rfl⟩ : ∃ ws0 at_, t = ws0 ++ [at_] := by
      have hne : t ≠ [] := fun e => by rw [e] at hzn; simp at hzn; omega
      exact ⟨_, _, (List.dropLast_concat_getLast hne).symm⟩
    have hnth : nth (ws0 ++ [at_]) ((z.n : Int) - 1) = at_ := by
      refine nth_of ?_
      rw [hzn]; simp
    rw [hnth] at b0 b1 ⊢
    have hcut := hZ.cut (lo := 0) (hi := (z.n : Int) - 1) (by omega) (by omega) (by omega)
    have hct : ((ws0 ++ [at_]).take ((z.n : Int) - 1).toNat).drop (0 : Int).toNat = ws0 := by
      rw [hzn]; simp
    rw [hct] at hcut
    have hl0 : (ws0 ++ [at_]).length = ws0.length + 1 := by simp
    refine ⟨_, _, c_liveAt (hx.mono hS.sub) ⟨b0, b1⟩, ?_⟩
    refine go_wr (by omega) (by omega) ?_
    refine ⟨⟨by omega, by omega, ?_⟩, ?_⟩
    · obtain ⟨_, hr, _⟩ := Own.read hZ hS; have := hr.2.1; omega
    have hat : live h at_ = true → atI at_ = at_ - 1000 := fun hlv => live_at hlv b1
    refine ⟨fun hlv => hO.ix (by rw [hat hlv]; have := live_spec hlv; omega) (by rw [hat hlv]; have := live_spec hlv; omega), ?_⟩
    refine ld_boolg (Own.read hO hS) (fun hlv => by rw [hat hlv]; have := live_spec hlv; omega) ?_
    refine ⟨fun hc => ?_, fun hc => ?_⟩
    · simp only [Bool.and_eq_true, Bool.not_eq_true'] at hc
      obtain ⟨p1, p2, p3⟩ := live_spec hc.1
      rw [hat hc.1] at hc ⊢
      refine go_oix hO (by omega) (by omega) ?_
      refine st_bool hO hS (by omega) (by omega) ?_
      intro w3 I3 hO3 hS
      refine go_ix hx (by omega) (by omega) ?_
      refine ld_fields (hx.src hS.sub) (by omega) (by omega) ?_
      intro f hf
      have hc3 := hf3 _ (nth_mem (l := h) (i := at_ - 1000) (by omega) (by omega))
      have hwt := wtS_take (h := h) (s := s) (k := at_ - 1000) (by omega) (by omega) hll hc.2
      refine Own.append hcut hS (hf.src hS.sub) (by omega) (by decide) ?_
      intro x5 w5 I5 hO5 hS
      refine ⟨_, rfl, loopEnd (k := (ws0 ++ (nth h (at_ - 1000)).fields).length + wtS h (s.set (at_ - 1000).toNat true)) ⟨_, _, I3, I5, hO3, hO5, hS, D.take hc.1, rfl, by rw [List.length_append]; omega⟩ (by rw [List.length_append]; omega)⟩
    · refine loopEnd (k := ws0.length + wtS h s) ⟨s, ws0, I, J, hO, hcut, hS, D.skip ?_, rfl, by omega⟩ (by omega)
      cases hlv : live h at_ with
      | false => exact .inl rfl
      | true => rw [hlv, hat hlv] at hc; exact .inr (by simpa using hc)
  · simp only [decide_eq_true_eq, decide_eq_false_iff_not, Bool.and_eq_true, Bool.and_eq_false_iff, Bool.or_eq_true, Bool.or_eq_false_iff, Bool.not_eq_true', Bool.not_eq_false', Bool.not_true, Bool.not_false, Bool.false_eq_true, Bool.true_eq_false, Int.not_lt, Int.not_le, ge_iff_le, gt_iff_lt, Bool.not_eq_eq_eq_not, Bool.true_or, Bool.or_true, Bool.false_or, Bool.or_false, Bool.true_and, Bool.and_true, false_or, or_false, true_and, and_true, Decidable.not_not] at hi
    have hnil : t = [] := List.eq_nil_of_length_eq_zero (by omega)
    subst hnil
    have he := D.end_
    refine Mk.usew (c_indicesOf (Own.read hO hS)) hS ?_
    rintro _ w2 J2 ⟨z2, rfl, hZ2⟩ hS hsub
    rw [he] at hZ2
    exact ⟨_, rfl, J2, hS.left, z2, rfl, hZ2.ofInts⟩

theorem c_DrawReachOf {code : List UInt8} (hx : Read v x code) : Mk Try.prog 19 #[x.val] v fun r J => ∃ y z, ∃ (h : List CellD) (ws : List Int), ∃ J1 J2, r = .tuple #[y.val, z.val] ∧ OwnD y h J1 ∧ GA h ∧ Own v z ws J2 ∧ ws.length ≤ 3 ∧ J = J1 ++ J2 := by
  refine of19 _ _ _ ?_
  unfold vc19
  refine Mk.use (c_newReader hx) (.refl v) ?_
  rintro _ w1 J1 ⟨a, rfl, hR⟩ hS hsub
  refine ⟨_, rfl, ?_⟩
  refine Trip.mono' (c_anyHeap hR hS (by omega)) ?_
  rintro _ w2 ⟨y, h, J, I, rfl, hO, hR, hS, hG⟩
  have hGl := hG.1
  have hon := hO.n
  refine ⟨_, rfl, ?_⟩
  refine St.build (α := Int) hS (by (repeat' (first | exact VsOf.nil | apply VsOf.cons | (apply VOf.int; first | assumption | (constructor <;> first | omega | (simp only [List.length_set, List.length_append, List.length_replicate, List.length_cons, List.length_nil, List.length_take, List.length_drop, List.length_map, List.length_singleton] at *; omega))) | exact VOf.bool | exact VOf.str))) rfl (by decide) ?_
  intro z3 w3 K3 hZ hS hs
  refine ⟨_, rfl, ?_⟩
  refine Trip.mono' (c_pick (n := 4) hR hS (by omega) (by omega) (by omega)) ?_
  rintro _ w4 ⟨k0, I4, rfl, hR, hS, a0, a1, a2⟩
  refine ⟨_, rfl, ?_⟩
  refine ⟨fun z k w => ∃ (fs : List Int), ∃ K I, Own v z fs K ∧ Rdr v a (1000 - 10 * k) I ∧ St v w (K ++ (J ++ (I ++ []))) ∧ 0 ≤ k ∧ k ≤ 3 ∧ fs.length ≤ 3 - k, fun _ k _ => k.toNat, ⟨[], K3, I4, hZ, hR.le (by omega), hS.to, by omega, by omega, by simp; omega⟩, ?_⟩
  clear hZ hS hR
  rintro z k w ⟨fs, K, I, hZ, hR, hS, k0, k1, hfl⟩
  dsimp only
  refine ⟨fun hk => ?_, fun hk => ?_⟩
  · simp only [decide_eq_true_eq, decide_eq_false_iff_not, Bool.and_eq_true, Bool.and_eq_false_iff, Bool.or_eq_true, Bool.or_eq_false_iff, Bool.not_eq_true', Bool.not_eq_false', Bool.not_true, Bool.not_false, Bool.false_eq_true, Bool.true_eq_false, Int.not_lt, Int.not_le, ge_iff_le, gt_iff_lt, Bool.not_eq_eq_eq_not, Bool.true_or, Bool.or_true, Bool.false_or, Bool.or_false, Bool.true_and, Bool.and_true, false_or, or_false, true_and, and_true, Decidable.not_not] at hk
    refine Trip.mono' (c_wordFor (n := y.n) hR hS (by omega) (by omega) (by omega)) ?_
    rintro _ w5 ⟨k5, I5, rfl, hk5, hR, hS⟩
    refine ⟨_, rfl, ?_⟩
    refine St.build (α := Int) hS (by (repeat' (first | exact VsOf.nil | apply VsOf.cons | (apply VOf.int; first | assumption | (constructor <;> first | omega | (simp only [List.length_set, List.length_append, List.length_replicate, List.length_cons, List.length_nil, List.length_take, List.length_drop, List.length_map, List.length_singleton] at *; omega))) | exact VOf.bool | exact VOf.str))) rfl (by decide) ?_
    intro x4 w4 I4 hO4 hS hs
    refine ⟨_, rfl, ?_⟩
    refine Own.append hZ hS (hO4.src hS) (by simp; omega) (by decide) ?_
    intro x5 w5 I6 hO5 hS
    refine ⟨_, rfl, ?_⟩
    refine go_wr (by omega) (by omega) ?_
    exact ⟨⟨_, I6, I5, hO5, hR.le (by omega), hS.to, by omega, by omega, by simp; omega⟩, by omega⟩
  · exact ⟨J ++ K, (hS.to : St v w (J ++ (K ++ []))).perm (by simp), y, z, h, fs, J, K, rfl, hO, hG, hZ, by omega, rfl⟩
end

theorem l_ReachOfEach : LawTrue Try.prog 4 := by
  intro v x0 bs hb
  refine of4 _ _ _ ?_
  unfold vc4
  refine ⟨fun hc => ⟨rfl, .refl v⟩, fun hc => ?_⟩
  simp only [decide_eq_true_eq, decide_eq_false_iff_not, Bool.and_eq_true, Bool.and_eq_false_iff, Bool.or_eq_true, Bool.or_eq_false_iff, Bool.not_eq_true', Bool.not_eq_false', Bool.not_true, Bool.not_false, Bool.false_eq_true, Bool.true_eq_false, Int.not_lt, Int.not_le, ge_iff_le, gt_iff_lt, Bool.not_eq_eq_eq_not, Bool.true_or, Bool.or_true, Bool.false_or, Bool.or_false, Bool.true_and, Bool.and_true, false_or, or_false, true_and, and_true, Decidable.not_not] at hc
  have hcode := hb.read (by omega)
  refine Mk.use (c_DrawReachOf hcode) (.refl v) ?_
  rintro _ w1 J1 ⟨x, y, h, ws, J2, J3, rfl, hO, hG, hY, hwl, rfl⟩ hS hsub
  refine ⟨_, _, rfl, ?_⟩
  obtain ⟨u, hvu, hS, hJ⟩ := hS.freeze (J2 ++ J3)
  have hx : Read u x h := hO.read1 hJ.left
  have hy : Read u y ws := Own.read1 (u := v) hY hJ.right
  clear hO hY hJ
  have hn := hx.n
  have hyn := hy.n
  have hGl := hG.1
  refine Mk.use (c_implReachOf hx hy (by omega) (by omega)) hS ?_
  rintro _ w2 J2 ⟨z2, rfl, hZ2⟩ hS hsub
  refine ⟨_, rfl, ?_⟩
  refine Mk.use (c_specReachOf hx hy (by omega) (by omega)) hS ?_
  rintro _ w3 J3 ⟨z3, rfl, hZ3⟩ hS hsub
  refine ⟨_, rfl, ?_⟩
  refine ⟨_, c_equalInts (Own.read hZ2 hS) (Own.read hZ3 hS), _, fun _ => c_implValidHeap (hx.mono hS.sub), fun hc => ?_, fun hc => ?_⟩
  · refine Mk.use (c_specReachOf hx hy (by omega) (by omega)) hS ?_
    rintro _ w4 J4 ⟨z4, rfl, hZ4⟩ hS hsub
    refine ⟨_, rfl, ?_⟩
    exact ⟨_, c_equalInts (Own.read hZ2 hS) (Own.read hZ4 hS), by simp, hvu.trans hS.sub⟩
  · simp at hc
    rw [if_pos hc] at hZ2
    refine St.build (α := Int) hS (by (repeat' (first | exact VsOf.nil | apply VsOf.cons | (apply VOf.int; first | assumption | (constructor <;> first | omega | (simp only [List.length_set, List.length_append, List.length_replicate, List.length_cons, List.length_nil, List.length_take, List.length_drop, List.length_map, List.length_singleton] at *; omega))) | exact VOf.bool | exact VOf.str))) rfl (by decide) ?_
    intro x4 w4 I4 hO4 hS hs
    refine ⟨_, rfl, ?_⟩
    refine ⟨fun z i w => ∃ (all : List Int), ∃ K L, Own u z all K ∧ St u w (J2 ++ (K ++ L)) ∧ 0 ≤ i ∧ i ≤ ws.length ∧ all.length ≤ 100 * i ∧ ∀ n, n ∈ all ↔ ∃ f ∈ ws.take i.toNat, n ∈ reachL h [f],
      fun _ i _ => (ws.length - i).toNat, ⟨[], I4, J3 ++ [], hO4, hS.to, by omega, by omega, by simp, by simp⟩, ?_⟩
    clear hO4 hS
    rintro z i w ⟨all, K, L, hO, hS, h0, h1, hal, hall⟩
    dsimp only
    refine ⟨fun hi => ?_, fun hi => ?_⟩
    · simp only [decide_eq_true_eq, decide_eq_false_iff_not, Bool.and_eq_true, Bool.and_eq_false_iff, Bool.or_eq_true, Bool.or_eq_false_iff, Bool.not_eq_true', Bool.not_eq_false', Bool.not_true, Bool.not_false, Bool.false_eq_true, Bool.true_eq_false, Int.not_lt, Int.not_le, ge_iff_le, gt_iff_lt, Bool.not_eq_eq_eq_not, Bool.true_or, Bool.or_true, Bool.false_or, Bool.or_false, Bool.true_and, Bool.and_true, false_or, or_false, true_and, and_true, Decidable.not_not] at hi
      refine go_wr (by omega) (by omega) ?_
      refine ⟨⟨by omega, by omega, by obtain ⟨_, hr, _⟩ := hy; have := hr.2.1; omega⟩, ?_⟩
      have hcut := hy.cut (lo := i) (hi := i + 1) (by omega) (by omega) (by omega)
      have hct : (ws.take (i + 1).toNat).drop i.toNat = [nth ws i] := by
        rw [take_nth h0 (by omega), List.drop_append_of_le_length (by simp; omega), List.drop_eq_nil_of_le (by simp; omega)]; rfl
      rw [hct] at hcut
      refine Mk.use (c_implReachOf hx hcut (by omega) (by simp)) hS ?_
      rintro _ w4 J4 ⟨z4, rfl, hZ4⟩ hS hsub
      rw [if_pos hc] at hZ4
      have hrl : (reachL h [nth ws i]).length ≤ h.length := by
        have := idxL_len (reachB h [nth ws i]); rw [reachB_len] at this; exact this
      refine ⟨_, rfl, ?_⟩
      refine Mk.usew (c_join (Own.read hO hS) (Own.read hZ4 hS) (by omega)) hS ?_
      rintro _ w5 J5 ⟨z5, rfl, hZ5⟩ hS hsub
      refine ⟨_, rfl, ?_⟩
      refine go_wr (by omega) (by omega) ?_
      refine ⟨⟨_, J5, [], hZ5.ofInts, hS.to, by omega, by omega, by simp; omega, fun n => ?_⟩, by omega⟩
      rw [take_nth h0 (by omega)]
      simp only [List.mem_append, hall]
      constructor
      · rintro (⟨f, hf, hr⟩ | hr)
        · exact ⟨f, .inl hf, hr⟩
        · exact ⟨_, .inr (by simp), hr⟩
      · rintro ⟨f, hf | hf, hr⟩
        · exact .inl ⟨f, hf, hr⟩
        · rw [List.mem_singleton.1 hf] at hr; exact .inr hr
    · simp only [decide_eq_true_eq, decide_eq_false_iff_not, Bool.and_eq_true, Bool.and_eq_false_iff, Bool.or_eq_true, Bool.or_eq_false_iff, Bool.not_eq_true', Bool.not_eq_false', Bool.not_true, Bool.not_false, Bool.false_eq_true, Bool.true_eq_false, Int.not_lt, Int.not_le, ge_iff_le, gt_iff_lt, Bool.not_eq_eq_eq_not, Bool.true_or, Bool.or_true, Bool.false_or, Bool.or_false, Bool.true_and, Bool.and_true, false_or, or_false, true_and, and_true, Decidable.not_not] at hi
      rw [take_all (by omega)] at hall
      have key : ∀ n, n ∈ reachL h ws ↔ n ∈ all := fun n => by
        rw [hall, reachL_mem, Reach.union]
        simp only [reachL_mem]
      refine ⟨_, c_within (Own.read hZ2 hS) (Own.read hO hS), _, fun _ => c_within (Own.read hO hS) (Own.read hZ2 hS), ?_, hvu.trans hS.sub⟩
      congr 1
      simp only [Bool.and_eq_true, decide_eq_true_eq]
      exact ⟨fun n hn => (key n).1 hn, fun n hn => (key n).2 hn⟩
end Go.Vc
