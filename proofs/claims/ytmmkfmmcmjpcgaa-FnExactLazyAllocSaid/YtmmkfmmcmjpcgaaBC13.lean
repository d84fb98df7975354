/- Part of the proofs about the heaps: a law is joined in the text whose name ends in W and the law. -/
import Derived.Test.YtmmkfmmcmjpcgaaBC12
namespace Go.Vc
open Go Go.Proofs Go.RowKit
set_option linter.all false
section
variable {u v w : World} {x y xf : Sl} {l ws fs pend : List Int} {h : List CellD} {z : LazyD} {m n k f : Int} {a : Addr} {I J L R R1 : Items} {F F1 : Items → Items}

theorem c_trimLazy (hx : Read v x h) (hy : Read v y pend) : Fn Try.prog 103 #[.agg #[x.val, y.val]] v (x.cut 0 (trimN h pend h.length) 3).val := by
  refine of103 _ _ _ _ ?_
  unfold vc103
  have hn := hx.n
  have hl := hx.le
  refine ⟨fun i w' => St v w' [] ∧ 0 ≤ i ∧ i ≤ h.length ∧ ∀ j : Int, i ≤ j → j < h.length → (nth h j).count = 0 ∧ j ∉ pend, fun i _ => i.toNat, ⟨.refl v, by omega, by omega, fun j h1 h2 => by omega⟩, ?_⟩
  rintro i w' ⟨hS, h0, h1, h2⟩
  dsimp only
  refine ⟨i - 1, fun hc => wrap_i64 (by omega) (by omega), fun hc => hx.ix (by simp only [decide_eq_true_eq, decide_eq_false_iff_not, Bool.and_eq_true, Bool.and_eq_false_iff, Bool.or_eq_true, Bool.or_eq_false_iff, Bool.not_eq_true', Bool.not_eq_false', Bool.not_true, Bool.not_false, Bool.false_eq_true, Bool.true_eq_false, Int.not_lt, Int.not_le, ge_iff_le, gt_iff_lt, Bool.not_eq_eq_eq_not, Bool.true_or, Bool.or_true, Bool.false_or, Bool.or_false, Bool.true_and, Bool.and_true, false_or, or_false, true_and, and_true, Decidable.not_not] at hc; omega) (by omega), ?_⟩
  refine ld_countg (hx.src hS.sub) (fun hc => ⟨by simp only [decide_eq_true_eq, decide_eq_false_iff_not, Bool.and_eq_true, Bool.and_eq_false_iff, Bool.or_eq_true, Bool.or_eq_false_iff, Bool.not_eq_true', Bool.not_eq_false', Bool.not_true, Bool.not_false, Bool.false_eq_true, Bool.true_eq_false, Int.not_lt, Int.not_le, ge_iff_le, gt_iff_lt, Bool.not_eq_eq_eq_not, Bool.true_or, Bool.or_true, Bool.false_or, Bool.or_false, Bool.true_and, Bool.and_true, false_or, or_false, true_and, and_true, Decidable.not_not] at hc; omega, by omega⟩) ?_
  refine ⟨i - 1, fun hc => wrap_i64 (by omega) (by omega), _, fun _ => c_specIsIn (hy.mono hS.sub), ?_⟩
  refine ⟨fun hc => ?_, fun hc => ?_⟩
  · simp only [decide_eq_true_eq, decide_eq_false_iff_not, Bool.and_eq_true, Bool.and_eq_false_iff, Bool.or_eq_true, Bool.or_eq_false_iff, Bool.not_eq_true', Bool.not_eq_false', Bool.not_true, Bool.not_false, Bool.false_eq_true, Bool.true_eq_false, Int.not_lt, Int.not_le, ge_iff_le, gt_iff_lt, Bool.not_eq_eq_eq_not, Bool.true_or, Bool.or_true, Bool.false_or, Bool.or_false, Bool.true_and, Bool.and_true, false_or, or_false, true_and, and_true, Decidable.not_not] at hc
    refine go_wr (by omega) (by omega) ?_
    refine ⟨rfl, rfl, ⟨hS, by omega, by omega, fun j j0 j1 => ?_⟩, by omega⟩
    by_cases e : j = i - 1
    · rw [e]; exact ⟨hc.1.2, hc.2⟩
    · exact h2 j (by omega) j1
  · simp only [decide_eq_true_eq, decide_eq_false_iff_not, Bool.and_eq_true, Bool.and_eq_false_iff, Bool.or_eq_true, Bool.or_eq_false_iff, Bool.not_eq_true', Bool.not_eq_false', Bool.not_true, Bool.not_false, Bool.false_eq_true, Bool.true_eq_false, Int.not_lt, Int.not_le, ge_iff_le, gt_iff_lt, Bool.not_eq_eq_eq_not, Bool.true_or, Bool.or_true, Bool.false_or, Bool.or_false, Bool.true_and, Bool.and_true, false_or, or_false, true_and, and_true, Decidable.not_not] at hc
    have e : trimN h pend h.length = i.toNat := trimN_eq (by omega) (fun k k0 k1 => h2 k (by omega) k1) (fun hp => by
      rw [Int.toNat_of_nonneg h0]
      rcases hc with (hc | hc) | hc
      · omega
      · exact .inl hc
      · exact .inr hc)
    refine ⟨⟨by omega, by omega, ?_⟩, ?_, hS.sub⟩
    · obtain ⟨_, hr, _⟩ := hx; have := hr.2.1; omega
    · rw [e, Int.toNat_of_nonneg h0]

theorem dropF_len (z : LazyD) (fs : List Int) : (dropF z fs).cells.length = z.cells.length := by
  induction fs generalizing z with
  | nil => rfl
  | cons f r ih => rw [dropF_cons, ih]; split <;> simp [lowerZ]
theorem pend_len {z : LazyD} {todo : List Int} (L : LZ z.cells z.pend todo) : z.pend.length ≤ z.cells.length := by
  have := List.Nodup.length_le_of_subset (l₁ := z.pend) (l₂ := (List.range z.cells.length).map (fun (k : Nat) => (k : Int))) L.pn (fun p hp => by
    have := L.pr p hp
    exact List.mem_map.2 ⟨p.toNat, by simp; omega, by omega⟩)
  simpa using this

theorem c_specSettle (hO : OwnD x z.cells I) (hP : Own u y z.pend J) (hS : St u w L) [p : Pos I L R1 F1] [q : Pos J R1 R F] (hL : LZ z.cells z.pend []) (hm0 : 0 ≤ m) (hm1 : m ≤ 9000000000000000000) (hl : z.cells.length ≤ 1000000000) :
    Trip Try.prog 78 #[.agg #[x.val, y.val], .int .i64 m] w fun r w' => ∃ x' y' I' J', r = .agg #[x'.val, y'.val] ∧ OwnD x' (settleL m.toNat z).cells I' ∧ Own u y' (settleL m.toNat z).pend J' ∧ St u w' (I' ++ (J' ++ R)) := by
  replace hS : St u w (I ++ (J ++ R)) := (hS.perm p.perm.symm).perm (List.Perm.append_left I q.perm.symm)
  refine of78 _ _ _ _ _ ?_
  unfold vc78
  refine ⟨fun i x y w => ∃ I J, OwnD x (settleN i.toNat z).cells I ∧ Own u y (settleN i.toNat z).pend J ∧ St u w (I ++ (J ++ R)) ∧ 0 ≤ i ∧ i ≤ m, fun i _ _ _ => (m - i).toNat, ⟨I, J, hO, hP, hS, by omega, hm0⟩, ?_⟩
  clear hO hP hS
  rintro i x y w ⟨I, J, hO, hP, hS, h0, h1⟩
  obtain ⟨L1, hlen, _⟩ := LZ.settleN i.toNat hL
  have hsucc : settleN (i + 1).toNat z = settle1 (settleN i.toNat z) := by rw [show (i + 1).toNat = i.toNat + 1 from by omega]; exact settleN_succ' _ _
  have hend : ¬ (i < m ∧ (settleN i.toNat z).pend ≠ []) → settleN m.toNat z = settleN i.toNat z := by
    intro hc
    rcases Int.lt_or_le i m with hlt | hge
    · have he : (settleN i.toNat z).pend = [] := Classical.byContradiction fun hn => hc ⟨hlt, hn⟩
      rw [show m.toNat = i.toNat + (m.toNat - i.toNat) from by omega, settleN_add, settleN_nil he]
    · rw [show m = i from by omega]
  dsimp only
  generalize hzz : settleN i.toNat z = zz at *
  obtain ⟨cells, pend⟩ := zz
  simp only at hO hP L1 hlen
  have hyn := hP.n
  have hxn := hO.n
  refine ⟨fun hc => ?_, fun hc => ?_⟩
  · simp only [decide_eq_true_eq, decide_eq_false_iff_not, Bool.and_eq_true, Bool.and_eq_false_iff, Bool.or_eq_true, Bool.or_eq_false_iff, Bool.not_eq_true', Bool.not_eq_false', Bool.not_true, Bool.not_false, Bool.false_eq_true, Bool.true_eq_false, Int.not_lt, Int.not_le, ge_iff_le, gt_iff_lt, Bool.not_eq_eq_eq_not, Bool.true_or, Bool.or_true, Bool.false_or, Bool.or_false, Bool.true_and, Bool.and_true, false_or, or_false, true_and, and_true, Decidable.not_not] at hc
    obtain ⟨at_, r, rfl⟩ : ∃ at_ r, pend = at_ :: r := by
      cases pend with
      | nil => simp at hyn; omega
      | cons a r => exact ⟨a, r, rfl⟩
    obtain ⟨p0, p1, p2⟩ := L1.pr at_ List.mem_cons_self
    refine go_oix hP (Int.le_refl 0) (by simp) ?_
    refine ld_int (Own.read hP hS) (Int.le_refl 0) (by simp) ?_
    have hn0 : nth (at_ :: r) 0 = at_ := rfl
    rw [hn0]
    intro a0 a1
    have hix := hO.ix p0 p1
    refine ⟨hix, ?_⟩
    obtain ⟨row, K, Rest, ⟨f, rfl, _, _, hF⟩, hperm, hcell, hstore⟩ := hO.apart p0 p1
    have hS2 : St u w (K ++ (Rest ++ (J ++ R))) := hS.perm (by rw [← List.append_assoc]; exact hperm.symm.append_right _)
    clear hS hO
    have hld := hcell w (hS2.items (I := Rest)) 2 _ rfl
    refine ⟨f, hld, ⟨by omega, by simp at hyn; omega⟩, ?_⟩
    have hcut := (Own.read hP hS2).cut (lo := 1) (hi := y.n) (by omega) (by simp at hyn; omega) (by omega)
    have hct : ((at_ :: r).take (y.n : Int).toNat).drop (1 : Int).toNat = r := by rw [hyn]; simp
    rw [hct] at hcut
    refine Mk.usew (c_copyInts hcut) hS2 ?_
    rintro _ w2 J2 ⟨y2, rfl, hP2⟩ hS2 hsub
    replace hP2 : Own u y2 r J2 := hP2.ofInts
    refine ⟨_, rfl, ?_⟩
    refine St.build (α := Int) hS2 (by (repeat' (first | exact VsOf.nil | apply VsOf.cons | (apply VOf.int; first | assumption | (constructor <;> first | omega | (simp only [List.length_set, List.length_append, List.length_replicate, List.length_cons, List.length_nil, List.length_take, List.length_drop, List.length_map, List.length_singleton] at *; omega))) | exact VOf.bool | exact VOf.str))) rfl (by decide) ?_
    intro x4 w4 I4 hO4 hS2 hs
    refine ⟨_, rfl, hix, ?_⟩
    refine hstore (off := 0) (a := free0) (J := I4) hS2 (Nat.le_refl 3) ⟨x4, rfl, zero_in, zero_in, hO4.toAll⟩ ?_
    intro w5 Rest' hO5 hS2
    have hpop := LZ.pop (h := cells) (p := at_) (r := r) L1
    have hfl := (L1.cell _ (nth_mem (l := cells) p0 p1)).2.2.1
    have hfn : f.n = (nth cells at_).fields.length := (hF u).n
    have hs1 : settle1 (⟨cells, at_ :: r⟩ : LazyD) = dropF ⟨cells.set at_.toNat free0, r⟩ (nth cells at_).fields := rfl
    generalize hz1 : (⟨cells.set at_.toNat free0, r⟩ : LazyD) = z1 at *
    have hz1c : z1.cells = cells.set at_.toNat free0 := by rw [← hz1]
    have hz1p : z1.pend = r := by rw [← hz1]
    rw [← hz1c] at hO5 hpop
    rw [← hz1p] at hP2 hpop
    refine ⟨fun j x y w => ∃ I J, OwnD x (dropF z1 ((nth cells at_).fields.take j.toNat)).cells I ∧ Own u y (dropF z1 ((nth cells at_).fields.take j.toNat)).pend J ∧ St u w (I ++ (J ++ (K ++ R))) ∧ 0 ≤ j ∧ j ≤ (nth cells at_).fields.length ∧
        LZ (dropF z1 ((nth cells at_).fields.take j.toNat)).cells (dropF z1 ((nth cells at_).fields.take j.toNat)).pend ((nth cells at_).fields.drop j.toNat),
      fun j _ _ _ => ((nth cells at_).fields.length - j).toNat, ⟨Rest' ++ I4, J2, hO5, hP2, by rw [List.append_assoc]; exact hS2.to, by omega, by omega, hpop⟩, ?_⟩
    clear hO5 hP2 hS2 hP hO4
    rintro j x y w ⟨I, J, hO, hP, hS, j0, j1, L2⟩
    dsimp only
    have hdl := dropF_len z1 ((nth cells at_).fields.take j.toNat)
    have hz1l : z1.cells.length = cells.length := by rw [hz1c]; simp
    have hpl := pend_len L2
    refine ⟨fun hj => ?_, fun hj => ?_⟩
    · simp only [decide_eq_true_eq, decide_eq_false_iff_not, Bool.and_eq_true, Bool.and_eq_false_iff, Bool.or_eq_true, Bool.or_eq_false_iff, Bool.not_eq_true', Bool.not_eq_false', Bool.not_true, Bool.not_false, Bool.false_eq_true, Bool.true_eq_false, Int.not_lt, Int.not_le, ge_iff_le, gt_iff_lt, Bool.not_eq_eq_eq_not, Bool.true_or, Bool.or_true, Bool.false_or, Bool.or_false, Bool.true_and, Bool.and_true, false_or, or_false, true_and, and_true, Decidable.not_not] at hj
      have hlt : j.toNat < (nth cells at_).fields.length := by omega
      have hdrop : (nth cells at_).fields.drop j.toNat = nth (nth cells at_).fields j :: (nth cells at_).fields.drop (j + 1).toNat := by
        rw [show (j + 1).toNat = j.toNat + 1 from by omega, List.drop_eq_getElem_cons hlt]
        congr 1
        exact (nth_of (i := j) (by simp [hlt])).symm
      have htake := take_nth (l := (nth cells at_).fields) j0 (by omega)
      have hstep := dropF_snoc z1 (nth (nth cells at_).fields j) ((nth cells at_).fields.take j.toNat)
      rw [← htake] at hstep
      rw [hdrop] at L2
      refine go_oix (hF u) j0 (by omega) ?_
      refine ld_int (Own.read (hF u) hS) j0 (by omega) ?_
      intro b0 b1
      refine ⟨_, c_isPointer, fun hq => ?_, fun hq => ?_⟩
      · simp only [decide_eq_true_eq, decide_eq_false_iff_not, Bool.and_eq_true, Bool.and_eq_false_iff, Bool.or_eq_true, Bool.or_eq_false_iff, Bool.not_eq_true', Bool.not_eq_false', Bool.not_true, Bool.not_false, Bool.false_eq_true, Bool.true_eq_false, Int.not_lt, Int.not_le, ge_iff_le, gt_iff_lt, Bool.not_eq_eq_eq_not, Bool.true_or, Bool.or_true, Bool.false_or, Bool.or_false, Bool.true_and, Bool.and_true, false_or, or_false, true_and, and_true, Decidable.not_not] at hq
        obtain ⟨l1, l2, l3⟩ := live_iff.1 (L2.head hq)
        refine go_oix (hF u) j0 (by omega) ?_
        refine ld_int (Own.read (hF u) hS) j0 (by omega) ?_
        intro _ _
        refine Trip.mono' (c_lower hO hP hS hq l2 l3 b1 (by omega)) ?_
        rintro _ w6 ⟨y6, I6, J6, rfl, hO6, hP6, hS⟩
        refine ⟨_, _, rfl, ?_⟩
        refine go_wr (by omega) (by omega) ?_
        rw [if_pos hq] at hstep
        refine ⟨rfl, rfl, ⟨I6, J6, by rw [hstep]; exact hO6, by rw [hstep]; exact hP6, hS, by omega, by omega, by rw [hstep]; exact L2.lower hq⟩, by omega⟩
      · simp only [decide_eq_true_eq, decide_eq_false_iff_not, Bool.and_eq_true, Bool.and_eq_false_iff, Bool.or_eq_true, Bool.or_eq_false_iff, Bool.not_eq_true', Bool.not_eq_false', Bool.not_true, Bool.not_false, Bool.false_eq_true, Bool.true_eq_false, Int.not_lt, Int.not_le, ge_iff_le, gt_iff_lt, Bool.not_eq_eq_eq_not, Bool.true_or, Bool.or_true, Bool.false_or, Bool.or_false, Bool.true_and, Bool.and_true, false_or, or_false, true_and, and_true, Decidable.not_not] at hq
        refine go_wr (by omega) (by omega) ?_
        rw [if_neg (by omega)] at hstep
        refine ⟨rfl, rfl, ⟨I, J, by rw [hstep]; exact hO, by rw [hstep]; exact hP, hS, by omega, by omega, by rw [hstep]; exact L2.skip (by omega)⟩, by omega⟩
    · simp only [decide_eq_true_eq, decide_eq_false_iff_not, Bool.and_eq_true, Bool.and_eq_false_iff, Bool.or_eq_true, Bool.or_eq_false_iff, Bool.not_eq_true', Bool.not_eq_false', Bool.not_true, Bool.not_false, Bool.false_eq_true, Bool.true_eq_false, Int.not_lt, Int.not_le, ge_iff_le, gt_iff_lt, Bool.not_eq_eq_eq_not, Bool.true_or, Bool.or_true, Bool.false_or, Bool.or_false, Bool.true_and, Bool.and_true, false_or, or_false, true_and, and_true, Decidable.not_not] at hj
      refine go_wr (by omega) (by omega) ?_
      rw [take_all (by omega)] at hO hP
      rw [← hs1, ← hsucc] at hO hP
      exact ⟨rfl, rfl, ⟨I, J, hO, hP, hS.to, by omega, by omega⟩, by omega⟩
  · simp only [decide_eq_true_eq, decide_eq_false_iff_not, Bool.and_eq_true, Bool.and_eq_false_iff, Bool.or_eq_true, Bool.or_eq_false_iff, Bool.not_eq_true', Bool.not_eq_false', Bool.not_true, Bool.not_false, Bool.false_eq_true, Bool.true_eq_false, Int.not_lt, Int.not_le, ge_iff_le, gt_iff_lt, Bool.not_eq_eq_eq_not, Bool.true_or, Bool.or_true, Bool.false_or, Bool.or_false, Bool.true_and, Bool.and_true, false_or, or_false, true_and, and_true, Decidable.not_not] at hc
    have he := hend (by
      rintro ⟨q1, q2⟩
      rcases hc with hc | hc
      · omega
      · exact q2 (List.eq_nil_of_length_eq_zero (by show pend.length = 0; omega)))
    refine Fn.use (c_trimLazy (OwnD.read hO hS) (Own.read hP hS)) hS ?_
    intro w2 hS hsub
    refine ⟨_, rfl, hsub, _, y, I, J, rfl, ?_, ?_, hS⟩
    · have hle := trimN_le cells pend cells.length
      have := hO.cut (hi := (trimN cells pend cells.length : Int)) (by omega) (by omega)
      unfold settleL trimZ
      rw [he]
      simp only [Int.toNat_natCast] at this
      exact this
    · unfold settleL trimZ
      rw [he]; exact hP
end
end Go.Vc
