/- Part of the proofs about the heaps: a law is joined in the text whose name ends in W and the law. -/
import Derived.Test.YtmmkfmmcmjpcgaaBLz4
import Derived.Test.YtmmkfmmcmjpcgaaBC13
namespace Go.Vc
open Go Go.Proofs Go.RowKit
set_option linter.all false
section
variable {u v w : World} {x y xf : Sl} {l ws fs pend : List Int} {h : List CellD} {z : LazyD} {m n k f : Int} {a : Addr} {I J L R R1 : Items} {F F1 : Items → Items}

theorem c_specLazyDrop (hx : Read v x z.cells) (hy : Read v y z.pend) (hn : InI n) (hl : z.cells.length ≤ 1000000000) :
    Mk Try.prog 25 #[.agg #[x.val, y.val], .int .i64 n] v fun r J => ∃ x' y' : Sl, ∃ J1 J2, r = .tuple #[.agg #[x'.val, y'.val], .bool (dropB z n)] ∧ OwnD x' (dropR z n).cells J1 ∧ Own v y' (dropR z n).pend J2 ∧ J = J1 ++ J2 := by
  refine of25 _ _ _ _ _ ?_
  unfold vc25
  have bad : ¬ dropOk z n → ∀ w I, St v w (I ++ []) → ∃ J, St v w J ∧ ∃ x' y' : Sl, ∃ J1 J2, Value.tuple #[.agg #[.slice none 0 0, .slice none 0 0], .bool false] = .tuple #[.agg #[x'.val, y'.val], .bool (dropB z n)] ∧ OwnD x' (dropR z n).cells J1 ∧ Own v y' (dropR z n).pend J2 ∧ J = J1 ++ J2 :=
    fun hb w I hS => ⟨[], hS.to, ⟨none, 0, 0⟩, ⟨none, 0, 0⟩, [], [], by rw [dropB_f hb]; rfl, by rw [dropR_f hb]; exact OwnD.nil, by rw [dropR_f hb]; exact Own.nil v, rfl⟩
  refine ⟨_, c_validLazy hx hy, _, fun _ => c_isWord hx hn, fun hc => bad (fun hd => ?_) v [] (.refl v), fun hc => ?_⟩
  · simp only [decide_eq_true_eq, decide_eq_false_iff_not, Bool.and_eq_true, Bool.and_eq_false_iff, Bool.or_eq_true, Bool.or_eq_false_iff, Bool.not_eq_true', Bool.not_eq_false', Bool.not_true, Bool.not_false, Bool.false_eq_true, Bool.true_eq_false, Int.not_lt, Int.not_le, ge_iff_le, gt_iff_lt, Bool.not_eq_eq_eq_not, Bool.true_or, Bool.or_true, Bool.false_or, Bool.or_false, Bool.true_and, Bool.and_true, false_or, or_false, true_and, and_true, Decidable.not_not] at hc
    rw [vlazyB_iff.2 hd.1, hd.2.1] at hc
    simp at hc
  simp only [decide_eq_true_eq, decide_eq_false_iff_not, Bool.and_eq_true, Bool.and_eq_false_iff, Bool.or_eq_true, Bool.or_eq_false_iff, Bool.not_eq_true', Bool.not_eq_false', Bool.not_true, Bool.not_false, Bool.false_eq_true, Bool.true_eq_false, Int.not_lt, Int.not_le, ge_iff_le, gt_iff_lt, Bool.not_eq_eq_eq_not, Bool.true_or, Bool.or_true, Bool.false_or, Bool.or_false, Bool.true_and, Bool.and_true, false_or, or_false, true_and, and_true, Decidable.not_not] at hc
  have hv := vlazyB_iff.1 hc.1
  have hw := hc.2
  have hp : ∀ p ∈ z.pend, 0 ≤ p ∧ p < z.cells.length := fun p hp => ⟨(hv.1.1 p hp).1, (hv.1.1 p hp).2.1⟩
  refine Mk.use (c_copyLazy hx hy) (.refl v) ?_
  rintro _ w1 _ ⟨t, s, J1, J2, rfl, hO, hP, rfl⟩ hS hsub
  replace hS : St v w1 (J1 ++ (J2 ++ [])) := hS.perm (by simp)
  refine ⟨_, _, rfl, _, c_isPointer, fun hq => ?_, fun hq => ?_⟩
  · simp only [decide_eq_true_eq, decide_eq_false_iff_not, Bool.and_eq_true, Bool.and_eq_false_iff, Bool.or_eq_true, Bool.or_eq_false_iff, Bool.not_eq_true', Bool.not_eq_false', Bool.not_true, Bool.not_false, Bool.false_eq_true, Bool.true_eq_false, Int.not_lt, Int.not_le, ge_iff_le, gt_iff_lt, Bool.not_eq_eq_eq_not, Bool.true_or, Bool.or_true, Bool.false_or, Bool.or_false, Bool.true_and, Bool.and_true, false_or, or_false, true_and, and_true, Decidable.not_not] at hq
    obtain ⟨_, l2, l3⟩ := live_iff.1 (word_ptr hw hq)
    have hi := hn.2
    have hrl := length_refs (raiseL z.cells z.pend)
    have hrl2 := raiseL_length z.cells z.pend
    refine go_wr (by omega) (by omega) ?_
    refine go_ix hx (by omega) l2 ?_
    refine ld_count (hx.src hS.sub) (by omega) l2 ?_
    intro a0 a1
    refine go_wr (by omega) (by omega) ?_
    refine Mk.use (c_raised hx hy hp) hS ?_
    rintro _ w2 J3 ⟨t3, rfl, hO3⟩ hS hsub
    refine ⟨_, rfl, hsub, ?_⟩
    refine Mk.usew (c_refsOf (OwnD.read hO3 hS) (vheap_len hv.2.1)) hS ?_
    rintro _ w3 J4 ⟨t4, rfl, hO4⟩ hS hsub
    replace hO4 : Own v t4 _ J4 := hO4.ofInts
    refine ⟨_, rfl, hsub, ?_⟩
    refine go_oix hO4 (by omega) (by omega) ?_
    refine ld_int (Own.read hO4 hS) (by omega) (by omega) ?_
    intro b0 b1
    refine ⟨fun hc => bad (fun hd => ?_) w3 (J4 ++ (J3 ++ (J1 ++ J2))) (hS.perm (by simp)), fun hc => ?_⟩
    · simp only [decide_eq_true_eq, decide_eq_false_iff_not, Bool.and_eq_true, Bool.and_eq_false_iff, Bool.or_eq_true, Bool.or_eq_false_iff, Bool.not_eq_true', Bool.not_eq_false', Bool.not_true, Bool.not_false, Bool.false_eq_true, Bool.true_eq_false, Int.not_lt, Int.not_le, ge_iff_le, gt_iff_lt, Bool.not_eq_eq_eq_not, Bool.true_or, Bool.or_true, Bool.false_or, Bool.or_false, Bool.true_and, Bool.and_true, false_or, or_false, true_and, and_true, Decidable.not_not] at hc
      exact hd.2.2 hq hc
    · simp only [decide_eq_true_eq, decide_eq_false_iff_not, Bool.and_eq_true, Bool.and_eq_false_iff, Bool.or_eq_true, Bool.or_eq_false_iff, Bool.not_eq_true', Bool.not_eq_false', Bool.not_true, Bool.not_false, Bool.false_eq_true, Bool.true_eq_false, Int.not_lt, Int.not_le, ge_iff_le, gt_iff_lt, Bool.not_eq_eq_eq_not, Bool.true_or, Bool.or_true, Bool.false_or, Bool.or_false, Bool.true_and, Bool.and_true, false_or, or_false, true_and, and_true, Decidable.not_not] at hc
      have hd : dropOk z n := ⟨hv, hw, fun _ => hc⟩
      have hpl := pend_len' (vlazy_iff.1 hv).1
      refine Trip.mono' (c_lower hO hP hS hq l2 l3 hi (by omega)) ?_
      rintro _ w5 ⟨y5, I5, J5, rfl, hO5, hP5, hS⟩
      refine ⟨_, _, rfl, I5 ++ J5, (hS.to : St v w5 (I5 ++ (J5 ++ []))).perm (by simp), _, _, I5, J5, by rw [dropB_iff.2 hd], ?_, ?_, rfl⟩
      · rw [dropR_t hd, dropZ, if_pos hq]; exact hO5
      · rw [dropR_t hd, dropZ, if_pos hq]; exact hP5
  · simp only [decide_eq_true_eq, decide_eq_false_iff_not, Bool.and_eq_true, Bool.and_eq_false_iff, Bool.or_eq_true, Bool.or_eq_false_iff, Bool.not_eq_true', Bool.not_eq_false', Bool.not_true, Bool.not_false, Bool.false_eq_true, Bool.true_eq_false, Int.not_lt, Int.not_le, ge_iff_le, gt_iff_lt, Bool.not_eq_eq_eq_not, Bool.true_or, Bool.or_true, Bool.false_or, Bool.or_false, Bool.true_and, Bool.and_true, false_or, or_false, true_and, and_true, Decidable.not_not] at hq
    have hd : dropOk z n := ⟨hv, hw, fun h => by omega⟩
    refine ⟨J1 ++ J2, hS.perm (by simp), _, _, J1, J2, by rw [dropB_iff.2 hd], ?_, ?_, rfl⟩
    · rw [dropR_t hd, dropZ, if_neg (by omega)]; exact hO
    · rw [dropR_t hd, dropZ, if_neg (by omega)]; exact hP

theorem c_specSettle0 (hO : OwnD x z.cells I) (hP : Own u y z.pend J) (hS : St u w L) [p : Pos I L R1 F1] [q : Pos J R1 R F] (hp : z.pend = []) (hm0 : 0 ≤ m) :
    Trip Try.prog 78 #[.agg #[x.val, y.val], .int .i64 m] w fun r w' => ∃ x' y' I' J', r = .agg #[x'.val, y'.val] ∧ OwnD x' (settleL m.toNat z).cells I' ∧ Own u y' (settleL m.toNat z).pend J' ∧ St u w' (I' ++ (J' ++ R)) := by
  replace hS : St u w (I ++ (J ++ R)) := (hS.perm p.perm.symm).perm (List.Perm.append_left I q.perm.symm)
  refine of78 _ _ _ _ _ ?_
  unfold vc78
  refine ⟨fun i x' y' w' => i = 0 ∧ x' = x ∧ y' = y ∧ St u w' (I ++ (J ++ R)), fun _ _ _ _ => 0, ⟨rfl, rfl, rfl, hS⟩, ?_⟩
  clear hS
  rintro i x' y' w ⟨rfl, rfl, rfl, hS⟩
  have hyn := hP.n
  rw [hp] at hyn
  dsimp only
  refine ⟨fun hc => ?_, fun hc => ?_⟩
  · simp only [decide_eq_true_eq, decide_eq_false_iff_not, Bool.and_eq_true, Bool.and_eq_false_iff, Bool.or_eq_true, Bool.or_eq_false_iff, Bool.not_eq_true', Bool.not_eq_false', Bool.not_true, Bool.not_false, Bool.false_eq_true, Bool.true_eq_false, Int.not_lt, Int.not_le, ge_iff_le, gt_iff_lt, Bool.not_eq_eq_eq_not, Bool.true_or, Bool.or_true, Bool.false_or, Bool.or_false, Bool.true_and, Bool.and_true, false_or, or_false, true_and, and_true, Decidable.not_not] at hc
    simp at hyn
    omega
  · have he : settleN m.toNat z = z := settleN_nil hp _
    refine Fn.use (c_trimLazy (OwnD.read hO hS) (Own.read hP hS)) hS ?_
    intro w2 hS hsub
    refine ⟨_, rfl, hsub, _, _, I, J, rfl, ?_, ?_, hS⟩
    · have hle := trimN_le z.cells z.pend z.cells.length
      have := hO.cut (hi := (trimN z.cells z.pend z.cells.length : Int)) (by omega) (by omega)
      unfold settleL trimZ
      rw [he]
      simp only [Int.toNat_natCast] at this
      exact this
    · unfold settleL trimZ
      rw [he]; exact hP

theorem settleL_len {z : LazyD} (n : Nat) (hz : z.pend = [] ∨ vlazy z) : (settleL n z).cells.length ≤ z.cells.length ∧ ((settleL n z).pend = [] ∨ vlazy (settleL n z)) := by
  rcases hz with hz | hz
  · unfold settleL trimZ
    rw [settleN_nil hz]
    exact ⟨by simp; omega, .inl hz⟩
  · have L := (vlazy_iff.1 hz).1
    refine ⟨?_, .inr (settle_valid L n)⟩
    have := (LZ.settleN n L).2.1
    unfold settleL trimZ
    simp only [List.length_take]
    omega

theorem c_goodLazy (hr : Rdr u a m I) (hS : St u w L) [p : Pos I L R F] (hm : m ≤ 999980000) :
    Trip Try.prog 104 #[.pointer (some (a.add 0))] w fun r w' => ∃ x y, ∃ (z : LazyD), ∃ J K I', r = .agg #[x.val, y.val] ∧ OwnD x z.cells J ∧ Own u y z.pend K ∧ Rdr u a (m + 900) I' ∧ St u w' (J ++ (K ++ (I' ++ R))) ∧ z.cells.length ≤ 60 ∧ z.pend.length ≤ 60 := by
  replace hS := hS.front (I := I)
  refine of104 _ _ _ ?_
  unfold vc104
  refine Trip.mono' (c_goodHeap hr hS (by omega)) ?_
  rintro _ w1 ⟨x, h, J, I1, rfl, hO, hR, hS, hG⟩
  have hG1 := hG.1
  refine ⟨_, rfl, ?_⟩
  refine St.build (α := Int) hS (by (repeat' (first | exact VsOf.nil | apply VsOf.cons | (apply VOf.int; first | assumption | (constructor <;> first | omega | (simp only [List.length_set, List.length_append, List.length_replicate, List.length_cons, List.length_nil, List.length_take, List.length_drop, List.length_map, List.length_singleton] at *; omega))) | exact VOf.bool | exact VOf.str))) rfl (by decide) ?_
  intro y w2 K hP hS hs
  refine ⟨_, rfl, ?_⟩
  refine Trip.mono' (c_pick (n := 7) hR hS (by omega) (by omega) (by omega)) ?_
  rintro _ w3 ⟨n0, I3, rfl, hR, hS, a0, a1, a2⟩
  refine ⟨_, rfl, ?_⟩
  refine ⟨fun n x y w => ∃ (z : LazyD), ∃ J K I, OwnD x z.cells J ∧ Own u y z.pend K ∧ Rdr u a (m + 900 - 10 * n) I ∧ St u w (J ++ (K ++ (I ++ R))) ∧ 0 ≤ n ∧ n ≤ 7 ∧ z.cells.length ≤ 60 ∧ (z.pend = [] ∨ vlazy z), fun n _ _ _ => n.toNat,
    ⟨⟨h, []⟩, J, K, I3, hO, hP, hR.le (by omega), hS.to, by omega, by omega, (by show h.length ≤ 60; omega), .inl rfl⟩, ?_⟩
  clear hO hP hR hS hG
  rintro n x y w ⟨z, J, K, I, hO, hP, hR, hS, n0, n1, hzl, hz⟩
  have hon := hO.n
  dsimp only
  refine ⟨fun hc => ?_, fun hc => ?_⟩
  · simp only [decide_eq_true_eq, decide_eq_false_iff_not, Bool.and_eq_true, Bool.and_eq_false_iff, Bool.or_eq_true, Bool.or_eq_false_iff, Bool.not_eq_true', Bool.not_eq_false', Bool.not_true, Bool.not_false, Bool.false_eq_true, Bool.true_eq_false, Int.not_lt, Int.not_le, ge_iff_le, gt_iff_lt, Bool.not_eq_eq_eq_not, Bool.true_or, Bool.or_true, Bool.false_or, Bool.or_false, Bool.true_and, Bool.and_true, false_or, or_false, true_and, and_true, Decidable.not_not] at hc
    refine ⟨?_, .refl _, ?_⟩
    all_goals
      refine Trip.mono' (c_pick (n := x.n) hR hS (by omega) (by omega) (by omega)) ?_
      rintro _ w4 ⟨k4, I4, rfl, hR, hS, b0, b1, b2⟩
      refine ⟨_, rfl, ?_⟩
      refine go_wr (by omega) (by omega) ?_
    refine ⟨?_, .refl _, ?_⟩
    all_goals
      refine Mk.usew (c_specLazyDrop (z := z) (n := 1000 + k4) (OwnD.read hO hS) (Own.read hP hS) ⟨by omega, by omega⟩ (by omega)) hS ?_
      rintro _ w5 _ ⟨x5, y5, J5, K5, rfl, hO5, hP5, rfl⟩ hS hsub
      replace hP5 : Own u y5 _ K5 := hP5.ofInts
      replace hS : St u w5 (J5 ++ (K5 ++ (I4 ++ (J ++ (K ++ R))))) := hS.perm (by simp)
      refine ⟨_, _, _, rfl, ?_⟩
      try (refine ⟨.refl _, ?_⟩)
      refine ⟨fun hd => ?_, fun hd => ?_⟩
      · replace hd := dropB_iff.1 hd
        rw [dropR_t hd] at hO5 hP5
        have hz5 : (dropZ z (1000 + k4)).pend = [] ∨ vlazy (dropZ z (1000 + k4)) := .inr (drop_valid hd)
        have hl5 := dropZ_len z (1000 + k4)
        refine Trip.mono' (c_pick (n := 5) hR hS (by omega) (by omega) (by omega)) ?_
        rintro _ w6 ⟨k6, I6, rfl, hR, hS, c0, c1, c2⟩
        refine ⟨_, rfl, fun hc => ?_, fun hc => ?_⟩
        · refine Trip.mono' (c_specSettle (m := 1) hO5 hP5 hS (vlazy_iff.1 (drop_valid hd)).1 (by omega) (by omega) (by omega)) ?_
          rintro _ w7 ⟨x7, y7, J7, K7, rfl, hO7, hP7, hS⟩
          obtain ⟨e1, e2⟩ := settleL_len (1 : Int).toNat hz5
          refine ⟨_, _, rfl, ?_⟩
          refine go_wr (by omega) (by omega) ?_
          exact ⟨rfl, rfl, ⟨_, J7, K7, I6, hO7, hP7, hR.le (by omega), hS.to, by omega, by omega, by omega, e2⟩, by omega⟩
        · refine go_wr (by omega) (by omega) ?_
          exact ⟨rfl, rfl, ⟨_, J5, K5, I6, hO5, hP5, hR.le (by omega), hS.to, by omega, by omega, by omega, hz5⟩, by omega⟩
      · refine Trip.mono' (c_pick (n := 5) hR hS (by omega) (by omega) (by omega)) ?_
        rintro _ w6 ⟨k6, I6, rfl, hR, hS, c0, c1, c2⟩
        refine ⟨_, rfl, fun hc => ?_, fun hc => ?_⟩
        · have hS' : St u w6 (J ++ (K ++ (I6 ++ R))) := hS.to
          have hst : Trip Try.prog 78 #[.agg #[x.val, y.val], .int .i64 1] w6 fun r w' => ∃ x' y' I' J', r = .agg #[x'.val, y'.val] ∧ OwnD x' (settleL (1 : Int).toNat z).cells I' ∧ Own u y' (settleL (1 : Int).toNat z).pend J' ∧ St u w' (I' ++ (J' ++ (I6 ++ R))) := by
            rcases hz with hz | hz
            · exact c_specSettle0 hO hP hS' hz (by omega)
            · exact c_specSettle hO hP hS' (vlazy_iff.1 hz).1 (by omega) (by omega) (by omega)
          refine Trip.mono' hst ?_
          rintro _ w7 ⟨x7, y7, J7, K7, rfl, hO7, hP7, hS⟩
          obtain ⟨e1, e2⟩ := settleL_len (1 : Int).toNat hz
          refine ⟨_, _, rfl, ?_⟩
          refine go_wr (by omega) (by omega) ?_
          exact ⟨rfl, rfl, ⟨_, J7, K7, I6, hO7, hP7, hR.le (by omega), hS.to, by omega, by omega, by omega, e2⟩, by omega⟩
        · refine go_wr (by omega) (by omega) ?_
          exact ⟨rfl, rfl, ⟨_, J, K, I6, hO, hP, hR.le (by omega), hS.to, by omega, by omega, by omega, hz⟩, by omega⟩
  · refine ⟨x, y, z, J, K, I, rfl, hO, hP, hR.le (by omega), hS, hzl, ?_⟩
    rcases hz with hz | hz
    · rw [hz]; simp
    · have := pend_len' (vlazy_iff.1 hz).1; omega

theorem in_wrap (n : Int) : InI (IntKind.wrap .i64 n) := by
  have : IntKind.i64.wrap n = (n + 9223372036854775808) % 18446744073709551616 - 9223372036854775808 := by
    simp only [IntKind.wrap, IntKind.bits, IntKind.signed]
    simp
    split <;> omega
  rw [this]
  exact ⟨by omega, by omega⟩

theorem in_wrap' {n r : Int} (h : IntKind.wrap .i64 n = r) : InI r := h ▸ in_wrap n

theorem c_anyLazy (hr : Rdr u a m I) (hS : St u w L) [p : Pos I L R F] (hm : m ≤ 999970000) :
    Trip Try.prog 82 #[.pointer (some (a.add 0))] w fun r w' => ∃ x y, ∃ (z : LazyD), ∃ J K I', r = .agg #[x.val, y.val] ∧ OwnD x z.cells J ∧ Own u y z.pend K ∧ Rdr u a (m + 910) I' ∧ St u w' (J ++ (K ++ (I' ++ R))) ∧ z.cells.length ≤ 60 ∧ z.pend.length ≤ 61 := by
  replace hS := hS.front (I := I)
  refine of82 _ _ _ ?_
  unfold vc82
  refine Trip.mono' (c_goodLazy hr hS (by omega)) ?_
  rintro _ w1 ⟨x, y, z, J, K, I1, rfl, hO, hP, hR, hS, hzl, hpl⟩
  have hon := hO.n
  have hyn := hP.n
  refine ⟨_, _, rfl, ?_⟩
  refine go_max ?_
  refine Trip.mono' (c_pick (n := 20) hR hS (by omega) (by omega) (by omega)) ?_
  rintro _ w2 ⟨n8, I2, rfl, hR, hS, a0, a1, a2⟩
  refine ⟨_, rfl, fun hc => ?_, fun hc => ⟨fun hc => ⟨fun hc => ?_, fun hc => ?_⟩, fun hc => ⟨fun hc => ⟨fun hc => ?_, fun hc => ?_⟩, fun hc => ?_⟩⟩⟩
  · refine Trip.mono' (c_pick (n := max 1 x.n) hR hS (by omega) (by omega) (by omega)) ?_
    rintro _ w3 ⟨k, I3, rfl, hR, hS, b0, b1, b2⟩
    refine ⟨_, rfl, ?_⟩
    refine St.build (α := Int) hS (by (repeat' (first | exact VsOf.nil | apply VsOf.cons | (apply VOf.int; first | assumption | (constructor <;> first | omega | (simp only [List.length_set, List.length_append, List.length_replicate, List.length_cons, List.length_nil, List.length_take, List.length_drop, List.length_map, List.length_singleton] at *; omega))) | exact VOf.bool | exact VOf.str))) rfl (by decide) ?_
    intro x4 w4 I4 hO4 hS hs
    refine ⟨_, rfl, ?_⟩
    refine Trip.mono' (c_one hR hO4 hS (by omega) (by simp) (by simp)) ?_
    rintro _ w5 ⟨k5, I5, rfl, hR, hS, hk5⟩
    have hki : InI k5 := by simp only [List.mem_cons, List.not_mem_nil, or_false] at hk5; omega
    refine ⟨_, rfl, ?_⟩
    refine St.build (α := Int) hS (by (repeat' (first | exact VsOf.nil | apply VsOf.cons | (apply VOf.int; first | assumption | (constructor <;> first | omega | (simp only [List.length_set, List.length_append, List.length_replicate, List.length_cons, List.length_nil, List.length_take, List.length_drop, List.length_map, List.length_singleton] at *; omega))) | exact VOf.bool | exact VOf.str))) rfl (by decide) ?_
    intro x6 w6 I6 hO6 hS hs
    refine ⟨_, rfl, ?_⟩
    refine Own.append hP hS (hO6.src hS) (by simp; omega) (by decide) ?_
    intro x7 w7 I7 hO7 hS
    exact ⟨_, rfl, x, x7, ⟨z.cells, z.pend ++ [k5]⟩, J, I7, I5, rfl, hO, hO7, hR.le (by omega), hS.to, hzl, by simp; omega⟩
  · simp only [decide_eq_true_eq, decide_eq_false_iff_not, Bool.and_eq_true, Bool.and_eq_false_iff, Bool.or_eq_true, Bool.or_eq_false_iff, Bool.not_eq_true', Bool.not_eq_false', Bool.not_true, Bool.not_false, Bool.false_eq_true, Bool.true_eq_false, Int.not_lt, Int.not_le, ge_iff_le, gt_iff_lt, Bool.not_eq_eq_eq_not, Bool.true_or, Bool.or_true, Bool.false_or, Bool.or_false, Bool.true_and, Bool.and_true, false_or, or_false, true_and, and_true, Decidable.not_not] at hc
    have hcut := hP.cut (lo := 1) (hi := y.n) (by omega) (by omega) (by omega)
    refine ⟨⟨by omega, by omega⟩, x, _, ⟨z.cells, (z.pend.take (y.n : Int).toNat).drop (1 : Int).toNat⟩, J, K, I2, rfl, hO, hcut, hR.le (by omega), hS.to, hzl, by simp; omega⟩
  · exact ⟨x, y, z, J, K, I2, rfl, hO, hP, hR.le (by omega), hS.to, hzl, by omega⟩
  · simp only [decide_eq_true_eq, decide_eq_false_iff_not, Bool.and_eq_true, Bool.and_eq_false_iff, Bool.or_eq_true, Bool.or_eq_false_iff, Bool.not_eq_true', Bool.not_eq_false', Bool.not_true, Bool.not_false, Bool.false_eq_true, Bool.true_eq_false, Int.not_lt, Int.not_le, ge_iff_le, gt_iff_lt, Bool.not_eq_eq_eq_not, Bool.true_or, Bool.or_true, Bool.false_or, Bool.or_false, Bool.true_and, Bool.and_true, false_or, or_false, true_and, and_true, Decidable.not_not] at hc
    refine Trip.mono' (c_pick (n := max 1 x.n) hR hS (by omega) (by omega) (by omega)) ?_
    rintro _ w3 ⟨k, I3, rfl, hR, hS, k0, b1, b2⟩
    have hk : k < z.cells.length := by omega
    refine ⟨_, rfl, ⟨hO.ix k0 hk, ?_, ?_⟩, ?_⟩
    · refine ld_count (OwnD.src hO hS) k0 hk ?_
      intro c0 c1
      refine St.build (α := Int) hS (by (repeat' (first | exact VsOf.nil | apply VsOf.cons | (apply VOf.int; first | assumption | (constructor <;> first | omega | (simp only [List.length_set, List.length_append, List.length_replicate, List.length_cons, List.length_nil, List.length_take, List.length_drop, List.length_map, List.length_singleton] at *; omega))) | exact VOf.bool | exact VOf.str))) rfl (by decide) ?_
      intro x4 w4 I4 hO4 hS hs
      refine ⟨_, rfl, ?_⟩
      refine Trip.mono' (c_one hR hO4 hS (by omega) (by simp) (by simp)) ?_
      rintro _ w5 ⟨k5, I5, rfl, hR, hS, hk5⟩
      refine ⟨_, rfl, ?_⟩
      (refine go_wrap ?_; intro r hr; have hri := in_wrap' hr; refine ⟨hO.ix k0 hk, ?_⟩; refine OwnD.store hO hS k0 hk (⟨r, (nth z.cells k).tag, (nth z.cells k).fields⟩ : CellD) [] (Nat.le_of_ble_eq_true rfl) (fun r K hr => by obtain ⟨f, rfl, q1, q2, q3⟩ := hr; exact ⟨K, ⟨f, rfl, hri, q2, q3⟩, .inr ⟨rfl, rfl⟩⟩) ?_; intro w9 I9 hO9 hS; rw [List.append_nil] at hO9; exact ⟨x, y, ⟨z.cells.set k.toNat ⟨r, (nth z.cells k).tag, (nth z.cells k).fields⟩, z.pend⟩, I9, K, _, rfl, hO9, hP, hR.le (by omega), hS.to, by simpa using hzl, by show z.pend.length ≤ 61; omega⟩)
    · refine St.build (α := Int) hS (by (repeat' (first | exact VsOf.nil | apply VsOf.cons | (apply VOf.int; first | assumption | (constructor <;> first | omega | (simp only [List.length_set, List.length_append, List.length_replicate, List.length_cons, List.length_nil, List.length_take, List.length_drop, List.length_map, List.length_singleton] at *; omega))) | exact VOf.bool | exact VOf.str))) rfl (by decide) ?_
      intro x4 w4 I4 hO4 hS hs
      refine ⟨_, rfl, ?_, ?_⟩
      · refine ld_count (OwnD.src hO hS) k0 hk ?_
        intro c0 c1
        refine Trip.mono' (c_one hR hO4 hS (by omega) (by simp) (by simp)) ?_
        rintro _ w5 ⟨k5, I5, rfl, hR, hS, hk5⟩
        refine ⟨_, rfl, ?_⟩
        (refine go_wrap ?_; intro r hr; have hri := in_wrap' hr; refine ⟨hO.ix k0 hk, ?_⟩; refine OwnD.store hO hS k0 hk (⟨r, (nth z.cells k).tag, (nth z.cells k).fields⟩ : CellD) [] (Nat.le_of_ble_eq_true rfl) (fun r K hr => by obtain ⟨f, rfl, q1, q2, q3⟩ := hr; exact ⟨K, ⟨f, rfl, hri, q2, q3⟩, .inr ⟨rfl, rfl⟩⟩) ?_; intro w9 I9 hO9 hS; rw [List.append_nil] at hO9; exact ⟨x, y, ⟨z.cells.set k.toNat ⟨r, (nth z.cells k).tag, (nth z.cells k).fields⟩, z.pend⟩, I9, K, _, rfl, hO9, hP, hR.le (by omega), hS.to, by simpa using hzl, by show z.pend.length ≤ 61; omega⟩)
      · refine Trip.mono' (c_one hR hO4 hS (by omega) (by simp) (by simp)) ?_
        rintro _ w5 ⟨k5, I5, rfl, hR, hS, hk5⟩
        refine ⟨_, rfl, ?_⟩
        refine ld_count (OwnD.src hO hS) k0 hk ?_
        intro c0 c1
        (refine go_wrap ?_; intro r hr; have hri := in_wrap' hr; refine ⟨hO.ix k0 hk, ?_⟩; refine OwnD.store hO hS k0 hk (⟨r, (nth z.cells k).tag, (nth z.cells k).fields⟩ : CellD) [] (Nat.le_of_ble_eq_true rfl) (fun r K hr => by obtain ⟨f, rfl, q1, q2, q3⟩ := hr; exact ⟨K, ⟨f, rfl, hri, q2, q3⟩, .inr ⟨rfl, rfl⟩⟩) ?_; intro w9 I9 hO9 hS; rw [List.append_nil] at hO9; exact ⟨x, y, ⟨z.cells.set k.toNat ⟨r, (nth z.cells k).tag, (nth z.cells k).fields⟩, z.pend⟩, I9, K, _, rfl, hO9, hP, hR.le (by omega), hS.to, by simpa using hzl, by show z.pend.length ≤ 61; omega⟩)
    · refine St.build (α := Int) hS (by (repeat' (first | exact VsOf.nil | apply VsOf.cons | (apply VOf.int; first | assumption | (constructor <;> first | omega | (simp only [List.length_set, List.length_append, List.length_replicate, List.length_cons, List.length_nil, List.length_take, List.length_drop, List.length_map, List.length_singleton] at *; omega))) | exact VOf.bool | exact VOf.str))) rfl (by decide) ?_
      intro x4 w4 I4 hO4 hS hs
      refine ⟨_, rfl, ⟨hO.ix k0 hk, ?_, ?_⟩, ?_⟩
      · refine ld_count (OwnD.src hO hS) k0 hk ?_
        intro c0 c1
        refine Trip.mono' (c_one hR hO4 hS (by omega) (by simp) (by simp)) ?_
        rintro _ w5 ⟨k5, I5, rfl, hR, hS, hk5⟩
        refine ⟨_, rfl, ?_⟩
        (refine go_wrap ?_; intro r hr; have hri := in_wrap' hr; refine ⟨hO.ix k0 hk, ?_⟩; refine OwnD.store hO hS k0 hk (⟨r, (nth z.cells k).tag, (nth z.cells k).fields⟩ : CellD) [] (Nat.le_of_ble_eq_true rfl) (fun r K hr => by obtain ⟨f, rfl, q1, q2, q3⟩ := hr; exact ⟨K, ⟨f, rfl, hri, q2, q3⟩, .inr ⟨rfl, rfl⟩⟩) ?_; intro w9 I9 hO9 hS; rw [List.append_nil] at hO9; exact ⟨x, y, ⟨z.cells.set k.toNat ⟨r, (nth z.cells k).tag, (nth z.cells k).fields⟩, z.pend⟩, I9, K, _, rfl, hO9, hP, hR.le (by omega), hS.to, by simpa using hzl, by show z.pend.length ≤ 61; omega⟩)
      · refine Trip.mono' (c_one hR hO4 hS (by omega) (by simp) (by simp)) ?_
        rintro _ w5 ⟨k5, I5, rfl, hR, hS, hk5⟩
        refine ⟨_, rfl, ?_⟩
        refine ld_count (OwnD.src hO hS) k0 hk ?_
        intro c0 c1
        (refine go_wrap ?_; intro r hr; have hri := in_wrap' hr; refine ⟨hO.ix k0 hk, ?_⟩; refine OwnD.store hO hS k0 hk (⟨r, (nth z.cells k).tag, (nth z.cells k).fields⟩ : CellD) [] (Nat.le_of_ble_eq_true rfl) (fun r K hr => by obtain ⟨f, rfl, q1, q2, q3⟩ := hr; exact ⟨K, ⟨f, rfl, hri, q2, q3⟩, .inr ⟨rfl, rfl⟩⟩) ?_; intro w9 I9 hO9 hS; rw [List.append_nil] at hO9; exact ⟨x, y, ⟨z.cells.set k.toNat ⟨r, (nth z.cells k).tag, (nth z.cells k).fields⟩, z.pend⟩, I9, K, _, rfl, hO9, hP, hR.le (by omega), hS.to, by simpa using hzl, by show z.pend.length ≤ 61; omega⟩)
      · refine Trip.mono' (c_one hR hO4 hS (by omega) (by simp) (by simp)) ?_
        rintro _ w5 ⟨k5, I5, rfl, hR, hS, hk5⟩
        refine ⟨_, rfl, hO.ix k0 hk, ?_⟩
        refine ld_count (OwnD.src hO hS) k0 hk ?_
        intro c0 c1
        (refine go_wrap ?_; intro r hr; have hri := in_wrap' hr; refine ⟨hO.ix k0 hk, ?_⟩; refine OwnD.store hO hS k0 hk (⟨r, (nth z.cells k).tag, (nth z.cells k).fields⟩ : CellD) [] (Nat.le_of_ble_eq_true rfl) (fun r K hr => by obtain ⟨f, rfl, q1, q2, q3⟩ := hr; exact ⟨K, ⟨f, rfl, hri, q2, q3⟩, .inr ⟨rfl, rfl⟩⟩) ?_; intro w9 I9 hO9 hS; rw [List.append_nil] at hO9; exact ⟨x, y, ⟨z.cells.set k.toNat ⟨r, (nth z.cells k).tag, (nth z.cells k).fields⟩, z.pend⟩, I9, K, _, rfl, hO9, hP, hR.le (by omega), hS.to, by simpa using hzl, by show z.pend.length ≤ 61; omega⟩)
  · exact ⟨x, y, z, J, K, I2, rfl, hO, hP, hR.le (by omega), hS.to, hzl, by omega⟩
  · exact ⟨x, y, z, J, K, I2, rfl, hO, hP, hR.le (by omega), hS.to, hzl, by omega⟩

theorem c_DrawLazyDrop {code : List UInt8} (hx : Read v x code) : Mk Try.prog 38 #[x.val] v fun r J => ∃ y t, ∃ (z : LazyD) (n : Int), ∃ J1 J2, r = .tuple #[.agg #[y.val, t.val], .int .i64 n] ∧ OwnD y z.cells J1 ∧ Own v t z.pend J2 ∧ InI n ∧ z.cells.length ≤ 60 ∧ z.pend.length ≤ 61 ∧ J = J1 ++ J2 := by
  refine of38 _ _ _ ?_
  unfold vc38
  refine Mk.use (c_newReader hx) (.refl v) ?_
  rintro _ w1 J1 ⟨a, rfl, hR⟩ hS hsub
  refine ⟨_, rfl, ?_⟩
  refine Trip.mono' (c_anyLazy hR hS (by omega)) ?_
  rintro _ w2 ⟨x, y, z, J, K, I, rfl, hO, hP, hR, hS, hzl, hpl⟩
  have hon := hO.n
  refine ⟨_, _, rfl, ?_⟩
  refine Trip.mono' (c_wordFor (n := x.n) hR hS (by omega) (by omega) (by omega)) ?_
  rintro _ w3 ⟨k, I3, rfl, hk, hR, hS⟩
  exact ⟨_, rfl, J ++ K, (hS.to : St v w3 (J ++ (K ++ []))).perm (by simp), x, y, z, k, J, K, rfl, hO, hP, hk, hzl, hpl, rfl⟩
end
end Go.Vc
