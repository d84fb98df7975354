/- Part of the proofs about the heaps: a law is joined in the text whose name ends in W and the law. -/
import Derived.Test.YtmmkfmmcmjpcgaaBC8
namespace Go.Vc
open Go Go.Proofs Go.RowKit
set_option linter.all false
def GH (h : List CellD) (len cnt : Int) : Prop := h.length ≤ len ∧ ∀ c ∈ h, c.fields.length ≤ 3 ∧ c.count ≤ cnt
theorem GH.le {h : List CellD} {a b a' b' : Int} (hg : GH h a b) (h1 : a ≤ a') (h2 : b ≤ b') : GH h a' b' := ⟨by have := hg.1; omega, fun c hc => by have := hg.2 c hc; omega⟩
theorem neg_in : InI (-1) := ⟨by omega, by omega⟩
theorem zero_in : InI 0 := ⟨by omega, by omega⟩
theorem allocL_cases (h : List CellD) (t : Int) (fs : List Int) : allocL h t fs = ([], 0) ∨ (vheap (allocL h t fs).1 ∧ vheap h ∧ (allocL h t fs).1.length ≤ h.length + 1 ∧ (allocL h t fs).1 = placeL h (freeIdx h) ⟨1, t, fs⟩ ∧ (allocL h t fs).2 = 1000 + freeIdx h) := by
  unfold allocL
  split
  · rename_i hc
    simp only [Bool.and_eq_true] at hc
    exact .inr ⟨vheapB_iff.1 hc.2, vheapB_iff.1 hc.1.1, length_placeL _ _ _, rfl, rfl⟩
  · exact .inl rfl
theorem vheap_GH {h : List CellD} (hv : vheap h) {len : Int} (hl : h.length ≤ len) : GH h len 1000000 := ⟨hl, fun c hc => ⟨vheap_len hv c hc, by have := (vheap_count hv c hc).2; omega⟩⟩
section
variable {u v w : World} {x y xf : Sl} {l fs : List Int} {h : List CellD} {m n k : Int} {a : Addr} {I J L R : Items} {F : Items → Items}

theorem c_goodHeap {q : Bool} (hr : Rdr u a m I) (hS : St u w L) [p : Pos I L R F] (hm : m ≤ 999990000) :
    Trip Try.prog 87 #[.pointer (some (a.add 0)), .bool q] w fun r w' => ∃ y, ∃ (h' : List CellD), ∃ J' I', r = y.val ∧ OwnD y h' J' ∧ Rdr u a (m + 700) I' ∧ St u w' (J' ++ (I' ++ R)) ∧ GH h' 60 3000000 := by
  replace hS := hS.front (I := I)
  refine of87 _ _ _ _ ?_
  unfold vc87
  refine St.build (α := CellD) hS (by (repeat' (first | exact VsOf.nil | apply VsOf.cons | (apply VOf.int; first | assumption | (constructor <;> first | omega | (simp only [List.length_set, List.length_append, List.length_replicate, List.length_cons, List.length_nil, List.length_take, List.length_drop, List.length_map, List.length_singleton] at *; omega))) | exact VOf.bool | exact VOf.str))) rfl (by decide) ?_
  intro x1 w1 J1 hO1 hS hs
  have hO1' : OwnD x1 ([] : List CellD) J1 := by
    obtain ⟨rows, k1, k2, k3⟩ := hO1
    have e : rows = [] := List.eq_nil_of_length_eq_zero (by simpa using k2.1)
    subst e
    exact ⟨[], J1, [], [], k1, by simp, by simp, fun i r a K h => by simp at h, by simp, by simp⟩
  refine ⟨_, rfl, ?_⟩
  refine Trip.mono' (c_pick (n := 14) hr hS (by omega) (by omega) (by omega)) ?_
  rintro _ w2 ⟨k0, I2, rfl, hR, hS, a0, a1, a2⟩
  refine ⟨_, rfl, ?_⟩
  refine go_wr (by omega) (by omega) ?_
  let InvO : Sl → Int → World → Prop := fun x n w => ∃ (h : List CellD), ∃ J I, OwnD x h J ∧ Rdr u a (m + 600 - 30 * n) I ∧ St u w (J ++ (I ++ R)) ∧ 0 ≤ n ∧ n ≤ 16 ∧ GH h (40 - n) (2000000 - 10 * n)
  refine ⟨InvO, fun _ n _ => n.toNat, ⟨[], J1, I2, hO1', hR.le (by omega), hS.to, by omega, by omega, by simp; omega, by simp⟩, ?_⟩
  clear hO1 hO1' hR hS hr
  rintro x n w ⟨h, J, I, hO, hR, hS, n0, n1, hG⟩
  dsimp only
  have hon := hO.n
  have hGl := hG.1
  refine ⟨fun hn => ?_, fun hn => ?_⟩
  · simp only [decide_eq_true_eq, decide_eq_false_iff_not, Bool.and_eq_true, Bool.and_eq_false_iff, Bool.or_eq_true, Bool.or_eq_false_iff, Bool.not_eq_true', Bool.not_eq_false', Bool.not_true, Bool.not_false, Bool.false_eq_true, Bool.true_eq_false, Int.not_lt, Int.not_le, ge_iff_le, gt_iff_lt, Bool.not_eq_eq_eq_not, Bool.true_or, Bool.or_true, Bool.false_or, Bool.or_false, Bool.true_and, Bool.and_true, false_or, or_false, true_and, and_true, Decidable.not_not] at hn
    refine St.build (α := Int) hS (by (repeat' (first | exact VsOf.nil | apply VsOf.cons | (apply VOf.int; first | assumption | (constructor <;> first | omega | (simp only [List.length_set, List.length_append, List.length_replicate, List.length_cons, List.length_nil, List.length_take, List.length_drop, List.length_map, List.length_singleton] at *; omega))) | exact VOf.bool | exact VOf.str))) rfl (by decide) ?_
    intro z1 w1 K1 hZ hS hs
    refine ⟨_, rfl, ?_⟩
    refine Trip.mono' (c_pick (n := 4) hR hS (by omega) (by omega) (by omega)) ?_
    rintro _ w2 ⟨kk, I2, rfl, hR, hS, b0, b1, b2⟩
    refine ⟨_, rfl, ?_⟩
    let InvI : Sl → Int → World → Prop := fun z k w => ∃ (h : List CellD) (fs : List Int), ∃ K J I, Own u z fs K ∧ OwnD x h J ∧ Rdr u a (m + 600 - 30 * n + 1 + 4 * (3 - k)) I ∧ St u w (K ++ (J ++ (I ++ R))) ∧ 0 ≤ k ∧ k ≤ 3 ∧ fs.length ≤ 3 - k ∧ GH h (40 - n) (2000000 - 10 * n + 3 - k)
    refine ⟨InvI, fun _ k _ => k.toNat, ⟨h, [], K1, J, I2, hZ, hO, hR.le (by omega), hS.to, by omega, by omega, by simp; omega, hG.le (by omega) (by omega)⟩, ?_⟩
    clear hZ hO hR hS hG hon hGl
    rintro z k w ⟨h, fs, K, J, I, hZ, hO, hR, hS, k0, k1, hfl, hG⟩
    dsimp only
    have hon := hO.n
    have hGl := hG.1
    refine ⟨fun hk => ?_, fun hk => ?_⟩
    · simp only [decide_eq_true_eq, decide_eq_false_iff_not, Bool.and_eq_true, Bool.and_eq_false_iff, Bool.or_eq_true, Bool.or_eq_false_iff, Bool.not_eq_true', Bool.not_eq_false', Bool.not_true, Bool.not_false, Bool.false_eq_true, Bool.true_eq_false, Int.not_lt, Int.not_le, ge_iff_le, gt_iff_lt, Bool.not_eq_eq_eq_not, Bool.true_or, Bool.or_true, Bool.false_or, Bool.or_false, Bool.true_and, Bool.and_true, false_or, or_false, true_and, and_true, Decidable.not_not] at hk
      have tail : ∀ (w : World) (val m' : Int) (h : List CellD) (J I : Items), InI val → OwnD x h J → Rdr u a m' I → m' ≤ m + 600 - 30 * n + 1 + 4 * (3 - k) + 4 → St u w (K ++ (J ++ (I ++ R))) → GH h (40 - n) (2000000 - 10 * n + 4 - k) →
          StepT Try.prog (Instr.buildSlice 26 1 #[(0, .int .i64 val)]) w fun r w' => ∃ x : Sl, r = x.val ∧ StepT Try.prog (Builtin.append_ #[26, 26] 26 #[z.val, x.val]) w' fun r w'' =>
            ∃ x' : Sl, r = x'.val ∧ ∃ k2, Wr .i64 (k - 1) k2 ∧ InvI x' k2 w'' ∧ k2.toNat < k.toNat := by
        intro w val m' h J I hv hO hR hm' hS hG
        refine St.build (α := Int) hS (by (repeat' (first | exact VsOf.nil | apply VsOf.cons | (apply VOf.int; first | assumption | (constructor <;> first | omega | (simp only [List.length_set, List.length_append, List.length_replicate, List.length_cons, List.length_nil, List.length_take, List.length_drop, List.length_map, List.length_singleton] at *; omega))) | exact VOf.bool | exact VOf.str))) rfl (by decide) ?_
        intro x3 w3 I3 hO3 hS hs
        refine ⟨_, rfl, ?_⟩
        refine Own.append hZ hS (hO3.src hS) (by simp; omega) (by decide) ?_
        intro x4 w4 I4 hO4 hS
        refine ⟨_, rfl, ?_⟩
        refine go_wr (by omega) (by omega) ?_
        exact ⟨⟨h, _, I4, J, I, hO4, hO, hR.le (by omega), hS.to, by omega, by omega, by simp; omega, hG.le (by omega) (by omega)⟩, by omega⟩
      refine Trip.mono' (c_pick (n := 20) hR hS (by omega) (by omega) (by omega)) ?_
      rintro _ w1 ⟨k1, I1, rfl, hR, hS, a0, a1, a2⟩
      refine ⟨_, rfl, ?_⟩
      refine go_wr (by omega) (by omega) ?_
      refine ⟨fun hc => ?_, fun hc => tail _ _ _ h J I1 (by omega) hO hR (by omega) hS.to (hG.le (by omega) (by omega))⟩
      simp only [decide_eq_true_eq, decide_eq_false_iff_not, Bool.and_eq_true, Bool.and_eq_false_iff, Bool.or_eq_true, Bool.or_eq_false_iff, Bool.not_eq_true', Bool.not_eq_false', Bool.not_true, Bool.not_false, Bool.false_eq_true, Bool.true_eq_false, Int.not_lt, Int.not_le, ge_iff_le, gt_iff_lt, Bool.not_eq_eq_eq_not, Bool.true_or, Bool.or_true, Bool.false_or, Bool.or_false, Bool.true_and, Bool.and_true, false_or, or_false, true_and, and_true, Decidable.not_not] at hc
      refine Trip.mono' (c_pick (n := 3) hR hS (by omega) (by omega) (by omega)) ?_
      rintro _ w1 ⟨k2, I1, rfl, hR, hS, c0, c1, c2⟩
      refine ⟨_, rfl, ?_⟩
      refine ⟨fun hc => ?_, fun hc => tail _ _ _ h J I1 (by omega) hO hR (by omega) hS.to (hG.le (by omega) (by omega))⟩
      simp only [decide_eq_true_eq, decide_eq_false_iff_not, Bool.and_eq_true, Bool.and_eq_false_iff, Bool.or_eq_true, Bool.or_eq_false_iff, Bool.not_eq_true', Bool.not_eq_false', Bool.not_true, Bool.not_false, Bool.false_eq_true, Bool.true_eq_false, Int.not_lt, Int.not_le, ge_iff_le, gt_iff_lt, Bool.not_eq_eq_eq_not, Bool.true_or, Bool.or_true, Bool.false_or, Bool.or_false, Bool.true_and, Bool.and_true, false_or, or_false, true_and, and_true, Decidable.not_not] at hc
      refine Trip.mono' (c_pick (n := x.n) hR hS (by omega) (by omega) (by omega)) ?_
      rintro _ w1 ⟨at_, I1, rfl, hR, hS, d0, d1, d2⟩
      refine ⟨_, rfl, ?_⟩
      have hat : at_ < h.length := by omega
      have hmem := nth_mem d0 hat
      have hcb := hG.2 _ hmem
      refine ⟨hO.ix d0 hat, ?_⟩
      refine ld_count (OwnD.src hO hS) d0 hat ?_
      intro e0 e1
      refine ⟨fun hc => ?_, fun hc => tail _ _ _ h J I1 (by omega) hO hR (by omega) hS.to (hG.le (by omega) (by omega))⟩
      simp only [decide_eq_true_eq, decide_eq_false_iff_not, Bool.and_eq_true, Bool.and_eq_false_iff, Bool.or_eq_true, Bool.or_eq_false_iff, Bool.not_eq_true', Bool.not_eq_false', Bool.not_true, Bool.not_false, Bool.false_eq_true, Bool.true_eq_false, Int.not_lt, Int.not_le, ge_iff_le, gt_iff_lt, Bool.not_eq_eq_eq_not, Bool.true_or, Bool.or_true, Bool.false_or, Bool.or_false, Bool.true_and, Bool.and_true, false_or, or_false, true_and, and_true, Decidable.not_not] at hc
      refine go_wr (by omega) (by omega) ?_
      refine ⟨hO.ix d0 hat, ?_⟩
      refine ld_count (OwnD.src hO hS) d0 hat ?_
      intro _ _
      refine Mk.usew (c_refsOf (OwnD.read hO hS) (fun c hc => (hG.2 c hc).1)) hS ?_
      rintro _ w2 J2 ⟨z2, rfl, hO2⟩ hS hsub
      have hrl := length_refs h
      replace hO2 : Own u z2 (refL h) J2 := hO2.ofInts
      refine ⟨_, rfl, ?_⟩
      have inc : ∀ (w : World) (m' : Int) (I : Items), Rdr u a m' I → m' ≤ m + 600 - 30 * n + 1 + 4 * (3 - k) + 4 → St u w (K ++ (J ++ (I ++ R))) →
          IxOk x at_ ∧ ∃ n61 : Int, w.cell? ((elA x at_ 3).add 0) = some (.int .i64 n61) ∧ ∃ n62 : Int, Wr .i64 (n61 + 1) n62 ∧ IxOk x at_ ∧ StoreAt w (elA x at_ 3) 0 [.int .i64 n62] fun w63 =>
            StepT Try.prog (Instr.buildSlice 26 1 #[(0, .int .i64 (1000 + at_))]) w63 fun r w' => ∃ x : Sl, r = x.val ∧ StepT Try.prog (Builtin.append_ #[26, 26] 26 #[z.val, x.val]) w' fun r w'' =>
            ∃ x' : Sl, r = x'.val ∧ ∃ k2, Wr .i64 (k - 1) k2 ∧ InvI x' k2 w'' ∧ k2.toNat < k.toNat := by
        intro w m' I hR hm' hS
        refine ⟨hO.ix d0 hat, ?_⟩
        refine ld_count (OwnD.src hO hS) d0 hat ?_
        intro _ _
        refine go_wr (by omega) (by omega) ?_
        refine ⟨hO.ix d0 hat, ?_⟩
        have hin1 : InI ((nth h at_).count + 1) := ⟨by omega, by omega⟩
        refine OwnD.store hO hS d0 hat (⟨(nth h at_).count + 1, (nth h at_).tag, (nth h at_).fields⟩ : CellD) [] (Nat.le_of_ble_eq_true rfl) (fun r K hr => ?_) ?_
        · obtain ⟨f, rfl, q1, q2, q3⟩ := hr
          exact ⟨K, ⟨f, rfl, hin1, q2, q3⟩, .inr ⟨rfl, rfl⟩⟩
        intro w2 I2 hO2 hS
        rw [List.append_nil] at hO2
        refine tail _ _ _ _ I2 I (by omega) hO2 hR hm' hS.to ⟨by simpa using hGl, fun c hc => ?_⟩
        rcases mem_set_of hc with hc | hc
        · have := hG.2 c hc; omega
        · rw [hc]; refine ⟨hcb.1, ?_⟩
          show (nth h at_).count + 1 ≤ _; omega
      refine ⟨hsub, ?_⟩
      refine go_oix hO2 d0 (by omega) ?_
      refine ld_int (Own.read hO2 hS) d0 (by omega) ?_
      intro _ _
      refine ⟨fun _ => ?_, fun _ => inc _ _ I1 hR (by omega) hS.to⟩
      refine Trip.mono' (c_pick (n := 2) hR hS (by omega) (by omega) (by omega)) ?_
      rintro _ w3 ⟨k3, I3, rfl, hR, hS, f0, f1, f2⟩
      exact ⟨_, rfl, fun _ => inc _ _ I3 hR (by omega) hS.to, fun _ => tail _ _ _ h J I3 (by omega) hO hR (by omega) hS.to (hG.le (by omega) (by omega))⟩
    · simp only [decide_eq_true_eq, decide_eq_false_iff_not, Bool.and_eq_true, Bool.and_eq_false_iff, Bool.or_eq_true, Bool.or_eq_false_iff, Bool.not_eq_true', Bool.not_eq_false', Bool.not_true, Bool.not_false, Bool.false_eq_true, Bool.true_eq_false, Int.not_lt, Int.not_le, ge_iff_le, gt_iff_lt, Bool.not_eq_eq_eq_not, Bool.true_or, Bool.or_true, Bool.false_or, Bool.or_false, Bool.true_and, Bool.and_true, false_or, or_false, true_and, and_true, Decidable.not_not] at hk
      refine Trip.mono' (c_pick (n := 7) hR hS (by omega) (by omega) (by omega)) ?_
      rintro _ w1 ⟨p1, I1, rfl, hR, hS, a0, a1, a2⟩
      refine ⟨_, rfl, ?_⟩
      refine Trip.mono' (c_pick (n := 7) hR hS (by omega) (by omega) (by omega)) ?_
      rintro _ w1 ⟨p2, I1, rfl, hR, hS, b0, b1, b2⟩
      refine ⟨_, rfl, ?_⟩
      refine St.build (α := Int) hS (by (repeat' (first | exact VsOf.nil | apply VsOf.cons | (apply VOf.int; first | assumption | (constructor <;> first | omega | (simp only [List.length_set, List.length_append, List.length_replicate, List.length_cons, List.length_nil, List.length_take, List.length_drop, List.length_map, List.length_singleton] at *; omega))) | exact VOf.bool | exact VOf.str))) rfl (by decide) ?_
      intro x4 w4 I4 hO4 hS hs
      refine ⟨_, rfl, ?_⟩
      refine Trip.mono' (c_one hR hO4 hS (by omega) (by simp) (by simp)) ?_
      rintro _ w5 ⟨k5, I5, rfl, hR, hS, hk5⟩
      have hki : InI k5 := by simp only [List.mem_cons, List.not_mem_nil, or_false] at hk5; omega
      refine ⟨_, rfl, ?_⟩
      refine Mk.usew (c_AllocCell (OwnD.read hO hS) (Own.read hZ hS) hki (by omega)) hS ?_
      rintro _ w6 J6 ⟨y6, rfl, hO6⟩ hS hsub
      refine ⟨_, _, rfl, ?_⟩
      have last : ∀ (x' : Sl) (h' : List CellD) (J' : Items), OwnD x' h' J' → St u w6 (J' ++ (I5 ++ R)) → GH h' (41 - n) (2000010 - 10 * n) →
          ((decide ((x'.n : Int) > 0)) = true →
            Trip Try.prog 56 #[.pointer (some (a.add 0)), .int .i64 4] w6 fun r w109 =>
              ∃ n110 : Int, r = .int .i64 n110 ∧
              ((decide (n110 = 0)) = true →
                Trip Try.prog 56 #[.pointer (some (a.add 0)), .int .i64 (x'.n : Int)] w109 fun r w112 =>
                  ∃ n113 : Int, r = .int .i64 n113 ∧
                  ∃ n114 : Int, Wr .i64 (1000 + n113) n114 ∧
                  Trip Try.prog 108 #[x'.val, .int .i64 n114] w112 fun r w116 =>
                    ∃ x117 : Sl, ∃ q118 : Bool, r = .tuple #[x117.val, .bool q118] ∧
                    (q118 = true → ∃ n119 : Int, Wr .i64 (n - 1) n119 ∧ InvO x117 n119 w116 ∧ n119.toNat < n.toNat) ∧
                    (q118 = false → ∃ n120 : Int, Wr .i64 (n - 1) n120 ∧ InvO x' n120 w116 ∧ n120.toNat < n.toNat)) ∧
              ((decide (n110 = 0)) = false → ∃ n121 : Int, Wr .i64 (n - 1) n121 ∧ InvO x' n121 w109 ∧ n121.toNat < n.toNat)) ∧
          ((decide ((x'.n : Int) > 0)) = false → ∃ n122 : Int, Wr .i64 (n - 1) n122 ∧ InvO x' n122 w6 ∧ n122.toNat < n.toNat) := by
        intro x' h' J' hO' hS hG'
        have hon' := hO'.n
        have hGl' := hG'.1
        refine ⟨fun hc => ?_, fun hc => ?_⟩
        · simp only [decide_eq_true_eq, decide_eq_false_iff_not, Bool.and_eq_true, Bool.and_eq_false_iff, Bool.or_eq_true, Bool.or_eq_false_iff, Bool.not_eq_true', Bool.not_eq_false', Bool.not_true, Bool.not_false, Bool.false_eq_true, Bool.true_eq_false, Int.not_lt, Int.not_le, ge_iff_le, gt_iff_lt, Bool.not_eq_eq_eq_not, Bool.true_or, Bool.or_true, Bool.false_or, Bool.or_false, Bool.true_and, Bool.and_true, false_or, or_false, true_and, and_true, Decidable.not_not] at hc
          refine Trip.mono' (c_pick (n := 4) hR hS (by omega) (by omega) (by omega)) ?_
          rintro _ w7 ⟨p3, I7, rfl, hR, hS, c0, c1, c2⟩
          refine ⟨_, rfl, fun hc3 => ?_, fun hc3 => ?_⟩
          · refine Trip.mono' (c_pick (n := x'.n) hR hS (by omega) (by omega) (by omega)) ?_
            rintro _ w8 ⟨p4, I8, rfl, hR, hS, d0, d1, d2⟩
            refine ⟨_, rfl, ?_⟩
            refine go_wr (by omega) (by omega) ?_
            refine Mk.usew (c_specDropWord (OwnD.read hO' hS) ⟨by omega, by omega⟩ (by omega)) hS ?_
            rintro _ w9 J9 ⟨y9, q9, h9, rfl, hO9, hF⟩ hS hsub
            refine ⟨_, _, rfl, fun hq => ?_, fun hq => ?_⟩
            · obtain ⟨hv0, hF⟩ := hF hq
              refine go_wr (by omega) (by omega) ?_
              refine ⟨⟨h9, J9, I8, hO9, hR.le (by omega), hS.to, by omega, by omega, by have := hF.1; omega, fun c hc => ?_⟩, by omega⟩
              rcases hF.2 c hc with ⟨g1, g2⟩ | ⟨c0, g1, g2, g3⟩
              · rw [g2]; exact ⟨by simp, by omega⟩
              · rw [g3]; exact ⟨vheap_len hv0 c0 g1, by have := (vheap_count hv0 c0 g1).2; omega⟩
            · refine go_wr (by omega) (by omega) ?_
              exact ⟨⟨h', J', I8, hO', hR.le (by omega), hS.to, by omega, by omega, hG'.le (by omega) (by omega)⟩, by omega⟩
          · refine go_wr (by omega) (by omega) ?_
            exact ⟨⟨h', J', I7, hO', hR.le (by omega), hS.to, by omega, by omega, hG'.le (by omega) (by omega)⟩, by omega⟩
        · refine go_wr (by omega) (by omega) ?_
          exact ⟨⟨h', J', I5, hO', hR.le (by omega), hS.to, by omega, by omega, hG'.le (by omega) (by omega)⟩, by omega⟩
      refine ⟨fun hc => last _ _ _ hO6 hS.to ?_, fun hc => last _ _ _ hO hS.to (hG.le (by omega) (by omega))⟩
      simp only [decide_eq_true_eq, decide_eq_false_iff_not, Bool.and_eq_true, Bool.and_eq_false_iff, Bool.or_eq_true, Bool.or_eq_false_iff, Bool.not_eq_true', Bool.not_eq_false', Bool.not_true, Bool.not_false, Bool.false_eq_true, Bool.true_eq_false, Int.not_lt, Int.not_le, ge_iff_le, gt_iff_lt, Bool.not_eq_eq_eq_not, Bool.true_or, Bool.or_true, Bool.false_or, Bool.or_false, Bool.true_and, Bool.and_true, false_or, or_false, true_and, and_true, Decidable.not_not] at hc
      rcases allocL_cases h k5 fs with e | ⟨e1, e2, e3, _⟩
      · rw [e] at hc; exact absurd hc (by decide)
      · exact (vheap_GH e1 (Int.le_refl _)).le (by omega) (by omega)
  · simp only [decide_eq_true_eq, decide_eq_false_iff_not, Bool.and_eq_true, Bool.and_eq_false_iff, Bool.or_eq_true, Bool.or_eq_false_iff, Bool.not_eq_true', Bool.not_eq_false', Bool.not_true, Bool.not_false, Bool.false_eq_true, Bool.true_eq_false, Int.not_lt, Int.not_le, ge_iff_le, gt_iff_lt, Bool.not_eq_eq_eq_not, Bool.true_or, Bool.or_true, Bool.false_or, Bool.or_false, Bool.true_and, Bool.and_true, false_or, or_false, true_and, and_true, Decidable.not_not] at hn
    refine ⟨fun _ => ?_, fun _ => ⟨_, h, J, I, rfl, hO, hR.le (by omega), hS, hG.le (by omega) (by omega)⟩⟩
    refine Trip.mono' (c_pick (n := 3) hR hS (by omega) (by omega) (by omega)) ?_
    rintro _ w1 ⟨p1, I1, rfl, hR, hS, a0, a1, a2⟩
    refine ⟨_, rfl, fun _ => ?_, fun _ => ⟨_, h, J, I1, rfl, hO, hR.le (by omega), hS.to, hG.le (by omega) (by omega)⟩⟩
    refine Trip.mono' (c_pick (n := 4) hR hS (by omega) (by omega) (by omega)) ?_
    rintro _ w1 ⟨p1, I1, rfl, hR, hS, a0, a1, a2⟩
    refine ⟨_, rfl, ?_⟩
    refine Mk.use (c_zeros (v := u) (n := p1) (by omega) (by omega)) hS ?_
    rintro _ w2 J2 ⟨z, rfl, hZ⟩ hS hsub
    refine ⟨_, rfl, ?_⟩
    refine St.buildR hS ?_ ?_ ?_ ?_
    · simp [Value.cells]
    · rfl
    · decide
    intro x3 w3 I3 hB hS hs _
    refine ⟨_, rfl, ?_⟩
    refine OwnD.push' (a := (⟨-1, 0, List.replicate p1.toNat (0 : Int)⟩ : CellD)) hO hS (hB.rd hS.items) ⟨z, rfl, neg_in, zero_in, hZ.toAll⟩ (by omega) (by decide) ?_
    intro x4 w4 I4 hO4 hS
    refine ⟨_, rfl, _, _, I4, I1, rfl, hO4, hR.le (by omega), hS.to, by simp; omega, fun c hc => ?_⟩
    rcases List.mem_append.1 hc with hc | hc
    · have := hG.2 c hc; omega
    · rw [List.mem_singleton.1 hc]; exact ⟨by simp; omega, by show (-1 : Int) ≤ _; omega⟩
end
end Go.Vc
