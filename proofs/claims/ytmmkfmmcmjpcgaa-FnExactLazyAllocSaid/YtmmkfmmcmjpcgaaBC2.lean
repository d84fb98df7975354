/- Part of the proofs about the heaps: a law is joined in the text whose name ends in W and the law. -/
import Derived.Test.YtmmkfmmcmjpcgaaBHp
import Derived.Test.YtmmkfmmcmjpcgaaBC1
namespace Go.Vc
open Go Go.Proofs Go.RowKit
set_option linter.all false

instance : SlT Try.prog 23 3 40 [intV 0, intV 0, .slice none 0 0] := .of (by kernel_rfl) rfl (by decide)
instance : SlT Try.prog 69 1 1 [.bool false] := .of (by kernel_rfl) rfl (by decide)

section
variable {u v w : World} {x y : Sl} {l m : List Int} {h : List CellD} {n k : Int} {a : Addr} {I J L R : Items} {F : Items → Items}

theorem c_newReader {code : List UInt8} (hx : Read v x code) : Mk Try.prog 53 #[x.val] v fun r J => ∃ a, r = .pointer (some (a.add 0)) ∧ Rdr v a 0 J := by
  refine of53 _ _ _ ?_
  unfold vc53
  have hn := hx.n
  refine ⟨fun hc => ⟨?_, ?_⟩, fun hc => ?_⟩
  · simp only [decide_eq_true_eq, decide_eq_false_iff_not, Bool.and_eq_true, Bool.and_eq_false_iff, Bool.or_eq_true, Bool.or_eq_false_iff, Bool.not_eq_true', Bool.not_eq_false', Bool.not_true, Bool.not_false, Bool.false_eq_true, Bool.true_eq_false, Int.not_lt, Int.not_le, ge_iff_le, gt_iff_lt, Bool.not_eq_eq_eq_not, Bool.true_or, Bool.or_true, Bool.false_or, Bool.or_false, Bool.true_and, Bool.and_true, false_or, or_false, true_and, and_true, Decidable.not_not] at hc
    obtain ⟨_, h, _⟩ := hx
    have := h.2.1
    exact ⟨by omega, by omega, by omega⟩
  · simp only [decide_eq_true_eq, decide_eq_false_iff_not, Bool.and_eq_true, Bool.and_eq_false_iff, Bool.or_eq_true, Bool.or_eq_false_iff, Bool.not_eq_true', Bool.not_eq_false', Bool.not_true, Bool.not_false, Bool.false_eq_true, Bool.true_eq_false, Int.not_lt, Int.not_le, ge_iff_le, gt_iff_lt, Bool.not_eq_eq_eq_not, Bool.true_or, Bool.or_true, Bool.false_or, Bool.or_false, Bool.true_and, Bool.and_true, false_or, or_false, true_and, and_true, Decidable.not_not] at hc
    refine St.box (vals := [(x.cut 0 2000 1).val, .int .i64 0]) (.refl v) fun a w I hC hS hs => ?_
    have := hx.cut (lo := 0) (hi := 2000) (by omega) (by omega) (by omega)
    exact ⟨I, by simpa using hS, a, rfl, _, _, 0, hC, this, by simp; omega, by omega, by omega⟩
  · simp only [decide_eq_true_eq, decide_eq_false_iff_not, Bool.and_eq_true, Bool.and_eq_false_iff, Bool.or_eq_true, Bool.or_eq_false_iff, Bool.not_eq_true', Bool.not_eq_false', Bool.not_true, Bool.not_false, Bool.false_eq_true, Bool.true_eq_false, Int.not_lt, Int.not_le, ge_iff_le, gt_iff_lt, Bool.not_eq_eq_eq_not, Bool.true_or, Bool.or_true, Bool.false_or, Bool.or_false, Bool.true_and, Bool.and_true, false_or, or_false, true_and, and_true, Decidable.not_not] at hc
    refine St.box (vals := [x.val, .int .i64 0]) (.refl v) fun a w I hC hS hs => ?_
    exact ⟨I, by simpa using hS, a, rfl, _, _, 0, hC, hx, by omega, by omega, by omega⟩

theorem c_one {m : Int} {l : List Int} (hr : Rdr u a m I) (hO : Own u x l J) (hS : St u w (J ++ L)) [p : Pos I L R F] (hm : m ≤ 1000000000) (hl : 0 < l.length) (hl2 : l.length ≤ 1000000) :
    Trip Try.prog 83 #[.pointer (some (a.add 0)), x.val] w fun r w' => ∃ k I', r = .int .i64 k ∧ Rdr u a (m + 1) I' ∧ St u w' (I' ++ R) ∧ k ∈ l := by
  refine of83 _ _ _ _ ?_
  unfold vc83
  have hn := hO.n
  refine Trip.mono' (c_pick (n := x.n) hr hS hm (by omega) (by omega)) ?_
  rintro _ w1 ⟨k, I1, rfl, hR, hS, hk0, hk1, hk2⟩
  refine ⟨_, rfl, ?_⟩
  refine go_oix hO hk0 (by omega) ?_
  refine ld_int (Own.read hO hS) hk0 (by omega) ?_
  intro b0 b1
  exact ⟨_, I1, rfl, hR, hS.to, nth_mem hk0 (by omega)⟩

theorem c_spoilInts {m : Int} {l : List Int} (hr : Rdr u a m I) (hx : Read w x l) (hS : St u w L) [p : Pos I L R F] (hm : m ≤ 999999990) (hl : l.length ≤ 1000000) :
    Trip Try.prog 88 #[.pointer (some (a.add 0)), x.val] w fun r w' => ∃ y, ∃ (l' : List Int), ∃ J I', r = y.val ∧ Own u y l' J ∧ Rdr u a (m + 3) I' ∧ St u w' (J ++ (I' ++ R)) ∧ l'.length ≤ l.length + 1 := by
  replace hS := hS.front (I := I)
  refine of88 _ _ _ _ ?_
  unfold vc88
  refine Mk.usew (c_copyInts hx) hS ?_
  rintro _ w1 J1 ⟨y, rfl, hO⟩ hS hsub
  replace hO : Own u y l J1 := hO.ofInts
  have hn := hO.n
  refine ⟨_, rfl, ?_⟩
  have tail : ∀ (w : World) (I : Items) (m' : Int), Rdr u a m' I → St u w (I ++ (J1 ++ R)) → m' ≤ m + 1 →
    StepT Try.prog (Instr.buildSlice 26 5 #[(0, .int .i64 0), (1, .int .i64 1), (2, .int .i64 2), (3, .int .i64 (-1)), (4, .int .i64 1000)]) w fun r17 w18 =>
      ∃ x19 : Sl, r17 = x19.val ∧ Trip Try.prog 83 #[.pointer (some (a.add 0)), x19.val] w18 fun r20 w21 =>
        ∃ n22 : Int, r20 = .int .i64 n22 ∧ StepT Try.prog (Instr.buildSlice 26 1 #[(0, .int .i64 n22)]) w21 fun r23 w24 =>
          ∃ x25 : Sl, r23 = x25.val ∧ StepT Try.prog (Builtin.append_ #[26, 26] 26 #[y.val, x25.val]) w24 fun r26 w27 =>
            ∃ x28 : Sl, r26 = x28.val ∧ ∃ y, ∃ (l' : List Int), ∃ J I', x28.val = y.val ∧ Own u y l' J ∧ Rdr u a (m + 3) I' ∧ St u w27 (J ++ (I' ++ R)) ∧ l'.length ≤ l.length + 1 := by
    intro w I m' hR hS hm'
    refine St.build (α := Int) hS (by (repeat' (first | exact VsOf.nil | apply VsOf.cons | (apply VOf.int; first | assumption | (constructor <;> first | omega | (simp only [List.length_set, List.length_append, List.length_replicate, List.length_cons, List.length_nil, List.length_take, List.length_drop, List.length_map, List.length_singleton] at *; omega))) | exact VOf.bool | exact VOf.str))) rfl (by decide) ?_
    intro x1 w1 I1 hO1 hS hs
    refine ⟨_, rfl, ?_⟩
    refine Trip.mono' (c_one hR hO1 hS (by omega) (by simp) (by simp)) ?_
    rintro _ w2 ⟨k, I2, rfl, hR, hS, hk⟩
    refine ⟨_, rfl, ?_⟩
    have hki : InI k := by simp only [List.mem_cons, List.not_mem_nil, or_false] at hk; omega
    refine St.build (α := Int) hS (by (repeat' (first | exact VsOf.nil | apply VsOf.cons | (apply VOf.int; first | assumption | (constructor <;> first | omega | (simp only [List.length_set, List.length_append, List.length_replicate, List.length_cons, List.length_nil, List.length_take, List.length_drop, List.length_map, List.length_singleton] at *; omega))) | exact VOf.bool | exact VOf.str))) rfl (by decide) ?_
    intro x3 w3 I3 hO3 hS hs
    refine ⟨_, rfl, ?_⟩
    refine Own.append hO hS (hO3.src hS) (by simp; omega) (by decide) ?_
    intro x4 w4 I4 hO4 hS
    exact ⟨_, rfl, _, _, I4, I2, rfl, hO4, hR.le (by omega), hS.to, by simp⟩
  refine ⟨fun hc => ?_, fun hc => tail _ _ _ hr hS.to (by omega)⟩
  simp only [decide_eq_true_eq, decide_eq_false_iff_not, Bool.and_eq_true, Bool.and_eq_false_iff, Bool.or_eq_true, Bool.or_eq_false_iff, Bool.not_eq_true', Bool.not_eq_false', Bool.not_true, Bool.not_false, Bool.false_eq_true, Bool.true_eq_false, Int.not_lt, Int.not_le, ge_iff_le, gt_iff_lt, Bool.not_eq_eq_eq_not, Bool.true_or, Bool.or_true, Bool.false_or, Bool.or_false, Bool.true_and, Bool.and_true, false_or, or_false, true_and, and_true, Decidable.not_not] at hc
  refine Trip.mono' (c_pick (n := 2) hr hS (by omega) (by omega) (by omega)) ?_
  rintro _ w2 ⟨k, I2, rfl, hR, hS, hk0, hk1, hk2⟩
  refine ⟨_, rfl, fun hc => ?_, fun hc => tail _ _ _ hR hS.to (by omega)⟩
  refine Trip.mono' (c_pick (n := y.n) hR hS (by omega) (by omega) (by omega)) ?_
  rintro _ w3 ⟨k3, I3, rfl, hR, hS, hk0, hk1, hk2⟩
  refine ⟨_, rfl, ?_⟩
  refine St.build (α := Int) hS (by (repeat' (first | exact VsOf.nil | apply VsOf.cons | (apply VOf.int; first | assumption | (constructor <;> first | omega | (simp only [List.length_set, List.length_append, List.length_replicate, List.length_cons, List.length_nil, List.length_take, List.length_drop, List.length_map, List.length_singleton] at *; omega))) | exact VOf.bool | exact VOf.str))) rfl (by decide) ?_
  intro x4 w4 I4 hO4 hS hs
  refine ⟨_, rfl, ?_⟩
  refine Trip.mono' (c_one hR hO4 hS (by omega) (by simp) (by simp)) ?_
  rintro _ w5 ⟨k5, I5, rfl, hR, hS, hk⟩
  have hki : InI k5 := by simp only [List.mem_cons, List.not_mem_nil, or_false] at hk; omega
  refine ⟨_, rfl, ?_⟩
  refine go_oix hO (by omega) (by omega) ?_
  refine st_int hO hS (by omega) (by omega) hki ?_
  intro w6 I6 hO6 hS
  exact ⟨_, _, I6, I5, rfl, hO6, hR.le (by omega), hS.to, by simp⟩

theorem c_wordFor {m : Int} (hr : Rdr u a m I) (hS : St u w L) [p : Pos I L R F] (hm : m ≤ 999999990) (h0 : 0 ≤ n) (h1 : n ≤ 1000000) :
    Trip Try.prog 57 #[.pointer (some (a.add 0)), .int .i64 n] w fun r w' => ∃ k I', r = .int .i64 k ∧ InI k ∧ Rdr u a (m + 5) I' ∧ St u w' (I' ++ R) := by
  replace hS := hS.front (I := I)
  refine of57 _ _ _ _ ?_
  unfold vc57
  refine go_max ?_
  refine Trip.mono' (c_pick (n := max 1 n) hr hS (by omega) (by omega) (by omega)) ?_
  rintro _ w1 ⟨k1, I1, rfl, hR, hS, a0, a1, a2⟩
  refine ⟨_, rfl, ?_⟩
  refine go_wr (by omega) (by omega) ?_
  refine go_max ?_
  refine Trip.mono' (c_pick (n := max 1 n) hR hS (by omega) (by omega) (by omega)) ?_
  rintro _ w1 ⟨k2, I1, rfl, hR, hS, b0, b1, b2⟩
  refine ⟨_, rfl, ?_⟩
  refine go_wr (by omega) (by omega) ?_
  refine go_max ?_
  refine Trip.mono' (c_pick (n := max 1 n) hR hS (by omega) (by omega) (by omega)) ?_
  rintro _ w1 ⟨k3, I1, rfl, hR, hS, c0, c1, c2⟩
  refine ⟨_, rfl, ?_⟩
  refine go_wr (by omega) (by omega) ?_
  refine Trip.mono' (c_pick (n := 30) hR hS (by omega) (by omega) (by omega)) ?_
  rintro _ w1 ⟨k4, I1, rfl, hR, hS, d0, d1, d2⟩
  refine ⟨_, rfl, ?_⟩
  refine go_wr (by omega) (by omega) ?_
  refine go_wr (by omega) (by omega) ?_
  refine St.build (α := Int) hS (by (repeat' (first | exact VsOf.nil | apply VsOf.cons | (apply VOf.int; first | assumption | (constructor <;> first | omega | (simp only [List.length_set, List.length_append, List.length_replicate, List.length_cons, List.length_nil, List.length_take, List.length_drop, List.length_map, List.length_singleton] at *; omega))) | exact VOf.bool | exact VOf.str))) rfl (by decide) ?_
  intro x4 w4 I4 hO4 hS hs
  refine ⟨_, rfl, ?_⟩
  refine Trip.mono' (c_one hR hO4 hS (by omega) (by simp) (by simp)) ?_
  rintro _ w5 ⟨k5, I5, rfl, hR, hS, hk⟩
  refine ⟨_, rfl, k5, I5, rfl, ?_, hR.le (by omega), hS⟩
  simp only [List.mem_cons, List.not_mem_nil, or_false] at hk; omega
end
end Go.Vc
