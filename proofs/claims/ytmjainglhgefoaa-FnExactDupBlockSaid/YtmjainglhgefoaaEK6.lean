/- Part of the proofs about the heaps and memories: a law is joined in the text whose name ends in W and the law. -/
import Derived.Test.YtmjainglhgefoaaEK5
namespace Go.Vc
open Go Go.Proofs Go.RowKit
set_option linter.all false
theorem dupR_len {m : MemD} {n : Int} (hl : m.words.length ≤ 100000000) : (dupR m n).words.length ≤ 100000000 := by
  by_cases hd : dupOk m n
  · rw [dupR_t hd]; unfold dupM; split
    · simpa using hl
    · exact hl
  · rw [dupR_f hd]; exact Nat.zero_le _

theorem l_ExactDupBlock {v : World} {x y : Sl} {m : MemD} {n : Int} (hx : ReadB BM v x m.words) (hy : ReadB BM v y m.free) (hn : InI n) :
    Trip Try.prog 6 #[.agg #[x.val, y.val], .int .i64 n] v fun r v' => r = .bool true ∧ Sub v v' := by
  refine of6 _ _ _ _ _ ?_
  unfold vc6
  refine ⟨_, c_szMemory (b := 1048576) hx hy (by omega) (by omega), fun hc => ⟨rfl, .refl v⟩, fun hc => ?_⟩
  simp only [decide_eq_true_eq, decide_eq_false_iff_not, Bool.and_eq_true, Bool.and_eq_false_iff, Bool.or_eq_true, Bool.or_eq_false_iff, Bool.not_eq_true', Bool.not_eq_false', Bool.not_true, Bool.not_false, Bool.false_eq_true, Bool.true_eq_false, Int.not_lt, Int.not_le, ge_iff_le, gt_iff_lt, Bool.not_eq_eq_eq_not, Bool.true_or, Bool.or_true, Bool.false_or, Bool.or_false, Bool.true_and, Bool.and_true, false_or, or_false, true_and, and_true, Decidable.not_not] at hc
  obtain ⟨b1, b2⟩ := szM_le hc
  replace hx : Read v x m.words := hx.toInts (by show m.words.length ≤ 1099511627776; omega)
  replace hy : Read v y m.free := hy.toInts (by show m.free.length ≤ 1099511627776; omega)
  have hl2 : m.words.length ≤ 100000000 := by omega
  have hposA := endM_pos m
  have hlR := dupR_len (n := n) hl2
  have hposR := endM_pos (dupR m n)
  refine Mk.use (c_toMemory hx hy) (.refl v) ?_
  rintro _ w1 _ ⟨x2, x3, J4, J5, rfl, h6, h7, rfl⟩ hS hsub
  replace hS : St v w1 (J4 ++ (J5 ++ [])) := hS.perm (by
    classical
    exact List.perm_iff_count.2 fun a => by (try simp only [List.count_append, List.count_nil]) <;> omega)
  refine ⟨_, _, rfl, ?_⟩
  replace hS : St v w1 ((J4 ++ (J5 ++ [])) ++ ([])) := hS.perm (by
    classical
    exact List.perm_iff_count.2 fun a => by (try simp only [List.count_append, List.count_nil]) <;> omega)
  obtain ⟨u8, hsu8, hS, hJ⟩ := hS.freeze (J4 ++ (J5 ++ []))
  have r9 : Read u8 x2 (m.words) := OwnI.read1 (u := v) h6 (hJ.to : St v u8 (J4 ++ [])).left
  have r10 : Read u8 x3 (m.free) := OwnI.read1 (u := v) h7 (hJ.to : St v u8 (J5 ++ [])).left
  clear hJ
  refine Mk.use (c_specDupBlock r9 r10 hn) hS ?_
  rintro _ w17 _ ⟨x11, x12, J15, J16, rfl, h13, h14, rfl⟩ hS hsub
  replace hS : St u8 w17 (J15 ++ (J16 ++ [])) := hS.perm (by
    classical
    exact List.perm_iff_count.2 fun a => by (try simp only [List.count_append, List.count_nil]) <;> omega)
  replace hS : St u8 w17 ((J15 ++ (J16 ++ [])) ++ ([])) := hS.perm (by
    classical
    exact List.perm_iff_count.2 fun a => by (try simp only [List.count_append, List.count_nil]) <;> omega)
  obtain ⟨u18, hsu18, hS, hJ⟩ := hS.freeze (J15 ++ (J16 ++ []))
  have r19 : Read u18 x11 ((dupR m n).words) := OwnI.read1 (u := u8) h13 (hJ.to : St u8 u18 (J15 ++ [])).left
  have r20 : Read u18 x12 ((dupR m n).free) := OwnI.read1 (u := u8) h14 (hJ.to : St u8 u18 (J16 ++ [])).left
  clear hJ
  have hvu : Sub v u18 := hsu8.trans hsu18
  replace hx := hx.mono hvu
  replace hy := hy.mono hvu
  refine ⟨_, _, _, rfl, ?_⟩
  refine Mk.use (c_toMemory hx hy) hS ?_
  rintro _ w21 _ ⟨x22, x23, J24, J25, rfl, h26, h27, rfl⟩ hS hsub
  replace hS : St u18 w21 (J24 ++ (J25 ++ [])) := hS.perm (by
    classical
    exact List.perm_iff_count.2 fun a => by (try simp only [List.count_append, List.count_nil]) <;> omega)
  refine ⟨_, _, rfl, ?_⟩
  refine Mk.usew (c_implDupBlock (m := m) (OwnI.read h26 hS) (OwnI.read h27 hS) hn) hS ?_
  rintro _ w34 _ ⟨x28, x29, J32, J33, rfl, h30, h31, rfl⟩ hS hsub
  replace hS : St u18 w34 (J32 ++ (J33 ++ (J24 ++ (J25 ++ [])))) := hS.perm (by
    classical
    exact List.perm_iff_count.2 fun a => by (try simp only [List.count_append, List.count_nil]) <;> omega)
  refine ⟨_, _, _, rfl, _, c_eqMemory (m := (dupR m n)) (m' := (dupR m n)) (OwnI.read h30 hS) (OwnI.read h31 hS) (r19.mono hS.sub) (r20.mono hS.sub), fun hc => ?_, fun _ => ?_⟩
  · simp [eqMB_refl] at hc
  refine Mk.use (c_toMemory hx hy) hS ?_
  rintro _ w35 _ ⟨x36, x37, J38, J39, rfl, h40, h41, rfl⟩ hS hsub
  replace hS : St u18 w35 (J38 ++ (J39 ++ (J32 ++ (J33 ++ (J24 ++ (J25 ++ [])))))) := hS.perm (by
    classical
    exact List.perm_iff_count.2 fun a => by (try simp only [List.count_append, List.count_nil]) <;> omega)
  refine ⟨_, _, rfl, hsub, _, c_eqMemory (m := m) (m' := m) (OwnI.read h26 hS) (OwnI.read h27 hS) (OwnI.read h40 hS) (OwnI.read h41 hS), fun hc => ?_, fun _ => ?_⟩
  · simp [eqMB_refl] at hc
  replace hS : St u18 w35 (J32 ++ (J33 ++ (J24 ++ (J25 ++ [])))) := hS.to
  replace hS : St u18 w35 (J24 ++ (J25 ++ (J32 ++ (J33 ++ [])))) := hS.perm (by
    classical
    exact List.perm_iff_count.2 fun a => by (try simp only [List.count_append, List.count_nil]) <;> omega)
  refine Trip.mono' (c_markMemory (m := m) h26 h27 hS hl2) ?_
  rintro _ w46 ⟨J42, J43, rfl, h44, h45, hS⟩
  refine ⟨_, rfl, _, fun _ => c_eqMemory (m := (dupR m n)) (m' := (dupR m n)) (OwnI.read h30 hS) (OwnI.read h31 hS) (r19.mono hS.sub) (r20.mono hS.sub), fun hc => ?_, fun _ => ?_⟩
  · simp [eqMB_refl] at hc
    omega
  replace hS : St u18 w46 (J32 ++ (J33 ++ [])) := hS.to
  replace hS : St u18 w46 (J32 ++ (J33 ++ [])) := hS.perm (by
    classical
    exact List.perm_iff_count.2 fun a => by (try simp only [List.count_append, List.count_nil]) <;> omega)
  refine Trip.mono' (c_markMemory (m := (dupR m n)) h30 h31 hS hlR) ?_
  rintro _ w51 ⟨J47, J48, rfl, h49, h50, hS⟩
  refine ⟨_, rfl, _, c_heldMemory (m := (dupR m n)) (OwnI.read h49 hS) (OwnI.read h50 hS) hlR, fun hc => ?_, fun _ => ⟨fun hc => ?_, fun _ => ?_⟩⟩
  · simp only [decide_eq_true_eq, decide_eq_false_iff_not, Bool.and_eq_true, Bool.and_eq_false_iff, Bool.or_eq_true, Bool.or_eq_false_iff, Bool.not_eq_true', Bool.not_eq_false', Bool.not_true, Bool.not_false, Bool.false_eq_true, Bool.true_eq_false, Int.not_lt, Int.not_le, ge_iff_le, gt_iff_lt, Bool.not_eq_eq_eq_not, Bool.true_or, Bool.or_true, Bool.false_or, Bool.or_false, Bool.true_and, Bool.and_true, false_or, or_false, true_and, and_true, Decidable.not_not] at hc; omega
  · simp at hc
  refine Mk.use (c_toMemory hx hy) hS ?_
  rintro _ w52 _ ⟨x53, x54, J55, J56, rfl, h57, h58, rfl⟩ hS hsub
  replace hS : St u18 w52 (J55 ++ (J56 ++ (J47 ++ (J48 ++ [])))) := hS.perm (by
    classical
    exact List.perm_iff_count.2 fun a => by (try simp only [List.count_append, List.count_nil]) <;> omega)
  refine ⟨_, _, rfl, ?_⟩
  refine Mk.usew (c_implDupBlock (m := m) (OwnI.read h57 hS) (OwnI.read h58 hS) hn) hS ?_
  rintro _ w65 _ ⟨x59, x60, J63, J64, rfl, h61, h62, rfl⟩ hS hsub
  replace hS : St u18 w65 (J63 ++ (J64 ++ (J55 ++ (J56 ++ (J47 ++ (J48 ++ [])))))) := hS.perm (by
    classical
    exact List.perm_iff_count.2 fun a => by (try simp only [List.count_append, List.count_nil]) <;> omega)
  refine ⟨_, _, _, rfl, _, c_eqMemory (m := (dupR m n)) (m' := (dupR m n)) (OwnI.read h61 hS) (OwnI.read h62 hS) (r19.mono hS.sub) (r20.mono hS.sub), fun hc => ?_, fun _ => ?_⟩
  · simp [eqMB_refl] at hc
  refine ⟨_, c_heldMemory (m := (dupR m n)) (OwnI.read h49 hS) (OwnI.read h50 hS) hlR, fun hc => ?_, fun _ => ⟨fun hc => ?_, fun _ => ⟨rfl, hvu.trans hS.sub⟩⟩⟩
  · simp only [decide_eq_true_eq, decide_eq_false_iff_not, Bool.and_eq_true, Bool.and_eq_false_iff, Bool.or_eq_true, Bool.or_eq_false_iff, Bool.not_eq_true', Bool.not_eq_false', Bool.not_true, Bool.not_false, Bool.false_eq_true, Bool.true_eq_false, Int.not_lt, Int.not_le, ge_iff_le, gt_iff_lt, Bool.not_eq_eq_eq_not, Bool.true_or, Bool.or_true, Bool.false_or, Bool.or_false, Bool.true_and, Bool.and_true, false_or, or_false, true_and, and_true, Decidable.not_not] at hc; omega
  · simp at hc
end Go.Vc
