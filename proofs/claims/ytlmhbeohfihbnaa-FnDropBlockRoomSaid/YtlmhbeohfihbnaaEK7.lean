/- Part of the proofs about the heaps and memories: a law is joined in the text whose name ends in W and the law. -/
import Derived.Test.YtlmhbeohfihbnaaEK6
import Derived.Test.YtlmhbeohfihbnaaEGb
namespace Go.Vc
open Go Go.Proofs Go.RowKit
set_option linter.all false
section
variable {u v w : World} {x y xf xg z s t : Sl} {mp : Vl} {l ws fs ad list free todo : List Int} {h g : List CellD} {m m' : MemD} {b n k f e q c tag : Int} {N i : Nat} {a : Addr} {I J K L R R1 : Items} {F F1 : Items → Items}

theorem hasB_mem (h : hasB ws = true) : ∀ a ∈ adrs ws, 0 ≤ a ∧ a < ws.length := by
  obtain ⟨N, hN⟩ := hasB_iff.1 h
  rw [adrs_eq hN]
  intro a ha
  have h1 := hN.ok ha
  have h2 := adr_nn ha
  have := h1.1
  omega

theorem c_blockFor (hr : Rdr u a q I) (hx : Read w x ws) (hS : St u w L) [p : Pos I L R F] (hq : q ≤ 999999000) (hl : ws.length ≤ 1000000) :
    Trip Try.prog 29 #[.pointer (some (a.add 0)), .agg #[x.val, y.val]] w fun r w' => ∃ k I', r = .int .i64 k ∧ InI k ∧ Rdr u a (q + 5) I' ∧ St u w' (I' ++ R) := by
  replace hS := hS.front (I := I)
  refine of29 _ _ _ _ _ ?_
  unfold vc29
  have hR := hr
  refine Mk.usew (c_addressesOfB hx) hS ?_
  rintro _ w1 J ⟨y', rfl, hb, hnb⟩ hS hsub
  refine ⟨_, _, rfl, fun hc => ?_, fun hc => ?_⟩
  · have hB : hasB ws = true := by
      cases e : hasB ws with
      | true => rfl
      | false => rw [hnb e] at hc; simp at hc
    have hO : Own u y' (adrs ws) J := (hb hB).ofInts
    have hm := hasB_mem hB
    have hyn := hO.n
    have hyl : (adrs ws).length ≤ 1000000 := by
      obtain ⟨N, hN⟩ := hasB_iff.1 hB
      rw [adrs_eq hN, adr_len]
      have := hN.le
      omega
    simp only [decide_eq_true_eq, decide_eq_false_iff_not, Bool.and_eq_true, Bool.and_eq_false_iff, Bool.or_eq_true, Bool.or_eq_false_iff, Bool.not_eq_true', Bool.not_eq_false', Bool.not_true, Bool.not_false, Bool.false_eq_true, Bool.true_eq_false, Int.not_lt, Int.not_le, ge_iff_le, gt_iff_lt, Bool.not_eq_eq_eq_not, Bool.true_or, Bool.or_true, Bool.false_or, Bool.or_false, Bool.true_and, Bool.and_true, false_or, or_false, true_and, and_true, Decidable.not_not] at hc
    refine Trip.mono' (c_pick (n := 4) hR hS (by omega) (by omega) (by omega)) ?_
    rintro _ w2 ⟨k2, I2, rfl, hR, hS, a0, a1, a2⟩
    refine ⟨_, rfl, fun hd => ?_, fun hd => ?_⟩
    · refine Trip.mono' (c_pick (n := y'.n) hR hS (by omega) (by omega) (by omega)) ?_
      rintro _ w3 ⟨k3, I3, rfl, hR, hS, b0, b1, b2⟩
      have hk3 : k3 < (adrs ws).length := by omega
      have hin := hm _ (nth_mem b0 hk3)
      refine ⟨_, rfl, ?_⟩
      refine go_oix hO b0 hk3 ?_
      refine ld_int (Own.read hO hS) b0 hk3 ?_
      intro e0 e1
      refine go_wr (by omega) (by omega) ?_
      exact ⟨_, I3, rfl, ⟨by omega, by omega⟩, hR.le (by omega), hS.to⟩
    · (refine Trip.mono' (c_pick (n := 30) hR hS (by omega) (by omega) (by omega)) ?_; rintro _ w5 ⟨k5, I5, rfl, hR, hS, b0, b1, b2⟩; refine ⟨_, rfl, ?_⟩; refine go_wr (by omega) (by omega) ?_; refine Trip.mono' (c_pick (n := 9) hR hS (by omega) (by omega) (by omega)) ?_; rintro _ w6 ⟨k6, I6, rfl, hR, hS, d0, d1, d2⟩; refine ⟨_, rfl, ?_⟩; refine go_wr (by omega) (by omega) ?_; refine St.build (α := Int) hS (by (repeat' (first | exact VsOf.nil | apply VsOf.cons | (apply VOf.int; first | assumption | (constructor <;> first | omega | (simp only [List.length_set, List.length_append, List.length_replicate, List.length_cons, List.length_nil, List.length_take, List.length_drop, List.length_map, List.length_singleton] at *; omega))) | exact VOf.bool | exact VOf.str))) rfl (by decide) ?_; intro x4 w4 I4 hO4 hS hs; refine ⟨_, rfl, ?_⟩; refine Trip.mono' (c_one hR hO4 hS (by omega) (by simp) (by simp)) ?_; rintro _ w7 ⟨k7, I7, rfl, hR, hS, hk⟩; simp only [List.mem_cons, List.not_mem_nil, or_false] at hk; exact ⟨_, rfl, k7, I7, rfl, ⟨by omega, by omega⟩, hR.le (by omega), hS.to⟩)
  · (refine Trip.mono' (c_pick (n := 30) hR hS (by omega) (by omega) (by omega)) ?_; rintro _ w5 ⟨k5, I5, rfl, hR, hS, b0, b1, b2⟩; refine ⟨_, rfl, ?_⟩; refine go_wr (by omega) (by omega) ?_; refine Trip.mono' (c_pick (n := 9) hR hS (by omega) (by omega) (by omega)) ?_; rintro _ w6 ⟨k6, I6, rfl, hR, hS, d0, d1, d2⟩; refine ⟨_, rfl, ?_⟩; refine go_wr (by omega) (by omega) ?_; refine St.build (α := Int) hS (by (repeat' (first | exact VsOf.nil | apply VsOf.cons | (apply VOf.int; first | assumption | (constructor <;> first | omega | (simp only [List.length_set, List.length_append, List.length_replicate, List.length_cons, List.length_nil, List.length_take, List.length_drop, List.length_map, List.length_singleton] at *; omega))) | exact VOf.bool | exact VOf.str))) rfl (by decide) ?_; intro x4 w4 I4 hO4 hS hs; refine ⟨_, rfl, ?_⟩; refine Trip.mono' (c_one hR hO4 hS (by omega) (by simp) (by simp)) ?_; rintro _ w7 ⟨k7, I7, rfl, hR, hS, hk⟩; simp only [List.mem_cons, List.not_mem_nil, or_false] at hk; exact ⟨_, rfl, k7, I7, rfl, ⟨by omega, by omega⟩, hR.le (by omega), hS.to⟩)

/-- the memory that is being made -/
def GM (u : World) (a : Addr) (q c : Int) (R : Items) (x y : Sl) (w : World) : Prop := ∃ (m : MemD) (I J K : Items), OwnI x m.words J ∧ OwnI y m.free K ∧ Rdr u a q I ∧ St u w (J ++ (K ++ (I ++ R))) ∧ m.words.length ≤ c ∧ m.free.length = 4
theorem GM.le {q' c' : Int} (h : GM u a q c R x y w) (hq : q ≤ q') (hc : c ≤ c') : GM u a q' c' R x y w :=
  let ⟨m, I, J, K, h1, h2, h3, h4, h5, h6⟩ := h; ⟨m, I, J, K, h1, h2, h3.le hq, h4, by omega, h6⟩
theorem GM.pick {P : Int → World → Prop} (g : GM u a q c R x y w) (hq : q ≤ 999999000) (h1 : 1 ≤ n) (h2 : n ≤ 1000) (k : ∀ j w', GM u a (q + 1) c R x y w' → 0 ≤ j → j < n → P j w') :
    Trip Try.prog 62 #[.pointer (some (a.add 0)), .int .i64 n] w fun r w' => ∃ j, r = .int .i64 j ∧ P j w' := by
  obtain ⟨m, I, J, K, hO, hP, hR, hS, h5, h6⟩ := g
  refine Trip.mono' (c_pick (n := n) hR hS (by omega) (by omega) (by omega)) ?_
  rintro _ w1 ⟨j, I1, rfl, hR, hS, b0, b1, b2⟩
  exact ⟨_, rfl, k j w1 ⟨m, I1, J, K, hO, hP, hR, hS.to, h5, h6⟩ b0 (b1 h1)⟩
theorem GM.bf {P : Int → World → Prop} (g : GM u a q c R x y w) (hq : q ≤ 999999000) (hc : c ≤ 1000) (k : ∀ j w', InI j → GM u a (q + 5) c R x y w' → P j w') :
    Trip Try.prog 29 #[.pointer (some (a.add 0)), .agg #[x.val, y.val]] w fun r w' => ∃ j, r = .int .i64 j ∧ P j w' := by
  obtain ⟨m, I, J, K, hO, hP, hR, hS, h5, h6⟩ := g
  refine Trip.mono' (c_blockFor hR (hO.read hS) hS hq (by omega)) ?_
  rintro _ w1 ⟨j, I1, rfl, hj, hR, hS⟩
  exact ⟨_, rfl, k j w1 hj ⟨m, I1, J, K, hO, hP, hR, hS.to, h5, h6⟩⟩
theorem GM.dup {P : Sl → Sl → Bool → World → Prop} (g : GM u a q c R x y w) (hn : InI n) (k : ∀ x' y' b w', GM u a q c R x y w' → (b = true → GM u a q c R x' y' w') → P x' y' b w') :
    Trip Try.prog 18 #[.agg #[x.val, y.val], .int .i64 n] w fun r w' => ∃ x' y' : Sl, ∃ b : Bool, r = .tuple #[.agg #[x'.val, y'.val], .bool b] ∧ P x' y' b w' := by
  obtain ⟨m, I, J, K, hO, hP, hR, hS, h5, h6⟩ := g
  refine Mk.usew (c_specDupBlock (hO.read hS) (hP.read hS) hn) hS ?_
  rintro _ w1 _ ⟨x', y', J1, J2, rfl, hO1, hP1, rfl⟩ hS hsub
  replace hS : St u w1 (J1 ++ (J2 ++ (J ++ (K ++ (I ++ R))))) := hS.perm (by simp)
  refine ⟨_, _, _, rfl, k _ _ _ _ ⟨m, I, J, K, hO, hP, hR, hS.to, h5, h6⟩ fun hb => ?_⟩
  have hd := dupB_iff.1 hb
  rw [dupR_t hd] at hO1 hP1
  refine ⟨_, I, J1, J2, hO1, hP1, hR, hS.to, ?_, ?_⟩
  · unfold dupM; split
    · simpa using h5
    · exact h5
  · unfold dupM; split <;> exact h6
theorem GM.drop {P : Sl → Sl → Bool → World → Prop} (g : GM u a q c R x y w) (hn : InI n) (k : ∀ x' y' b w', GM u a q c R x y w' → (b = true → GM u a q c R x' y' w') → P x' y' b w') :
    Trip Try.prog 24 #[.agg #[x.val, y.val], .int .i64 n] w fun r w' => ∃ x' y' : Sl, ∃ b : Bool, r = .tuple #[.agg #[x'.val, y'.val], .bool b] ∧ P x' y' b w' := by
  obtain ⟨m, I, J, K, hO, hP, hR, hS, h5, h6⟩ := g
  refine Mk.usew (c_specDropBlock (hO.read hS) (hP.read hS) hn) hS ?_
  rintro _ w1 _ ⟨x', y', J1, J2, rfl, hO1, hP1, rfl⟩ hS hsub
  replace hS : St u w1 (J1 ++ (J2 ++ (J ++ (K ++ (I ++ R))))) := hS.perm (by simp)
  refine ⟨_, _, _, rfl, k _ _ _ _ ⟨m, I, J, K, hO, hP, hR, hS.to, h5, h6⟩ fun hb => ?_⟩
  have hd := dbB_iff.1 hb
  rw [dbR_t hd] at hO1 hP1
  obtain ⟨N, V⟩ := hd.1
  have D := V.dropped hd
  exact ⟨_, I, J1, J2, hO1, hP1, hR, hS.to, by rw [D.len]; exact h5, D.ms.four⟩
theorem abN_ok (h : abN m tag fs ≠ 0) : abOk m tag fs := Classical.byContradiction fun hd => h (abN_f hd)
theorem GM.alloc {P : Sl → Sl → Int → World → Prop} (g : GM u a q c R x y w) (hf : Read w xf fs) (hn : InI tag) (hc : c ≤ 1000) (k : ∀ x' y' b w', GM u a q (c + 5) R x y w' → (b > 0 → GM u a q (c + 5) R x' y' w') → P x' y' b w') :
    Trip Try.prog 11 #[.agg #[x.val, y.val], .int .i64 tag, xf.val] w fun r w' => ∃ x' y' : Sl, ∃ b : Int, r = .tuple #[.agg #[x'.val, y'.val], .int .i64 b] ∧ P x' y' b w' := by
  obtain ⟨m, I, J, K, hO, hP, hR, hS, h5, h6⟩ := g
  refine Mk.usew (c_specAllocBlock (hO.read hS) (hP.read hS) hf hn (by omega)) hS ?_
  rintro _ w1 _ ⟨x', y', J1, J2, rfl, hO1, hP1, rfl⟩ hS hsub
  replace hS : St u w1 (J1 ++ (J2 ++ (J ++ (K ++ (I ++ R))))) := hS.perm (by simp)
  refine ⟨_, _, _, rfl, k _ _ _ _ ⟨m, I, J, K, hO, hP, hR, hS.to, by omega, h6⟩ fun hb => ?_⟩
  have hd := abN_ok (m := m) (tag := tag) (fs := fs) (by omega)
  rw [abR_t hd] at hO1 hP1
  obtain ⟨N, V⟩ := hd.1
  obtain ⟨_, V2⟩ := hd.2.2.2.2.2
  have hA := V.at_ hd.2.2.2.1
  refine ⟨_, I, J1, J2, hO1, hP1, hR, hS.to, ?_, V2.four⟩
  have h3 := hd.2.2.2.1
  show ((fillL (baseM m fs.length) (atM m fs.length) tag fs).length : Int) ≤ _
  unfold fillL
  rw [setL_len (by omega) (by simp; omega)]
  simp only [List.length_set]
  unfold baseM
  split
  · omega
  · simp; omega
theorem GM.build {P : Sl → World → Prop} (g : GM u a q c R x y w) (h0 : 0 ≤ n) (h1 : n < 7) (k : ∀ xs w' G, Own u xs [n, 0, 99] G → GM u a q c (G ++ R) x y w' → P xs w') :
    StepT Try.prog (Instr.buildSlice 23 3 #[(0, (.int .i64 n)), (1, (.int .i64 0)), (2, (.int .i64 99))]) w fun r w' => ∃ xs : Sl, r = xs.val ∧ P xs w' := by
  obtain ⟨m, I, J, K, hO, hP, hR, hS, h5, h6⟩ := g
  refine St.build (α := Int) hS (by (repeat' (first | exact VsOf.nil | apply VsOf.cons | (apply VOf.int; first | assumption | (constructor <;> first | omega | (simp only [List.length_set, List.length_append, List.length_replicate, List.length_cons, List.length_nil, List.length_take, List.length_drop, List.length_map, List.length_singleton] at *; omega))) | exact VOf.bool | exact VOf.str))) rfl (by decide) ?_
  intro x4 w4 I4 hO4 hS hs
  exact ⟨_, rfl, k _ _ I4 hO4 ⟨m, I, J, K, hO, hP, hR, hS.to, h5, h6⟩⟩
theorem GM.build1 {P : Sl → World → Prop} (g : GM u a q c R x y w) (hn : InI n) (k : ∀ xs w' G, Own u xs [n] G → GM u a q c (G ++ R) x y w' → P xs w') :
    StepT Try.prog (Instr.buildSlice 23 1 #[(0, (.int .i64 n))]) w fun r w' => ∃ xs : Sl, r = xs.val ∧ P xs w' := by
  obtain ⟨m, I, J, K, hO, hP, hR, hS, h5, h6⟩ := g
  refine St.build (α := Int) hS (by (repeat' (first | exact VsOf.nil | apply VsOf.cons | (apply VOf.int; first | assumption | (constructor <;> first | omega | (simp only [List.length_set, List.length_append, List.length_replicate, List.length_cons, List.length_nil, List.length_take, List.length_drop, List.length_map, List.length_singleton] at *; omega))) | exact VOf.bool | exact VOf.str))) rfl (by decide) ?_
  intro x4 w4 I4 hO4 hS hs
  exact ⟨_, rfl, k _ _ I4 hO4 ⟨m, I, J, K, hO, hP, hR, hS.to, h5, h6⟩⟩
theorem GM.build0 {P : Sl → World → Prop} (g : GM u a q c R x y w) (k : ∀ xs w' G, Own u xs ([] : List Int) G → GM u a q c (G ++ R) x y w' → P xs w') :
    StepT Try.prog (Instr.buildSlice 23 0 #[]) w fun r w' => ∃ xs : Sl, r = xs.val ∧ P xs w' := by
  obtain ⟨m, I, J, K, hO, hP, hR, hS, h5, h6⟩ := g
  refine St.build (α := Int) hS (by (repeat' (first | exact VsOf.nil | apply VsOf.cons | (apply VOf.int; first | assumption | (constructor <;> first | omega | (simp only [List.length_set, List.length_append, List.length_replicate, List.length_cons, List.length_nil, List.length_take, List.length_drop, List.length_map, List.length_singleton] at *; omega))) | exact VOf.bool | exact VOf.str))) rfl (by decide) ?_
  intro x4 w4 I4 hO4 hS hs
  exact ⟨_, rfl, k _ _ I4 hO4 ⟨m, I, J, K, hO, hP, hR, hS.to, h5, h6⟩⟩
theorem GM.one {P : Int → World → Prop} {G : Items} (g : GM u a q c (G ++ R) x y w) (hO : Own u xg l G) (hq : q ≤ 999999000) (hl : l ≠ []) (hl2 : l.length ≤ 1000) (k : ∀ j w', GM u a (q + 1) c R x y w' → j ∈ l → P j w') :
    Trip Try.prog 28 #[.pointer (some (a.add 0)), xg.val] w fun r w' => ∃ j, r = .int .i64 j ∧ P j w' := by
  obtain ⟨m, I, J, K, hO1, hP, hR, hS, h5, h6⟩ := g
  replace hS : St u w (G ++ (J ++ (K ++ (I ++ R)))) := hS.to
  refine Trip.mono' (c_one hR hO hS (by omega) (by cases l with | nil => exact absurd rfl hl | cons _ _ => simp) (by omega)) ?_
  rintro _ w1 ⟨j, I1, rfl, hR, hS, hj⟩
  exact ⟨_, rfl, k j w1 ⟨m, I1, J, K, hO1, hP, hR, hS.to, h5, h6⟩ hj⟩
theorem GM.app {P : Sl → World → Prop} {G H : Items} (g : GM u a q c (G ++ (H ++ R)) x y w) (hO : Own u xg [n] G) (hF : Own u xf fs H) (hl : fs.length ≤ 1000) (k : ∀ xs w' G, Own u xs (fs ++ [n]) G → GM u a q c (G ++ R) x y w' → P xs w') :
    StepT Try.prog (Builtin.append_ #[23, 23] 23 #[xf.val, xg.val]) w fun r w' => ∃ xs : Sl, r = xs.val ∧ P xs w' := by
  obtain ⟨m, I, J, K, hO1, hP, hR, hS, h5, h6⟩ := g
  replace hS : St u w (H ++ (G ++ (J ++ (K ++ (I ++ R))))) := hS.to
  refine Own.append hF hS (Own.src hO hS) (by simp; omega) (by decide) ?_
  intro x8 w8 I8 hF hS
  exact ⟨_, rfl, k _ _ I8 hF ⟨m, I, J, K, hO1, hP, hR, hS.to, h5, h6⟩⟩
end
end Go.Vc

namespace Go.Vc
open Go Go.Proofs Go.RowKit
set_option linter.all false
section
variable {u v w : World} {x y xf xg z s t : Sl} {l ws fs ad list free todo : List Int} {h g : List CellD} {m m' : MemD} {b n k f e q c tag : Int} {N i : Nat} {a : Addr} {I J K L R R1 F : Items} {F1 : Items → Items}

theorem GM.tail {J17 : Sl → Sl → World → Prop} (g : GM u a q c (F ++ R) x y w) (hF : Own u xf fs F) (hl : fs.length ≤ 3) (hq : q ≤ 999990000) (hc : c ≤ 900) (hn : InI n) (hJ : ∀ x y w, GM u a (q + 8) (c + 5) R x y w → J17 x y w) :
    Trip Try.prog 11 #[.agg #[x.val, y.val], .int .i64 n, xf.val] w fun r215 w216 =>
                          ∃ x217 : Sl, ∃ x218 : Sl, ∃ n219 : Int, r215 = .tuple #[.agg #[x217.val, x218.val], .int .i64 n219] ∧
                          ∃ J220 : Sl → Sl → World → Prop, (((decide (n219 > 0)) = true →
                              ((.sl (Sl.mk none 0 0) : SV) = .sl (Sl.mk none 0 0)) ∧
                              ((.sl (Sl.mk none 0 0) : SV) = .sl (Sl.mk none 0 0)) ∧
                              ((.sl x217 : SV) = .sl x217) ∧
                              ((.sl x218 : SV) = .sl x218) ∧
                              J220 x217 x218 w216) ∧
                            ((decide (n219 > 0)) = false →
                              ((.sl (Sl.mk none 0 0) : SV) = .sl (Sl.mk none 0 0)) ∧
                              ((.sl (Sl.mk none 0 0) : SV) = .sl (Sl.mk none 0 0)) ∧
                              ((.sl x217 : SV) = .sl x217) ∧
                              ((.sl x218 : SV) = .sl x218) ∧
                              J220 x y w216)) ∧
                          ∀ x221 : Sl, ∀ x222 : Sl, ∀ w223 : World, J220 x221 x222 w223 →
                          Trip Try.prog 62 #[.pointer (some (a.add 0)), .int .i64 3] w223 fun r224 w225 =>
                            ∃ n226 : Int, r224 = .int .i64 n226 ∧
                            ((decide (n226 = 0)) = true →
                              (Trip Try.prog 29 #[.pointer (some (a.add 0)), .agg #[x221.val, x222.val]] w225 fun r227 w228 =>
                                  ∃ n229 : Int, r227 = .int .i64 n229 ∧
                                  (Trip Try.prog 24 #[.agg #[x221.val, x222.val], .int .i64 n229] w228 fun r230 w231 =>
                                      ∃ x232 : Sl, ∃ x233 : Sl, ∃ q234 : Bool, r230 = .tuple #[.agg #[x232.val, x233.val], .bool q234] ∧
                                      Sub w231 w231 ∧
                                      (q234 = true →
                                        ((.sl (Sl.mk none 0 0) : SV) = .sl (Sl.mk none 0 0)) ∧
                                        ((.sl (Sl.mk none 0 0) : SV) = .sl (Sl.mk none 0 0)) ∧
                                        J17 x232 x233 w231) ∧
                                      (q234 = false →
                                        ((.sl (Sl.mk none 0 0) : SV) = .sl (Sl.mk none 0 0)) ∧
                                        ((.sl (Sl.mk none 0 0) : SV) = .sl (Sl.mk none 0 0)) ∧
                                        J17 x221 x222 w231)) ∧
                                  Sub w228 w228 ∧
                                  Trip Try.prog 24 #[.agg #[x221.val, x222.val], .int .i64 n229] w228 fun r235 w236 =>
                                    ∃ x237 : Sl, ∃ x238 : Sl, ∃ q239 : Bool, r235 = .tuple #[.agg #[x237.val, x238.val], .bool q239] ∧
                                    (q239 = true →
                                      ((.sl (Sl.mk none 0 0) : SV) = .sl (Sl.mk none 0 0)) ∧
                                      ((.sl (Sl.mk none 0 0) : SV) = .sl (Sl.mk none 0 0)) ∧
                                      J17 x237 x238 w236) ∧
                                    (q239 = false →
                                      ((.sl (Sl.mk none 0 0) : SV) = .sl (Sl.mk none 0 0)) ∧
                                      ((.sl (Sl.mk none 0 0) : SV) = .sl (Sl.mk none 0 0)) ∧
                                      J17 x221 x222 w236)) ∧
                              Sub w225 w225 ∧
                              Trip Try.prog 29 #[.pointer (some (a.add 0)), .agg #[x221.val, x222.val]] w225 fun r240 w241 =>
                                ∃ n242 : Int, r240 = .int .i64 n242 ∧
                                Trip Try.prog 24 #[.agg #[x221.val, x222.val], .int .i64 n242] w241 fun r243 w244 =>
                                  ∃ x245 : Sl, ∃ x246 : Sl, ∃ q247 : Bool, r243 = .tuple #[.agg #[x245.val, x246.val], .bool q247] ∧
                                  (q247 = true →
                                    ((.sl (Sl.mk none 0 0) : SV) = .sl (Sl.mk none 0 0)) ∧
                                    ((.sl (Sl.mk none 0 0) : SV) = .sl (Sl.mk none 0 0)) ∧
                                    J17 x245 x246 w244) ∧
                                  (q247 = false →
                                    ((.sl (Sl.mk none 0 0) : SV) = .sl (Sl.mk none 0 0)) ∧
                                    ((.sl (Sl.mk none 0 0) : SV) = .sl (Sl.mk none 0 0)) ∧
                                    J17 x221 x222 w244)) ∧
                            ((decide (n226 = 0)) = false →
                              ((.sl (Sl.mk none 0 0) : SV) = .sl (Sl.mk none 0 0)) ∧
                              ((.sl (Sl.mk none 0 0) : SV) = .sl (Sl.mk none 0 0)) ∧
                              J17 x221 x222 w225) := by
  have hrd : Read w xf fs := by
    obtain ⟨m, I, J, K, hO, hP, hR, hS, h5, h6⟩ := g
    exact hF.read (hS.to : St u w (F ++ (J ++ (K ++ (I ++ R)))))
  refine g.alloc hrd hn (by omega) fun x1 y1 b1 w1 g1 g2 => ?_
  refine ⟨GM u a q (c + 5) (F ++ R), ⟨fun hb => ⟨rfl, rfl, rfl, rfl, g2 (by simpa using hb)⟩, fun hb => ⟨rfl, rfl, rfl, rfl, g1⟩⟩, ?_⟩
  clear g1 g2 g
  intro x y w g
  have fin : ∀ {q' : Int} {x y : Sl} {w : World}, GM u a q' (c + 5) (F ++ R) x y w → q' ≤ q + 8 → J17 x y w := by
    intro q' x y w g hq'
    obtain ⟨m, I, J, K, hO, hP, hR, hS, h5, h6⟩ := g
    exact hJ _ _ _ ⟨m, I, J, K, hO, hP, hR.le hq', hS.to, h5, h6⟩
  refine g.pick (by omega) (by omega) (by omega) fun j w g j0 j1 => ⟨fun hc => ⟨?_, .refl _, ?_⟩, fun hc => ⟨rfl, rfl, fin g (by omega)⟩⟩
  · refine g.bf (by omega) (by omega) fun j w hj g => ⟨?_, .refl _, ?_⟩
    · refine g.drop hj fun x' y' b w' g1 g2 => ⟨.refl _, fun hb => ⟨rfl, rfl, fin (g2 hb) (by omega)⟩, fun hb => ⟨rfl, rfl, fin g1 (by omega)⟩⟩
    · refine g.drop hj fun x' y' b w' g1 g2 => ⟨fun hb => ⟨rfl, rfl, fin (g2 hb) (by omega)⟩, fun hb => ⟨rfl, rfl, fin g1 (by omega)⟩⟩
  · refine g.bf (by omega) (by omega) fun j w hj g => ?_
    refine g.drop hj fun x' y' b w' g1 g2 => ⟨fun hb => ⟨rfl, rfl, fin (g2 hb) (by omega)⟩, fun hb => ⟨rfl, rfl, fin g1 (by omega)⟩⟩

theorem inI5 (h0 : 0 ≤ n) (h1 : n < 7) : ∀ j ∈ [n, 0, 99], InI j := by
  intro j hj
  simp only [List.mem_cons, List.not_mem_nil, or_false] at hj
  exact ⟨by omega, by omega⟩
theorem c_goodMemory (hr : Rdr u a q I) (hS : St u w L) [p : Pos I L R F1] (hq : q ≤ 999980000) :
    Trip Try.prog 61 #[.pointer (some (a.add 0))] w fun r w' => ∃ x y, ∃ (m : MemD), ∃ J K I', r = .agg #[x.val, y.val] ∧ OwnI x m.words J ∧ OwnI y m.free K ∧ Rdr u a (q + 1000) I' ∧ St u w' (J ++ (K ++ (I' ++ R))) ∧ m.words.length ≤ 80 ∧ m.free.length = 4 := by
  replace hS := hS.front (I := I)
  refine of61j _ _ _ ?_
  unfold vc61j
  refine St.build (α := Int) hS (by (repeat' (first | exact VsOf.nil | apply VsOf.cons | (apply VOf.int; first | assumption | (constructor <;> first | omega | (simp only [List.length_set, List.length_append, List.length_replicate, List.length_cons, List.length_nil, List.length_take, List.length_drop, List.length_map, List.length_singleton] at *; omega))) | exact VOf.bool | exact VOf.str))) rfl (by decide) ?_
  intro x w1 I1 hO hS hs
  refine ⟨_, rfl, ?_⟩
  refine Mk.usew (c_zeros (by omega) (by omega)) hS ?_
  rintro _ w2 K ⟨y, rfl, hP⟩ hS hsub
  refine ⟨_, rfl, ?_⟩
  have g : GM u a q 0 R x y w2 := ⟨⟨[], List.replicate (4 : Int).toNat 0⟩, I, I1, K, hO.toI, hP.toI, hr, hS.to, by simp, by simp⟩
  refine g.pick (by omega) (by omega) (by omega) fun j w g j0 j1 => ?_
  refine go_wr (by omega) (by omega) ?_
  refine ⟨fun n x y w => 0 ≤ n ∧ n ≤ 16 ∧ GM u a (q + 1 + 40 * (16 - n)) (5 * (16 - n)) R x y w, fun n _ _ _ => n.toNat, ⟨by omega, by omega, g.le (by omega) (by omega)⟩, ?_⟩
  clear hO hP hS g j0 j1
  rintro n x y w ⟨n0, n1, g⟩
  refine ⟨fun hi => ?_, fun hi => ?_⟩
  · simp only [decide_eq_true_eq, decide_eq_false_iff_not, Bool.and_eq_true, Bool.and_eq_false_iff, Bool.or_eq_true, Bool.or_eq_false_iff, Bool.not_eq_true', Bool.not_eq_false', Bool.not_true, Bool.not_false, Bool.false_eq_true, Bool.true_eq_false, Int.not_lt, Int.not_le, ge_iff_le, gt_iff_lt, Bool.not_eq_eq_eq_not, Bool.true_or, Bool.or_true, Bool.false_or, Bool.or_false, Bool.true_and, Bool.and_true, false_or, or_false, true_and, and_true, Decidable.not_not] at hi
    refine ⟨fun x y w => GM u a (q + 1 + 40 * (16 - n) + 40) (5 * (16 - n) + 5) R x y w, ?_, ?_⟩
    · generalize hqq : q + 1 + 40 * (16 - n) = q1 at *
      generalize hcc : 5 * (16 - n) = c1 at *
      have hq1 : q1 ≤ 999990000 - 100 := by omega
      have hc1 : c1 ≤ 100 := by omega
      refine g.build0 fun xf w F hF g => ?_
      refine g.pick (by omega) (by omega) (by omega) fun k w g k0 k1 => ?_
      refine ⟨fun xf k x y w => 0 ≤ k ∧ ∃ (fs : List Int) (F : Items), Own u xf fs F ∧ k + fs.length ≤ 3 ∧ k ≤ 3 ∧ GM u a (q1 + 1 + 8 * (3 - k)) c1 (F ++ R) x y w, fun _ k _ _ _ => k.toNat, ⟨k0, [], F, hF, by simp; omega, by omega, g.le (by omega) (by omega)⟩, ?_⟩
      clear hF g k0 k1
      rintro xf k x y w ⟨k0, fs, F, hF, hfl, k3, g⟩
      refine ⟨fun hk => ?_, fun hk => ?_⟩
      · simp only [decide_eq_true_eq, decide_eq_false_iff_not, Bool.and_eq_true, Bool.and_eq_false_iff, Bool.or_eq_true, Bool.or_eq_false_iff, Bool.not_eq_true', Bool.not_eq_false', Bool.not_true, Bool.not_false, Bool.false_eq_true, Bool.true_eq_false, Int.not_lt, Int.not_le, ge_iff_le, gt_iff_lt, Bool.not_eq_eq_eq_not, Bool.true_or, Bool.or_true, Bool.false_or, Bool.or_false, Bool.true_and, Bool.and_true, false_or, or_false, true_and, and_true, Decidable.not_not] at hk
        refine g.bf (by omega) (by omega) fun j w hj g => ?_
        refine g.dup hj fun x' y' b w' g1 g2 => ⟨fun hb => ?_, fun hb => ?_⟩
        · refine (g2 hb).build1 hj fun xs w G hG g => ?_
          refine g.app hG hF (by omega) fun xs w G hG g => ?_
          refine go_wr (by omega) (by omega) ?_
          exact ⟨rfl, rfl, ⟨by omega, _, G, hG, by simp; omega, by omega, g.le (by omega) (by omega)⟩, by dsimp only; omega⟩
        · refine g1.pick (by omega) (by omega) (by omega) fun j w g j0 j1 => ?_
          refine g.build1 ⟨by omega, by omega⟩ fun xs w G hG g => ?_
          refine g.app hG hF (by omega) fun xs w G hG g => ?_
          refine go_wr (by omega) (by omega) ?_
          exact ⟨rfl, rfl, ⟨by omega, _, G, hG, by simp; omega, by omega, g.le (by omega) (by omega)⟩, by dsimp only; omega⟩
      · simp only [decide_eq_true_eq, decide_eq_false_iff_not, Bool.and_eq_true, Bool.and_eq_false_iff, Bool.or_eq_true, Bool.or_eq_false_iff, Bool.not_eq_true', Bool.not_eq_false', Bool.not_true, Bool.not_false, Bool.false_eq_true, Bool.true_eq_false, Int.not_lt, Int.not_le, ge_iff_le, gt_iff_lt, Bool.not_eq_eq_eq_not, Bool.true_or, Bool.or_true, Bool.false_or, Bool.or_false, Bool.true_and, Bool.and_true, false_or, or_false, true_and, and_true, Decidable.not_not] at hk
        have hJ : ∀ {q' : Int} x y w, GM u a q' (c1 + 5) R x y w → q' ≤ q1 + 40 → GM u a (q1 + 40) (c1 + 5) R x y w := fun x y w g h => g.le h (by omega)
        have T : ∀ {q' n : Int} {x y : Sl} {w : World}, GM u a q' c1 (F ++ R) x y w → q' ≤ q1 + 30 → InI n → _ := fun {q' n x y w} g h hn => GM.tail (J17 := fun x y w => GM u a (q1 + 40) (c1 + 5) R x y w) (n := n) g hF (by omega) (by omega) (by omega) hn (fun x y w g => hJ x y w g (by omega))
        have B : ∀ {q' : Int} {x y : Sl} {w : World}, q' ≤ q1 + 28 → (g : GM u a q' c1 (F ++ R) x y w) → True := fun _ _ => trivial
        refine ⟨g.pick (by omega) (by omega) (by omega) fun j w g j0 j1 => ⟨g.build j0 j1 fun xs w G hG g => ⟨g.one hG (by omega) (by simp) (by simp) fun n w g hn => ⟨T g (by omega) (inI5 j0 j1 _ hn), T g (by omega) (inI5 j0 j1 _ hn)⟩, g.one hG (by omega) (by simp) (by simp) fun n w g hn => T g (by omega) (inI5 j0 j1 _ hn)⟩, g.build j0 j1 fun xs w G hG g => g.one hG (by omega) (by simp) (by simp) fun n w g hn => T g (by omega) (inI5 j0 j1 _ hn)⟩, g.pick (by omega) (by omega) (by omega) fun j w g j0 j1 => g.build j0 j1 fun xs w G hG g => g.one hG (by omega) (by simp) (by simp) fun n w g hn => T g (by omega) (inI5 j0 j1 _ hn)⟩
    · rintro x y w g
      refine go_wr (by omega) (by omega) ?_
      exact ⟨rfl, rfl, ⟨by omega, by omega, g.le (by omega) (by omega)⟩, by dsimp only; omega⟩
  · simp only [decide_eq_true_eq, decide_eq_false_iff_not, Bool.and_eq_true, Bool.and_eq_false_iff, Bool.or_eq_true, Bool.or_eq_false_iff, Bool.not_eq_true', Bool.not_eq_false', Bool.not_true, Bool.not_false, Bool.false_eq_true, Bool.true_eq_false, Int.not_lt, Int.not_le, ge_iff_le, gt_iff_lt, Bool.not_eq_eq_eq_not, Bool.true_or, Bool.or_true, Bool.false_or, Bool.or_false, Bool.true_and, Bool.and_true, false_or, or_false, true_and, and_true, Decidable.not_not] at hi
    obtain ⟨m, I, J, K, hO, hP, hR, hS, h5, h6⟩ := g
    exact ⟨x, y, m, J, K, I, rfl, hO, hP, hR.le (by omega), hS, by omega, h6⟩
end
end Go.Vc

namespace Go.Vc
open Go Go.Proofs Go.RowKit
set_option linter.all false
section
variable {u v w : World} {x y xf xg z s t : Sl} {l ws fs ad list free todo : List Int} {h g : List CellD} {m m' : MemD} {b n k f e q c tag : Int} {N i : Nat} {a : Addr} {I J K L R R1 F : Items} {F1 : Items → Items}

theorem c_anyMemory (hr : Rdr u a q I) (hS : St u w L) [p : Pos I L R F1] (hq : q ≤ 999970000) :
    Trip Try.prog 27 #[.pointer (some (a.add 0))] w fun r w' => ∃ x y, ∃ (m : MemD), ∃ J K I', r = .agg #[x.val, y.val] ∧ OwnI x m.words J ∧ OwnI y m.free K ∧ Rdr u a (q + 1010) I' ∧ St u w' (J ++ (K ++ (I' ++ R))) ∧ (m.words.length : Int) ≤ 81 ∧ m.free.length ≤ 4 := by
  replace hS := hS.front (I := I)
  refine of27 _ _ _ ?_
  unfold vc27
  refine Trip.mono' (c_goodMemory hr hS (by omega)) ?_
  rintro _ w1 ⟨x, y, m, J, K, I1, rfl, hO, hP, hR, hS, hwl, hfl⟩
  have hOu := hO u
  have hPu := hP u
  have hxn := hOu.n
  have hyn := hPu.n
  refine ⟨_, _, rfl, ?_⟩
  refine Trip.mono' (c_pick (n := 20) hR hS (by omega) (by omega) (by omega)) ?_
  rintro _ w2 ⟨n7, I2, rfl, hR, hS, a0, a1, a2⟩
  refine ⟨_, rfl, fun hc => ?_, fun hc => ⟨fun hc => ⟨?_, ?_⟩, fun hc => ⟨fun hc => ?_, fun hc => ⟨fun hc => ⟨fun hc => ⟨?_, ?_⟩, fun hc => ?_⟩, fun hc => ?_⟩⟩⟩⟩
  · refine Trip.mono' (c_spoilInts hR (hO.read hS) hS (by omega) (by omega)) ?_
    rintro _ w3 ⟨y3, l3, J3, I3, rfl, hO3, hR, hS, hl3⟩
    exact ⟨_, rfl, y3, y, ⟨l3, m.free⟩, J3, K, I3, rfl, hO3.toI, hP, hR.le (by omega), hS.to, by show (l3.length : Int) ≤ _; omega, by show m.free.length ≤ 4; omega⟩
  · refine Trip.mono' (c_pick (n := y.n) hR hS (by omega) (by omega) (by omega)) ?_
    (rintro _ w3 ⟨k, I3, rfl, hR, hS, b0, b1, b2⟩; refine ⟨_, rfl, ?_⟩)
    (refine St.build (α := Int) hS (by (repeat' (first | exact VsOf.nil | apply VsOf.cons | (apply VOf.int; first | assumption | (constructor <;> first | omega | (simp only [List.length_set, List.length_append, List.length_replicate, List.length_cons, List.length_nil, List.length_take, List.length_drop, List.length_map, List.length_singleton] at *; omega))) | exact VOf.bool | exact VOf.str))) rfl (by decide) ?_; intro x4 w4 I4 hO4 hS hs; refine ⟨_, rfl, ?_⟩; refine ⟨hs, ?_⟩)
    (refine Trip.mono' (c_one hR hO4 hS (by omega) (by simp) (by simp)) ?_; rintro _ w5 ⟨k5, I5, rfl, hR, hS, hk5⟩; have hki : InI k5 := (by simp only [List.mem_cons, List.not_mem_nil, or_false] at hk5; omega); refine ⟨_, rfl, ?_⟩)
    (refine go_oix hPu b0 (by omega) ?_; refine st_int hPu hS b0 (by omega) hki ?_; intro w9 I9 hP9 hS; exact ⟨x, y, ⟨m.words, m.free.set k.toNat k5⟩, J, I9, _, rfl, hO, hP9.toI, hR.le (by omega), hS.to, by show (m.words.length : Int) ≤ _; omega, by simp; omega⟩)
  · (refine St.build (α := Int) hS (by (repeat' (first | exact VsOf.nil | apply VsOf.cons | (apply VOf.int; first | assumption | (constructor <;> first | omega | (simp only [List.length_set, List.length_append, List.length_replicate, List.length_cons, List.length_nil, List.length_take, List.length_drop, List.length_map, List.length_singleton] at *; omega))) | exact VOf.bool | exact VOf.str))) rfl (by decide) ?_; intro x4 w4 I4 hO4 hS hs; refine ⟨_, rfl, ?_⟩; refine ⟨hs, ?_⟩)
    refine Trip.mono' (c_pick (n := y.n) hR hS (by omega) (by omega) (by omega)) ?_
    (rintro _ w3 ⟨k, I3, rfl, hR, hS, b0, b1, b2⟩; refine ⟨_, rfl, ?_⟩)
    replace hS := hS.front (I := I4)
    (refine Trip.mono' (c_one hR hO4 hS (by omega) (by simp) (by simp)) ?_; rintro _ w5 ⟨k5, I5, rfl, hR, hS, hk5⟩; have hki : InI k5 := (by simp only [List.mem_cons, List.not_mem_nil, or_false] at hk5; omega); refine ⟨_, rfl, ?_⟩)
    (refine go_oix hPu b0 (by omega) ?_; refine st_int hPu hS b0 (by omega) hki ?_; intro w9 I9 hP9 hS; exact ⟨x, y, ⟨m.words, m.free.set k.toNat k5⟩, J, I9, _, rfl, hO, hP9.toI, hR.le (by omega), hS.to, by show (m.words.length : Int) ≤ _; omega, by simp; omega⟩)
  · have hcut := hPu.cut (lo := 1) (hi := y.n) (by omega) (by omega) (by omega)
    exact ⟨⟨by omega, by omega⟩, x, _, ⟨m.words, (m.free.take (y.n : Int).toNat).drop (1 : Int).toNat⟩, J, K, I2, rfl, hO, hcut.toI, hR.le (by omega), hS.to, by show (m.words.length : Int) ≤ _; omega, by simp; omega⟩
  · simp only [decide_eq_true_eq, decide_eq_false_iff_not, Bool.and_eq_true, Bool.and_eq_false_iff, Bool.or_eq_true, Bool.or_eq_false_iff, Bool.not_eq_true', Bool.not_eq_false', Bool.not_true, Bool.not_false, Bool.false_eq_true, Bool.true_eq_false, Int.not_lt, Int.not_le, ge_iff_le, gt_iff_lt, Bool.not_eq_eq_eq_not, Bool.true_or, Bool.or_true, Bool.false_or, Bool.or_false, Bool.true_and, Bool.and_true, false_or, or_false, true_and, and_true, Decidable.not_not] at hc
    refine Trip.mono' (c_pick (n := x.n) hR hS (by omega) (by omega) (by omega)) ?_
    (rintro _ w3 ⟨k, I3, rfl, hR, hS, b0, b1, b2⟩; refine ⟨_, rfl, ?_⟩)
    (refine St.build (α := Int) hS (by (repeat' (first | exact VsOf.nil | apply VsOf.cons | (apply VOf.int; first | assumption | (constructor <;> first | omega | (simp only [List.length_set, List.length_append, List.length_replicate, List.length_cons, List.length_nil, List.length_take, List.length_drop, List.length_map, List.length_singleton] at *; omega))) | exact VOf.bool | exact VOf.str))) rfl (by decide) ?_; intro x4 w4 I4 hO4 hS hs; refine ⟨_, rfl, ?_⟩; refine ⟨hs, ?_⟩)
    (refine Trip.mono' (c_one hR hO4 hS (by omega) (by simp) (by simp)) ?_; rintro _ w5 ⟨k5, I5, rfl, hR, hS, hk5⟩; have hki : InI k5 := (by simp only [List.mem_cons, List.not_mem_nil, or_false] at hk5; omega); refine ⟨_, rfl, ?_⟩)
    (refine go_oix hOu b0 (by omega) ?_; refine st_int hOu hS b0 (by omega) hki ?_; intro w9 I9 hP9 hS; exact ⟨x, y, ⟨m.words.set k.toNat k5, m.free⟩, I9, K, _, rfl, hP9.toI, hP, hR.le (by omega), hS.to, by simp; omega, by show m.free.length ≤ 4; omega⟩)
  · simp only [decide_eq_true_eq, decide_eq_false_iff_not, Bool.and_eq_true, Bool.and_eq_false_iff, Bool.or_eq_true, Bool.or_eq_false_iff, Bool.not_eq_true', Bool.not_eq_false', Bool.not_true, Bool.not_false, Bool.false_eq_true, Bool.true_eq_false, Int.not_lt, Int.not_le, ge_iff_le, gt_iff_lt, Bool.not_eq_eq_eq_not, Bool.true_or, Bool.or_true, Bool.false_or, Bool.or_false, Bool.true_and, Bool.and_true, false_or, or_false, true_and, and_true, Decidable.not_not] at hc
    (refine St.build (α := Int) hS (by (repeat' (first | exact VsOf.nil | apply VsOf.cons | (apply VOf.int; first | assumption | (constructor <;> first | omega | (simp only [List.length_set, List.length_append, List.length_replicate, List.length_cons, List.length_nil, List.length_take, List.length_drop, List.length_map, List.length_singleton] at *; omega))) | exact VOf.bool | exact VOf.str))) rfl (by decide) ?_; intro x4 w4 I4 hO4 hS hs; refine ⟨_, rfl, ?_⟩; refine ⟨hs, ?_⟩)
    refine Trip.mono' (c_pick (n := x.n) hR hS (by omega) (by omega) (by omega)) ?_
    (rintro _ w3 ⟨k, I3, rfl, hR, hS, b0, b1, b2⟩; refine ⟨_, rfl, ?_⟩)
    replace hS := hS.front (I := I4)
    (refine Trip.mono' (c_one hR hO4 hS (by omega) (by simp) (by simp)) ?_; rintro _ w5 ⟨k5, I5, rfl, hR, hS, hk5⟩; have hki : InI k5 := (by simp only [List.mem_cons, List.not_mem_nil, or_false] at hk5; omega); refine ⟨_, rfl, ?_⟩)
    (refine go_oix hOu b0 (by omega) ?_; refine st_int hOu hS b0 (by omega) hki ?_; intro w9 I9 hP9 hS; exact ⟨x, y, ⟨m.words.set k.toNat k5, m.free⟩, I9, K, _, rfl, hP9.toI, hP, hR.le (by omega), hS.to, by simp; omega, by show m.free.length ≤ 4; omega⟩)
  · exact ⟨x, y, m, J, K, I2, rfl, hO, hP, hR.le (by omega), hS.to, by omega, by omega⟩
  · exact ⟨x, y, m, J, K, I2, rfl, hO, hP, hR.le (by omega), hS.to, by omega, by omega⟩

theorem c_DrawCellOf {code : List UInt8} (hx : Read v x code) : Mk Try.prog 44 #[x.val] v fun r J => ∃ y t, ∃ (m : MemD) (n : Int), ∃ J1 J2, r = .tuple #[.agg #[y.val, t.val], .int .i64 n] ∧ OwnI y m.words J1 ∧ OwnI t m.free J2 ∧ InI n ∧ (m.words.length : Int) ≤ 81 ∧ m.free.length ≤ 4 ∧ J = J1 ++ J2 := by
  refine of44 _ _ _ ?_
  unfold vc44
  refine Mk.use (c_newReader hx) (.refl v) ?_
  rintro _ w1 J1 ⟨a, rfl, hR⟩ hS hsub
  refine ⟨_, rfl, ?_⟩
  refine Trip.mono' (c_anyMemory hR hS (by omega)) ?_
  rintro _ w2 ⟨x, y, m, J, K, I, rfl, hO, hP, hR, hS, hwl, hfl⟩
  refine ⟨_, _, rfl, ?_⟩
  refine Trip.mono' (c_blockFor hR (hO.read hS) hS (by omega) (by omega)) ?_
  rintro _ w3 ⟨j, I3, rfl, hj, hR, hS⟩
  exact ⟨_, rfl, J ++ K, (hS.to : St v w3 (J ++ (K ++ []))).perm (by simp), x, y, m, j, J, K, rfl, hO, hP, hj, hwl, hfl, rfl⟩
end
end Go.Vc

namespace Go.Vc
open Go Go.Proofs Go.RowKit
set_option linter.all false
section
variable {u v w : World} {x y xf xg z s t : Sl} {l ws fs ad list free todo : List Int} {h g : List CellD} {m m' : MemD} {b n k f e q c tag : Int} {N i : Nat} {a : Addr} {I J K L R R1 F : Items} {F1 : Items → Items}

theorem cofR_t (V : VM m N) (hb : blkB m.words (adr m.words N) n = true) : cofR m n = idxI (adr m.words N) (n - 1000) := by
  unfold cofR; rw [vmemB_iff.2 ⟨N, V⟩, adrs_eq V.blocks, hb]; rfl
end
end Go.Vc

namespace Go.Vc
open Go Go.Proofs Go.RowKit
set_option linter.all false

section
variable {p p' : Nat → Bool} {n q : Nat}
end
section
variable {u v w : World} {x y xf xg z s t : Sl} {l ws fs ad list free todo : List Int} {h g : List CellD} {m m' : MemD} {b n k f e q c tag : Int} {N i : Nat} {a : Addr} {I J K L R R1 F : Items} {F1 : Items → Items}

end
end Go.Vc
