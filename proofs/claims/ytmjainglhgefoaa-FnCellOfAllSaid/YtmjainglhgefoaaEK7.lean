/- Part of the proofs about the heaps and memories: a law is joined in the text whose name ends in W and the law. -/
import Derived.Test.YtmjainglhgefoaaEK6
import Derived.Test.YtmjainglhgefoaaEGb
namespace Go.Vc
open Go Go.Proofs Go.RowKit
set_option linter.all false
section
variable {u v w : World} {x y xf xg z s t : Sl} {mp : Vl} {l ws fs ad list free todo : List Int} {h g : List CellD} {m m' : MemD} {b n k f e q c tag : Int} {N i : Nat} {a : Addr} {I J K L R R1 : Items} {F F1 : Items → Items}

theorem hasB_mem (h : hasB ws = true) : ∀ a ∈ adrs ws, 0 ≤ a ∧ a < ws.length := by
  obtain ⟨N, hN⟩ := hasB_iff.1 h
  rw [adrs_eq hN]
  intro a ha
  have h1 := hN.ok ha
  have h2 := adr_nn ha
  have := h1.1
  omega

theorem c_blockFor (hr : Rdr u a q I) (hx : Read w x ws) (hS : St u w L) [p : Pos I L R F] (hq : q ≤ 999999000) (hl : ws.length ≤ 1000000) :
    Trip Try.prog 109 #[.pointer (some (a.add 0)), .agg #[x.val, y.val]] w fun r w' => ∃ k I', r = .int .i64 k ∧ InI k ∧ Rdr u a (q + 5) I' ∧ St u w' (I' ++ R) := by
  replace hS := hS.front (I := I)
  refine of109 _ _ _ _ _ ?_
  unfold vc109
  have hR := hr
  refine Mk.usew (c_addressesOfB hx) hS ?_
  rintro _ w1 J ⟨y', rfl, hb, hnb⟩ hS hsub
  refine ⟨_, _, rfl, fun hc => ?_, fun hc => ?_⟩
  · have hB : hasB ws = true := by
      cases e : hasB ws with
      | true => rfl
      | false => rw [hnb e] at hc; simp at hc
    have hO : Own u y' (adrs ws) J := (hb hB).ofInts
    have hm := hasB_mem hB
    have hyn := hO.n
    have hyl : (adrs ws).length ≤ 1000000 := by
      obtain ⟨N, hN⟩ := hasB_iff.1 hB
      rw [adrs_eq hN, adr_len]
      have := hN.le
      omega
    simp only [decide_eq_true_eq, decide_eq_false_iff_not, Bool.and_eq_true, Bool.and_eq_false_iff, Bool.or_eq_true, Bool.or_eq_false_iff, Bool.not_eq_true', Bool.not_eq_false', Bool.not_true, Bool.not_false, Bool.false_eq_true, Bool.true_eq_false, Int.not_lt, Int.not_le, ge_iff_le, gt_iff_lt, Bool.not_eq_eq_eq_not, Bool.true_or, Bool.or_true, Bool.false_or, Bool.or_false, Bool.true_and, Bool.and_true, false_or, or_false, true_and, and_true, Decidable.not_not] at hc
    refine Trip.mono' (c_pick (n := 4) hR hS (by omega) (by omega) (by omega)) ?_
    rintro _ w2 ⟨k2, I2, rfl, hR, hS, a0, a1, a2⟩
    refine ⟨_, rfl, fun hd => ?_, fun hd => ?_⟩
    · refine Trip.mono' (c_pick (n := y'.n) hR hS (by omega) (by omega) (by omega)) ?_
      rintro _ w3 ⟨k3, I3, rfl, hR, hS, b0, b1, b2⟩
      have hk3 : k3 < (adrs ws).length := by omega
      have hin := hm _ (nth_mem b0 hk3)
      refine ⟨_, rfl, ?_⟩
      refine go_oix hO b0 hk3 ?_
      refine ld_int (Own.read hO hS) b0 hk3 ?_
      intro e0 e1
      refine go_wr (by omega) (by omega) ?_
      exact ⟨_, I3, rfl, ⟨by omega, by omega⟩, hR.le (by omega), hS.to⟩
    · (refine Trip.mono' (c_pick (n := 30) hR hS (by omega) (by omega) (by omega)) ?_; rintro _ w5 ⟨k5, I5, rfl, hR, hS, b0, b1, b2⟩; refine ⟨_, rfl, ?_⟩; refine go_wr (by omega) (by omega) ?_; refine Trip.mono' (c_pick (n := 9) hR hS (by omega) (by omega) (by omega)) ?_; rintro _ w6 ⟨k6, I6, rfl, hR, hS, d0, d1, d2⟩; refine ⟨_, rfl, ?_⟩; refine go_wr (by omega) (by omega) ?_; refine St.build (α := Int) hS (by (repeat' (first | exact VsOf.nil | apply VsOf.cons | (apply VOf.int; first | assumption | (constructor <;> first | omega | (simp only [List.length_set, List.length_append, List.length_replicate, List.length_cons, List.length_nil, List.length_take, List.length_drop, List.length_map, List.length_singleton] at *; omega))) | exact VOf.bool | exact VOf.str))) rfl (by decide) ?_; intro x4 w4 I4 hO4 hS hs; refine ⟨_, rfl, ?_⟩; refine Trip.mono' (c_one hR hO4 hS (by omega) (by simp) (by simp)) ?_; rintro _ w7 ⟨k7, I7, rfl, hR, hS, hk⟩; simp only [List.mem_cons, List.not_mem_nil, or_false] at hk; exact ⟨_, rfl, k7, I7, rfl, ⟨by omega, by omega⟩, hR.le (by omega), hS.to⟩)
  · (refine Trip.mono' (c_pick (n := 30) hR hS (by omega) (by omega) (by omega)) ?_; rintro _ w5 ⟨k5, I5, rfl, hR, hS, b0, b1, b2⟩; refine ⟨_, rfl, ?_⟩; refine go_wr (by omega) (by omega) ?_; refine Trip.mono' (c_pick (n := 9) hR hS (by omega) (by omega) (by omega)) ?_; rintro _ w6 ⟨k6, I6, rfl, hR, hS, d0, d1, d2⟩; refine ⟨_, rfl, ?_⟩; refine go_wr (by omega) (by omega) ?_; refine St.build (α := Int) hS (by (repeat' (first | exact VsOf.nil | apply VsOf.cons | (apply VOf.int; first | assumption | (constructor <;> first | omega | (simp only [List.length_set, List.length_append, List.length_replicate, List.length_cons, List.length_nil, List.length_take, List.length_drop, List.length_map, List.length_singleton] at *; omega))) | exact VOf.bool | exact VOf.str))) rfl (by decide) ?_; intro x4 w4 I4 hO4 hS hs; refine ⟨_, rfl, ?_⟩; refine Trip.mono' (c_one hR hO4 hS (by omega) (by simp) (by simp)) ?_; rintro _ w7 ⟨k7, I7, rfl, hR, hS, hk⟩; simp only [List.mem_cons, List.not_mem_nil, or_false] at hk; exact ⟨_, rfl, k7, I7, rfl, ⟨by omega, by omega⟩, hR.le (by omega), hS.to⟩)

/-- the memory that is being made -/
def GM (u : World) (a : Addr) (q c : Int) (R : Items) (x y : Sl) (w : World) : Prop := ∃ (m : MemD) (I J K : Items), OwnI x m.words J ∧ OwnI y m.free K ∧ Rdr u a q I ∧ St u w (J ++ (K ++ (I ++ R))) ∧ m.words.length ≤ c ∧ m.free.length = 4
theorem GM.le {q' c' : Int} (h : GM u a q c R x y w) (hq : q ≤ q') (hc : c ≤ c') : GM u a q' c' R x y w :=
  let ⟨m, I, J, K, h1, h2, h3, h4, h5, h6⟩ := h; ⟨m, I, J, K, h1, h2, h3.le hq, h4, by omega, h6⟩
theorem GM.pick {P : Int → World → Prop} (g : GM u a q c R x y w) (hq : q ≤ 999999000) (h1 : 1 ≤ n) (h2 : n ≤ 1000) (k : ∀ j w', GM u a (q + 1) c R x y w' → 0 ≤ j → j < n → P j w') :
    Trip Try.prog 111 #[.pointer (some (a.add 0)), .int .i64 n] w fun r w' => ∃ j, r = .int .i64 j ∧ P j w' := by
  obtain ⟨m, I, J, K, hO, hP, hR, hS, h5, h6⟩ := g
  refine Trip.mono' (c_pick (n := n) hR hS (by omega) (by omega) (by omega)) ?_
  rintro _ w1 ⟨j, I1, rfl, hR, hS, b0, b1, b2⟩
  exact ⟨_, rfl, k j w1 ⟨m, I1, J, K, hO, hP, hR, hS.to, h5, h6⟩ b0 (b1 h1)⟩
theorem GM.bf {P : Int → World → Prop} (g : GM u a q c R x y w) (hq : q ≤ 999999000) (hc : c ≤ 1000) (k : ∀ j w', InI j → GM u a (q + 5) c R x y w' → P j w') :
    Trip Try.prog 109 #[.pointer (some (a.add 0)), .agg #[x.val, y.val]] w fun r w' => ∃ j, r = .int .i64 j ∧ P j w' := by
  obtain ⟨m, I, J, K, hO, hP, hR, hS, h5, h6⟩ := g
  refine Trip.mono' (c_blockFor hR (hO.read hS) hS hq (by omega)) ?_
  rintro _ w1 ⟨j, I1, rfl, hj, hR, hS⟩
  exact ⟨_, rfl, k j w1 hj ⟨m, I1, J, K, hO, hP, hR, hS.to, h5, h6⟩⟩
theorem GM.dup {P : Sl → Sl → Bool → World → Prop} (g : GM u a q c R x y w) (hn : InI n) (k : ∀ x' y' b w', GM u a q c R x y w' → (b = true → GM u a q c R x' y' w') → P x' y' b w') :
    Trip Try.prog 29 #[.agg #[x.val, y.val], .int .i64 n] w fun r w' => ∃ x' y' : Sl, ∃ b : Bool, r = .tuple #[.agg #[x'.val, y'.val], .bool b] ∧ P x' y' b w' := by
  obtain ⟨m, I, J, K, hO, hP, hR, hS, h5, h6⟩ := g
  refine Mk.usew (c_specDupBlock (hO.read hS) (hP.read hS) hn) hS ?_
  rintro _ w1 _ ⟨x', y', J1, J2, rfl, hO1, hP1, rfl⟩ hS hsub
  replace hS : St u w1 (J1 ++ (J2 ++ (J ++ (K ++ (I ++ R))))) := hS.perm (by simp)
  refine ⟨_, _, _, rfl, k _ _ _ _ ⟨m, I, J, K, hO, hP, hR, hS.to, h5, h6⟩ fun hb => ?_⟩
  have hd := dupB_iff.1 hb
  rw [dupR_t hd] at hO1 hP1
  refine ⟨_, I, J1, J2, hO1, hP1, hR, hS.to, ?_, ?_⟩
  · unfold dupM; split
    · simpa using h5
    · exact h5
  · unfold dupM; split <;> exact h6
theorem GM.drop {P : Sl → Sl → Bool → World → Prop} (g : GM u a q c R x y w) (hn : InI n) (k : ∀ x' y' b w', GM u a q c R x y w' → (b = true → GM u a q c R x' y' w') → P x' y' b w') :
    Trip Try.prog 45 #[.agg #[x.val, y.val], .int .i64 n] w fun r w' => ∃ x' y' : Sl, ∃ b : Bool, r = .tuple #[.agg #[x'.val, y'.val], .bool b] ∧ P x' y' b w' := by
  obtain ⟨m, I, J, K, hO, hP, hR, hS, h5, h6⟩ := g
  refine Mk.usew (c_specDropBlock (hO.read hS) (hP.read hS) hn) hS ?_
  rintro _ w1 _ ⟨x', y', J1, J2, rfl, hO1, hP1, rfl⟩ hS hsub
  replace hS : St u w1 (J1 ++ (J2 ++ (J ++ (K ++ (I ++ R))))) := hS.perm (by simp)
  refine ⟨_, _, _, rfl, k _ _ _ _ ⟨m, I, J, K, hO, hP, hR, hS.to, h5, h6⟩ fun hb => ?_⟩
  have hd := dbB_iff.1 hb
  rw [dbR_t hd] at hO1 hP1
  obtain ⟨N, V⟩ := hd.1
  have D := V.dropped hd
  exact ⟨_, I, J1, J2, hO1, hP1, hR, hS.to, by rw [D.len]; exact h5, D.ms.four⟩
theorem abN_ok (h : abN m tag fs ≠ 0) : abOk m tag fs := Classical.byContradiction fun hd => h (abN_f hd)
theorem GM.alloc {P : Sl → Sl → Int → World → Prop} (g : GM u a q c R x y w) (hf : Read w xf fs) (hn : InI tag) (hc : c ≤ 1000) (k : ∀ x' y' b w', GM u a q (c + 5) R x y w' → (b > 0 → GM u a q (c + 5) R x' y' w') → P x' y' b w') :
    Trip Try.prog 40 #[.agg #[x.val, y.val], .int .i64 tag, xf.val] w fun r w' => ∃ x' y' : Sl, ∃ b : Int, r = .tuple #[.agg #[x'.val, y'.val], .int .i64 b] ∧ P x' y' b w' := by
  obtain ⟨m, I, J, K, hO, hP, hR, hS, h5, h6⟩ := g
  refine Mk.usew (c_specAllocBlock (hO.read hS) (hP.read hS) hf hn (by omega)) hS ?_
  rintro _ w1 _ ⟨x', y', J1, J2, rfl, hO1, hP1, rfl⟩ hS hsub
  replace hS : St u w1 (J1 ++ (J2 ++ (J ++ (K ++ (I ++ R))))) := hS.perm (by simp)
  refine ⟨_, _, _, rfl, k _ _ _ _ ⟨m, I, J, K, hO, hP, hR, hS.to, by omega, h6⟩ fun hb => ?_⟩
  have hd := abN_ok (m := m) (tag := tag) (fs := fs) (by omega)
  rw [abR_t hd] at hO1 hP1
  obtain ⟨N, V⟩ := hd.1
  obtain ⟨_, V2⟩ := hd.2.2.2.2.2
  have hA := V.at_ hd.2.2.2.1
  refine ⟨_, I, J1, J2, hO1, hP1, hR, hS.to, ?_, V2.four⟩
  have h3 := hd.2.2.2.1
  show ((fillL (baseM m fs.length) (atM m fs.length) tag fs).length : Int) ≤ _
  unfold fillL
  rw [setL_len (by omega) (by simp; omega)]
  simp only [List.length_set]
  unfold baseM
  split
  · omega
  · simp; omega
theorem GM.build {P : Sl → World → Prop} (g : GM u a q c R x y w) (h0 : 0 ≤ n) (h1 : n < 7) (k : ∀ xs w' G, Own u xs [n, 0, 99] G → GM u a q c (G ++ R) x y w' → P xs w') :
    StepT Try.prog (Instr.buildSlice 24 3 #[(0, (.int .i64 n)), (1, (.int .i64 0)), (2, (.int .i64 99))]) w fun r w' => ∃ xs : Sl, r = xs.val ∧ P xs w' := by
  obtain ⟨m, I, J, K, hO, hP, hR, hS, h5, h6⟩ := g
  refine St.build (α := Int) hS (by (repeat' (first | exact VsOf.nil | apply VsOf.cons | (apply VOf.int; first | assumption | (constructor <;> first | omega | (simp only [List.length_set, List.length_append, List.length_replicate, List.length_cons, List.length_nil, List.length_take, List.length_drop, List.length_map, List.length_singleton] at *; omega))) | exact VOf.bool | exact VOf.str))) rfl (by decide) ?_
  intro x4 w4 I4 hO4 hS hs
  exact ⟨_, rfl, k _ _ I4 hO4 ⟨m, I, J, K, hO, hP, hR, hS.to, h5, h6⟩⟩
theorem GM.build1 {P : Sl → World → Prop} (g : GM u a q c R x y w) (hn : InI n) (k : ∀ xs w' G, Own u xs [n] G → GM u a q c (G ++ R) x y w' → P xs w') :
    StepT Try.prog (Instr.buildSlice 24 1 #[(0, (.int .i64 n))]) w fun r w' => ∃ xs : Sl, r = xs.val ∧ P xs w' := by
  obtain ⟨m, I, J, K, hO, hP, hR, hS, h5, h6⟩ := g
  refine St.build (α := Int) hS (by (repeat' (first | exact VsOf.nil | apply VsOf.cons | (apply VOf.int; first | assumption | (constructor <;> first | omega | (simp only [List.length_set, List.length_append, List.length_replicate, List.length_cons, List.length_nil, List.length_take, List.length_drop, List.length_map, List.length_singleton] at *; omega))) | exact VOf.bool | exact VOf.str))) rfl (by decide) ?_
  intro x4 w4 I4 hO4 hS hs
  exact ⟨_, rfl, k _ _ I4 hO4 ⟨m, I, J, K, hO, hP, hR, hS.to, h5, h6⟩⟩
theorem GM.build0 {P : Sl → World → Prop} (g : GM u a q c R x y w) (k : ∀ xs w' G, Own u xs ([] : List Int) G → GM u a q c (G ++ R) x y w' → P xs w') :
    StepT Try.prog (Instr.buildSlice 24 0 #[]) w fun r w' => ∃ xs : Sl, r = xs.val ∧ P xs w' := by
  obtain ⟨m, I, J, K, hO, hP, hR, hS, h5, h6⟩ := g
  refine St.build (α := Int) hS (by (repeat' (first | exact VsOf.nil | apply VsOf.cons | (apply VOf.int; first | assumption | (constructor <;> first | omega | (simp only [List.length_set, List.length_append, List.length_replicate, List.length_cons, List.length_nil, List.length_take, List.length_drop, List.length_map, List.length_singleton] at *; omega))) | exact VOf.bool | exact VOf.str))) rfl (by decide) ?_
  intro x4 w4 I4 hO4 hS hs
  exact ⟨_, rfl, k _ _ I4 hO4 ⟨m, I, J, K, hO, hP, hR, hS.to, h5, h6⟩⟩
theorem GM.one {P : Int → World → Prop} {G : Items} (g : GM u a q c (G ++ R) x y w) (hO : Own u xg l G) (hq : q ≤ 999999000) (hl : l ≠ []) (hl2 : l.length ≤ 1000) (k : ∀ j w', GM u a (q + 1) c R x y w' → j ∈ l → P j w') :
    Trip Try.prog 62 #[.pointer (some (a.add 0)), xg.val] w fun r w' => ∃ j, r = .int .i64 j ∧ P j w' := by
  obtain ⟨m, I, J, K, hO1, hP, hR, hS, h5, h6⟩ := g
  replace hS : St u w (G ++ (J ++ (K ++ (I ++ R)))) := hS.to
  refine Trip.mono' (c_one hR hO hS (by omega) (by cases l with | nil => exact absurd rfl hl | cons _ _ => simp) (by omega)) ?_
  rintro _ w1 ⟨j, I1, rfl, hR, hS, hj⟩
  exact ⟨_, rfl, k j w1 ⟨m, I1, J, K, hO1, hP, hR, hS.to, h5, h6⟩ hj⟩
theorem GM.app {P : Sl → World → Prop} {G H : Items} (g : GM u a q c (G ++ (H ++ R)) x y w) (hO : Own u xg [n] G) (hF : Own u xf fs H) (hl : fs.length ≤ 1000) (k : ∀ xs w' G, Own u xs (fs ++ [n]) G → GM u a q c (G ++ R) x y w' → P xs w') :
    StepT Try.prog (Builtin.append_ #[24, 24] 24 #[xf.val, xg.val]) w fun r w' => ∃ xs : Sl, r = xs.val ∧ P xs w' := by
  obtain ⟨m, I, J, K, hO1, hP, hR, hS, h5, h6⟩ := g
  replace hS : St u w (H ++ (G ++ (J ++ (K ++ (I ++ R))))) := hS.to
  refine Own.append hF hS (Own.src hO hS) (by simp; omega) (by decide) ?_
  intro x8 w8 I8 hF hS
  exact ⟨_, rfl, k _ _ I8 hF ⟨m, I, J, K, hO1, hP, hR, hS.to, h5, h6⟩⟩
end
end Go.Vc

namespace Go.Vc
open Go Go.Proofs Go.RowKit
set_option linter.all false
section
variable {u v w : World} {x y xf xg z s t : Sl} {l ws fs ad list free todo : List Int} {h g : List CellD} {m m' : MemD} {b n k f e q c tag : Int} {N i : Nat} {a : Addr} {I J K L R R1 F : Items} {F1 : Items → Items}

theorem GM.tail {J17 : Sl → Sl → World → Prop} (g : GM u a q c (F ++ R) x y w) (hF : Own u xf fs F) (hl : fs.length ≤ 3) (hq : q ≤ 999990000) (hc : c ≤ 900) (hn : InI n) (hJ : ∀ x y w, GM u a (q + 8) (c + 5) R x y w → J17 x y w) :
    Trip Try.prog 40 #[.agg #[x.val, y.val], .int .i64 n, xf.val] w fun r215 w216 =>
                          ∃ x217 : Sl, ∃ x218 : Sl, ∃ n219 : Int, r215 = .tuple #[.agg #[x217.val, x218.val], .int .i64 n219] ∧
                          ∃ J220 : Sl → Sl → World → Prop, (((decide (n219 > 0)) = true →
                              ((.sl (Sl.mk none 0 0) : SV) = .sl (Sl.mk none 0 0)) ∧
                              ((.sl (Sl.mk none 0 0) : SV) = .sl (Sl.mk none 0 0)) ∧
                              ((.sl x217 : SV) = .sl x217) ∧
                              ((.sl x218 : SV) = .sl x218) ∧
                              J220 x217 x218 w216) ∧
                            ((decide (n219 > 0)) = false →
                              ((.sl (Sl.mk none 0 0) : SV) = .sl (Sl.mk none 0 0)) ∧
                              ((.sl (Sl.mk none 0 0) : SV) = .sl (Sl.mk none 0 0)) ∧
                              ((.sl x217 : SV) = .sl x217) ∧
                              ((.sl x218 : SV) = .sl x218) ∧
                              J220 x y w216)) ∧
                          ∀ x221 : Sl, ∀ x222 : Sl, ∀ w223 : World, J220 x221 x222 w223 →
                          Trip Try.prog 111 #[.pointer (some (a.add 0)), .int .i64 3] w223 fun r224 w225 =>
                            ∃ n226 : Int, r224 = .int .i64 n226 ∧
                            ((decide (n226 = 0)) = true →
                              (Trip Try.prog 109 #[.pointer (some (a.add 0)), .agg #[x221.val, x222.val]] w225 fun r227 w228 =>
                                  ∃ n229 : Int, r227 = .int .i64 n229 ∧
                                  (Trip Try.prog 45 #[.agg #[x221.val, x222.val], .int .i64 n229] w228 fun r230 w231 =>
                                      ∃ x232 : Sl, ∃ x233 : Sl, ∃ q234 : Bool, r230 = .tuple #[.agg #[x232.val, x233.val], .bool q234] ∧
                                      Sub w231 w231 ∧
                                      (q234 = true →
                                        ((.sl (Sl.mk none 0 0) : SV) = .sl (Sl.mk none 0 0)) ∧
                                        ((.sl (Sl.mk none 0 0) : SV) = .sl (Sl.mk none 0 0)) ∧
                                        J17 x232 x233 w231) ∧
                                      (q234 = false →
                                        ((.sl (Sl.mk none 0 0) : SV) = .sl (Sl.mk none 0 0)) ∧
                                        ((.sl (Sl.mk none 0 0) : SV) = .sl (Sl.mk none 0 0)) ∧
                                        J17 x221 x222 w231)) ∧
                                  Sub w228 w228 ∧
                                  Trip Try.prog 45 #[.agg #[x221.val, x222.val], .int .i64 n229] w228 fun r235 w236 =>
                                    ∃ x237 : Sl, ∃ x238 : Sl, ∃ q239 : Bool, r235 = .tuple #[.agg #[x237.val, x238.val], .bool q239] ∧
                                    (q239 = true →
                                      ((.sl (Sl.mk none 0 0) : SV) = .sl (Sl.mk none 0 0)) ∧
                                      ((.sl (Sl.mk none 0 0) : SV) = .sl (Sl.mk none 0 0)) ∧
                                      J17 x237 x238 w236) ∧
                                    (q239 = false →
                                      ((.sl (Sl.mk none 0 0) : SV) = .sl (Sl.mk none 0 0)) ∧
                                      ((.sl (Sl.mk none 0 0) : SV) = .sl (Sl.mk none 0 0)) ∧
                                      J17 x221 x222 w236)) ∧
                              Sub w225 w225 ∧
                              Trip Try.prog 109 #[.pointer (some (a.add 0)), .agg #[x221.val, x222.val]] w225 fun r240 w241 =>
                                ∃ n242 : Int, r240 = .int .i64 n242 ∧
                                Trip Try.prog 45 #[.agg #[x221.val, x222.val], .int .i64 n242] w241 fun r243 w244 =>
                                  ∃ x245 : Sl, ∃ x246 : Sl, ∃ q247 : Bool, r243 = .tuple #[.agg #[x245.val, x246.val], .bool q247] ∧
                                  (q247 = true →
                                    ((.sl (Sl.mk none 0 0) : SV) = .sl (Sl.mk none 0 0)) ∧
                                    ((.sl (Sl.mk none 0 0) : SV) = .sl (Sl.mk none 0 0)) ∧
                                    J17 x245 x246 w244) ∧
                                  (q247 = false →
                                    ((.sl (Sl.mk none 0 0) : SV) = .sl (Sl.mk none 0 0)) ∧
                                    ((.sl (Sl.mk none 0 0) : SV) = .sl (Sl.mk none 0 0)) ∧
                                    J17 x221 x222 w244)) ∧
                            ((decide (n226 = 0)) = false →
                              ((.sl (Sl.mk none 0 0) : SV) = .sl (Sl.mk none 0 0)) ∧
                              ((.sl (Sl.mk none 0 0) : SV) = .sl (Sl.mk none 0 0)) ∧
                              J17 x221 x222 w225) := by
  have hrd : Read w xf fs := by
    obtain ⟨m, I, J, K, hO, hP, hR, hS, h5, h6⟩ := g
    exact hF.read (hS.to : St u w (F ++ (J ++ (K ++ (I ++ R)))))
  refine g.alloc hrd hn (by omega) fun x1 y1 b1 w1 g1 g2 => ?_
  refine ⟨GM u a q (c + 5) (F ++ R), ⟨fun hb => ⟨rfl, rfl, rfl, rfl, g2 (by simpa using hb)⟩, fun hb => ⟨rfl, rfl, rfl, rfl, g1⟩⟩, ?_⟩
  clear g1 g2 g
  intro x y w g
  have fin : ∀ {q' : Int} {x y : Sl} {w : World}, GM u a q' (c + 5) (F ++ R) x y w → q' ≤ q + 8 → J17 x y w := by
    intro q' x y w g hq'
    obtain ⟨m, I, J, K, hO, hP, hR, hS, h5, h6⟩ := g
    exact hJ _ _ _ ⟨m, I, J, K, hO, hP, hR.le hq', hS.to, h5, h6⟩
  refine g.pick (by omega) (by omega) (by omega) fun j w g j0 j1 => ⟨fun hc => ⟨?_, .refl _, ?_⟩, fun hc => ⟨rfl, rfl, fin g (by omega)⟩⟩
  · refine g.bf (by omega) (by omega) fun j w hj g => ⟨?_, .refl _, ?_⟩
    · refine g.drop hj fun x' y' b w' g1 g2 => ⟨.refl _, fun hb => ⟨rfl, rfl, fin (g2 hb) (by omega)⟩, fun hb => ⟨rfl, rfl, fin g1 (by omega)⟩⟩
    · refine g.drop hj fun x' y' b w' g1 g2 => ⟨fun hb => ⟨rfl, rfl, fin (g2 hb) (by omega)⟩, fun hb => ⟨rfl, rfl, fin g1 (by omega)⟩⟩
  · refine g.bf (by omega) (by omega) fun j w hj g => ?_
    refine g.drop hj fun x' y' b w' g1 g2 => ⟨fun hb => ⟨rfl, rfl, fin (g2 hb) (by omega)⟩, fun hb => ⟨rfl, rfl, fin g1 (by omega)⟩⟩

theorem inI5 (h0 : 0 ≤ n) (h1 : n < 7) : ∀ j ∈ [n, 0, 99], InI j := by
  intro j hj
  simp only [List.mem_cons, List.not_mem_nil, or_false] at hj
  exact ⟨by omega, by omega⟩
theorem c_goodMemory (hr : Rdr u a q I) (hS : St u w L) [p : Pos I L R F1] (hq : q ≤ 999980000) :
    Trip Try.prog 131 #[.pointer (some (a.add 0))] w fun r w' => ∃ x y, ∃ (m : MemD), ∃ J K I', r = .agg #[x.val, y.val] ∧ OwnI x m.words J ∧ OwnI y m.free K ∧ Rdr u a (q + 1000) I' ∧ St u w' (J ++ (K ++ (I' ++ R))) ∧ m.words.length ≤ 80 ∧ m.free.length = 4 := by
  replace hS := hS.front (I := I)
  refine of131j _ _ _ ?_
  unfold vc131j
  refine St.build (α := Int) hS (by (repeat' (first | exact VsOf.nil | apply VsOf.cons | (apply VOf.int; first | assumption | (constructor <;> first | omega | (simp only [List.length_set, List.length_append, List.length_replicate, List.length_cons, List.length_nil, List.length_take, List.length_drop, List.length_map, List.length_singleton] at *; omega))) | exact VOf.bool | exact VOf.str))) rfl (by decide) ?_
  intro x w1 I1 hO hS hs
  refine ⟨_, rfl, ?_⟩
  refine Mk.usew (c_zeros (by omega) (by omega)) hS ?_
  rintro _ w2 K ⟨y, rfl, hP⟩ hS hsub
  refine ⟨_, rfl, ?_⟩
  have g : GM u a q 0 R x y w2 := ⟨⟨[], List.replicate (4 : Int).toNat 0⟩, I, I1, K, hO.toI, hP.toI, hr, hS.to, by simp, by simp⟩
  refine g.pick (by omega) (by omega) (by omega) fun j w g j0 j1 => ?_
  refine go_wr (by omega) (by omega) ?_
  refine ⟨fun n x y w => 0 ≤ n ∧ n ≤ 16 ∧ GM u a (q + 1 + 40 * (16 - n)) (5 * (16 - n)) R x y w, fun n _ _ _ => n.toNat, ⟨by omega, by omega, g.le (by omega) (by omega)⟩, ?_⟩
  clear hO hP hS g j0 j1
  rintro n x y w ⟨n0, n1, g⟩
  refine ⟨fun hi => ?_, fun hi => ?_⟩
  · simp only [decide_eq_true_eq, decide_eq_false_iff_not, Bool.and_eq_true, Bool.and_eq_false_iff, Bool.or_eq_true, Bool.or_eq_false_iff, Bool.not_eq_true', Bool.not_eq_false', Bool.not_true, Bool.not_false, Bool.false_eq_true, Bool.true_eq_false, Int.not_lt, Int.not_le, ge_iff_le, gt_iff_lt, Bool.not_eq_eq_eq_not, Bool.true_or, Bool.or_true, Bool.false_or, Bool.or_false, Bool.true_and, Bool.and_true, false_or, or_false, true_and, and_true, Decidable.not_not] at hi
    refine ⟨fun x y w => GM u a (q + 1 + 40 * (16 - n) + 40) (5 * (16 - n) + 5) R x y w, ?_, ?_⟩
    · generalize hqq : q + 1 + 40 * (16 - n) = q1 at *
      generalize hcc : 5 * (16 - n) = c1 at *
      have hq1 : q1 ≤ 999990000 - 100 := by omega
      have hc1 : c1 ≤ 100 := by omega
      refine g.build0 fun xf w F hF g => ?_
      refine g.pick (by omega) (by omega) (by omega) fun k w g k0 k1 => ?_
      refine ⟨fun xf k x y w => 0 ≤ k ∧ ∃ (fs : List Int) (F : Items), Own u xf fs F ∧ k + fs.length ≤ 3 ∧ k ≤ 3 ∧ GM u a (q1 + 1 + 8 * (3 - k)) c1 (F ++ R) x y w, fun _ k _ _ _ => k.toNat, ⟨k0, [], F, hF, by simp; omega, by omega, g.le (by omega) (by omega)⟩, ?_⟩
      clear hF g k0 k1
      rintro xf k x y w ⟨k0, fs, F, hF, hfl, k3, g⟩
      refine ⟨fun hk => ?_, fun hk => ?_⟩
      · simp only [decide_eq_true_eq, decide_eq_false_iff_not, Bool.and_eq_true, Bool.and_eq_false_iff, Bool.or_eq_true, Bool.or_eq_false_iff, Bool.not_eq_true', Bool.not_eq_false', Bool.not_true, Bool.not_false, Bool.false_eq_true, Bool.true_eq_false, Int.not_lt, Int.not_le, ge_iff_le, gt_iff_lt, Bool.not_eq_eq_eq_not, Bool.true_or, Bool.or_true, Bool.false_or, Bool.or_false, Bool.true_and, Bool.and_true, false_or, or_false, true_and, and_true, Decidable.not_not] at hk
        refine g.bf (by omega) (by omega) fun j w hj g => ?_
        refine g.dup hj fun x' y' b w' g1 g2 => ⟨fun hb => ?_, fun hb => ?_⟩
        · refine (g2 hb).build1 hj fun xs w G hG g => ?_
          refine g.app hG hF (by omega) fun xs w G hG g => ?_
          refine go_wr (by omega) (by omega) ?_
          exact ⟨rfl, rfl, ⟨by omega, _, G, hG, by simp; omega, by omega, g.le (by omega) (by omega)⟩, by dsimp only; omega⟩
        · refine g1.pick (by omega) (by omega) (by omega) fun j w g j0 j1 => ?_
          refine g.build1 ⟨by omega, by omega⟩ fun xs w G hG g => ?_
          refine g.app hG hF (by omega) fun xs w G hG g => ?_
          refine go_wr (by omega) (by omega) ?_
          exact ⟨rfl, rfl, ⟨by omega, _, G, hG, by simp; omega, by omega, g.le (by omega) (by omega)⟩, by dsimp only; omega⟩
      · simp only [decide_eq_true_eq, decide_eq_false_iff_not, Bool.and_eq_true, Bool.and_eq_false_iff, Bool.or_eq_true, Bool.or_eq_false_iff, Bool.not_eq_true', Bool.not_eq_false', Bool.not_true, Bool.not_false, Bool.false_eq_true, Bool.true_eq_false, Int.not_lt, Int.not_le, ge_iff_le, gt_iff_lt, Bool.not_eq_eq_eq_not, Bool.true_or, Bool.or_true, Bool.false_or, Bool.or_false, Bool.true_and, Bool.and_true, false_or, or_false, true_and, and_true, Decidable.not_not] at hk
        have hJ : ∀ {q' : Int} x y w, GM u a q' (c1 + 5) R x y w → q' ≤ q1 + 40 → GM u a (q1 + 40) (c1 + 5) R x y w := fun x y w g h => g.le h (by omega)
        have T : ∀ {q' n : Int} {x y : Sl} {w : World}, GM u a q' c1 (F ++ R) x y w → q' ≤ q1 + 30 → InI n → _ := fun {q' n x y w} g h hn => GM.tail (J17 := fun x y w => GM u a (q1 + 40) (c1 + 5) R x y w) (n := n) g hF (by omega) (by omega) (by omega) hn (fun x y w g => hJ x y w g (by omega))
        have B : ∀ {q' : Int} {x y : Sl} {w : World}, q' ≤ q1 + 28 → (g : GM u a q' c1 (F ++ R) x y w) → True := fun _ _ => trivial
        refine ⟨g.pick (by omega) (by omega) (by omega) fun j w g j0 j1 => ⟨g.build j0 j1 fun xs w G hG g => ⟨g.one hG (by omega) (by simp) (by simp) fun n w g hn => ⟨T g (by omega) (inI5 j0 j1 _ hn), T g (by omega) (inI5 j0 j1 _ hn)⟩, g.one hG (by omega) (by simp) (by simp) fun n w g hn => T g (by omega) (inI5 j0 j1 _ hn)⟩, g.build j0 j1 fun xs w G hG g => g.one hG (by omega) (by simp) (by simp) fun n w g hn => T g (by omega) (inI5 j0 j1 _ hn)⟩, g.pick (by omega) (by omega) (by omega) fun j w g j0 j1 => g.build j0 j1 fun xs w G hG g => g.one hG (by omega) (by simp) (by simp) fun n w g hn => T g (by omega) (inI5 j0 j1 _ hn)⟩
    · rintro x y w g
      refine go_wr (by omega) (by omega) ?_
      exact ⟨rfl, rfl, ⟨by omega, by omega, g.le (by omega) (by omega)⟩, by dsimp only; omega⟩
  · simp only [decide_eq_true_eq, decide_eq_false_iff_not, Bool.and_eq_true, Bool.and_eq_false_iff, Bool.or_eq_true, Bool.or_eq_false_iff, Bool.not_eq_true', Bool.not_eq_false', Bool.not_true, Bool.not_false, Bool.false_eq_true, Bool.true_eq_false, Int.not_lt, Int.not_le, ge_iff_le, gt_iff_lt, Bool.not_eq_eq_eq_not, Bool.true_or, Bool.or_true, Bool.false_or, Bool.or_false, Bool.true_and, Bool.and_true, false_or, or_false, true_and, and_true, Decidable.not_not] at hi
    obtain ⟨m, I, J, K, hO, hP, hR, hS, h5, h6⟩ := g
    exact ⟨x, y, m, J, K, I, rfl, hO, hP, hR.le (by omega), hS, by omega, h6⟩
end
end Go.Vc

namespace Go.Vc
open Go Go.Proofs Go.RowKit
set_option linter.all false
section
variable {u v w : World} {x y xf xg z s t : Sl} {l ws fs ad list free todo : List Int} {h g : List CellD} {m m' : MemD} {b n k f e q c tag : Int} {N i : Nat} {a : Addr} {I J K L R R1 F : Items} {F1 : Items → Items}

theorem c_anyMemory (hr : Rdr u a q I) (hS : St u w L) [p : Pos I L R F1] (hq : q ≤ 999970000) :
    Trip Try.prog 108 #[.pointer (some (a.add 0))] w fun r w' => ∃ x y, ∃ (m : MemD), ∃ J K I', r = .agg #[x.val, y.val] ∧ OwnI x m.words J ∧ OwnI y m.free K ∧ Rdr u a (q + 1010) I' ∧ St u w' (J ++ (K ++ (I' ++ R))) ∧ (m.words.length : Int) ≤ 81 ∧ m.free.length ≤ 4 := by
  replace hS := hS.front (I := I)
  refine of108 _ _ _ ?_
  unfold vc108
  refine Trip.mono' (c_goodMemory hr hS (by omega)) ?_
  rintro _ w1 ⟨x, y, m, J, K, I1, rfl, hO, hP, hR, hS, hwl, hfl⟩
  have hOu := hO u
  have hPu := hP u
  have hxn := hOu.n
  have hyn := hPu.n
  refine ⟨_, _, rfl, ?_⟩
  refine Trip.mono' (c_pick (n := 20) hR hS (by omega) (by omega) (by omega)) ?_
  rintro _ w2 ⟨n7, I2, rfl, hR, hS, a0, a1, a2⟩
  refine ⟨_, rfl, fun hc => ?_, fun hc => ⟨fun hc => ⟨?_, ?_⟩, fun hc => ⟨fun hc => ?_, fun hc => ⟨fun hc => ⟨fun hc => ⟨?_, ?_⟩, fun hc => ?_⟩, fun hc => ?_⟩⟩⟩⟩
  · refine Trip.mono' (c_spoilInts hR (hO.read hS) hS (by omega) (by omega)) ?_
    rintro _ w3 ⟨y3, l3, J3, I3, rfl, hO3, hR, hS, hl3⟩
    exact ⟨_, rfl, y3, y, ⟨l3, m.free⟩, J3, K, I3, rfl, hO3.toI, hP, hR.le (by omega), hS.to, by show (l3.length : Int) ≤ _; omega, by show m.free.length ≤ 4; omega⟩
  · refine Trip.mono' (c_pick (n := y.n) hR hS (by omega) (by omega) (by omega)) ?_
    (rintro _ w3 ⟨k, I3, rfl, hR, hS, b0, b1, b2⟩; refine ⟨_, rfl, ?_⟩)
    (refine St.build (α := Int) hS (by (repeat' (first | exact VsOf.nil | apply VsOf.cons | (apply VOf.int; first | assumption | (constructor <;> first | omega | (simp only [List.length_set, List.length_append, List.length_replicate, List.length_cons, List.length_nil, List.length_take, List.length_drop, List.length_map, List.length_singleton] at *; omega))) | exact VOf.bool | exact VOf.str))) rfl (by decide) ?_; intro x4 w4 I4 hO4 hS hs; refine ⟨_, rfl, ?_⟩; refine ⟨hs, ?_⟩)
    (refine Trip.mono' (c_one hR hO4 hS (by omega) (by simp) (by simp)) ?_; rintro _ w5 ⟨k5, I5, rfl, hR, hS, hk5⟩; have hki : InI k5 := (by simp only [List.mem_cons, List.not_mem_nil, or_false] at hk5; omega); refine ⟨_, rfl, ?_⟩)
    (refine go_oix hPu b0 (by omega) ?_; refine st_int hPu hS b0 (by omega) hki ?_; intro w9 I9 hP9 hS; exact ⟨x, y, ⟨m.words, m.free.set k.toNat k5⟩, J, I9, _, rfl, hO, hP9.toI, hR.le (by omega), hS.to, by show (m.words.length : Int) ≤ _; omega, by simp; omega⟩)
  · (refine St.build (α := Int) hS (by (repeat' (first | exact VsOf.nil | apply VsOf.cons | (apply VOf.int; first | assumption | (constructor <;> first | omega | (simp only [List.length_set, List.length_append, List.length_replicate, List.length_cons, List.length_nil, List.length_take, List.length_drop, List.length_map, List.length_singleton] at *; omega))) | exact VOf.bool | exact VOf.str))) rfl (by decide) ?_; intro x4 w4 I4 hO4 hS hs; refine ⟨_, rfl, ?_⟩; refine ⟨hs, ?_⟩)
    refine Trip.mono' (c_pick (n := y.n) hR hS (by omega) (by omega) (by omega)) ?_
    (rintro _ w3 ⟨k, I3, rfl, hR, hS, b0, b1, b2⟩; refine ⟨_, rfl, ?_⟩)
    replace hS := hS.front (I := I4)
    (refine Trip.mono' (c_one hR hO4 hS (by omega) (by simp) (by simp)) ?_; rintro _ w5 ⟨k5, I5, rfl, hR, hS, hk5⟩; have hki : InI k5 := (by simp only [List.mem_cons, List.not_mem_nil, or_false] at hk5; omega); refine ⟨_, rfl, ?_⟩)
    (refine go_oix hPu b0 (by omega) ?_; refine st_int hPu hS b0 (by omega) hki ?_; intro w9 I9 hP9 hS; exact ⟨x, y, ⟨m.words, m.free.set k.toNat k5⟩, J, I9, _, rfl, hO, hP9.toI, hR.le (by omega), hS.to, by show (m.words.length : Int) ≤ _; omega, by simp; omega⟩)
  · have hcut := hPu.cut (lo := 1) (hi := y.n) (by omega) (by omega) (by omega)
    exact ⟨⟨by omega, by omega⟩, x, _, ⟨m.words, (m.free.take (y.n : Int).toNat).drop (1 : Int).toNat⟩, J, K, I2, rfl, hO, hcut.toI, hR.le (by omega), hS.to, by show (m.words.length : Int) ≤ _; omega, by simp; omega⟩
  · simp only [decide_eq_true_eq, decide_eq_false_iff_not, Bool.and_eq_true, Bool.and_eq_false_iff, Bool.or_eq_true, Bool.or_eq_false_iff, Bool.not_eq_true', Bool.not_eq_false', Bool.not_true, Bool.not_false, Bool.false_eq_true, Bool.true_eq_false, Int.not_lt, Int.not_le, ge_iff_le, gt_iff_lt, Bool.not_eq_eq_eq_not, Bool.true_or, Bool.or_true, Bool.false_or, Bool.or_false, Bool.true_and, Bool.and_true, false_or, or_false, true_and, and_true, Decidable.not_not] at hc
    refine Trip.mono' (c_pick (n := x.n) hR hS (by omega) (by omega) (by omega)) ?_
    (rintro _ w3 ⟨k, I3, rfl, hR, hS, b0, b1, b2⟩; refine ⟨_, rfl, ?_⟩)
    (refine St.build (α := Int) hS (by (repeat' (first | exact VsOf.nil | apply VsOf.cons | (apply VOf.int; first | assumption | (constructor <;> first | omega | (simp only [List.length_set, List.length_append, List.length_replicate, List.length_cons, List.length_nil, List.length_take, List.length_drop, List.length_map, List.length_singleton] at *; omega))) | exact VOf.bool | exact VOf.str))) rfl (by decide) ?_; intro x4 w4 I4 hO4 hS hs; refine ⟨_, rfl, ?_⟩; refine ⟨hs, ?_⟩)
    (refine Trip.mono' (c_one hR hO4 hS (by omega) (by simp) (by simp)) ?_; rintro _ w5 ⟨k5, I5, rfl, hR, hS, hk5⟩; have hki : InI k5 := (by simp only [List.mem_cons, List.not_mem_nil, or_false] at hk5; omega); refine ⟨_, rfl, ?_⟩)
    (refine go_oix hOu b0 (by omega) ?_; refine st_int hOu hS b0 (by omega) hki ?_; intro w9 I9 hP9 hS; exact ⟨x, y, ⟨m.words.set k.toNat k5, m.free⟩, I9, K, _, rfl, hP9.toI, hP, hR.le (by omega), hS.to, by simp; omega, by show m.free.length ≤ 4; omega⟩)
  · simp only [decide_eq_true_eq, decide_eq_false_iff_not, Bool.and_eq_true, Bool.and_eq_false_iff, Bool.or_eq_true, Bool.or_eq_false_iff, Bool.not_eq_true', Bool.not_eq_false', Bool.not_true, Bool.not_false, Bool.false_eq_true, Bool.true_eq_false, Int.not_lt, Int.not_le, ge_iff_le, gt_iff_lt, Bool.not_eq_eq_eq_not, Bool.true_or, Bool.or_true, Bool.false_or, Bool.or_false, Bool.true_and, Bool.and_true, false_or, or_false, true_and, and_true, Decidable.not_not] at hc
    (refine St.build (α := Int) hS (by (repeat' (first | exact VsOf.nil | apply VsOf.cons | (apply VOf.int; first | assumption | (constructor <;> first | omega | (simp only [List.length_set, List.length_append, List.length_replicate, List.length_cons, List.length_nil, List.length_take, List.length_drop, List.length_map, List.length_singleton] at *; omega))) | exact VOf.bool | exact VOf.str))) rfl (by decide) ?_; intro x4 w4 I4 hO4 hS hs; refine ⟨_, rfl, ?_⟩; refine ⟨hs, ?_⟩)
    refine Trip.mono' (c_pick (n := x.n) hR hS (by omega) (by omega) (by omega)) ?_
    (rintro _ w3 ⟨k, I3, rfl, hR, hS, b0, b1, b2⟩; refine ⟨_, rfl, ?_⟩)
    replace hS := hS.front (I := I4)
    (refine Trip.mono' (c_one hR hO4 hS (by omega) (by simp) (by simp)) ?_; rintro _ w5 ⟨k5, I5, rfl, hR, hS, hk5⟩; have hki : InI k5 := (by simp only [List.mem_cons, List.not_mem_nil, or_false] at hk5; omega); refine ⟨_, rfl, ?_⟩)
    (refine go_oix hOu b0 (by omega) ?_; refine st_int hOu hS b0 (by omega) hki ?_; intro w9 I9 hP9 hS; exact ⟨x, y, ⟨m.words.set k.toNat k5, m.free⟩, I9, K, _, rfl, hP9.toI, hP, hR.le (by omega), hS.to, by simp; omega, by show m.free.length ≤ 4; omega⟩)
  · exact ⟨x, y, m, J, K, I2, rfl, hO, hP, hR.le (by omega), hS.to, by omega, by omega⟩
  · exact ⟨x, y, m, J, K, I2, rfl, hO, hP, hR.le (by omega), hS.to, by omega, by omega⟩

theorem c_DrawCellOf {code : List UInt8} (hx : Read v x code) : Mk Try.prog 51 #[x.val] v fun r J => ∃ y t, ∃ (m : MemD) (n : Int), ∃ J1 J2, r = .tuple #[.agg #[y.val, t.val], .int .i64 n] ∧ OwnI y m.words J1 ∧ OwnI t m.free J2 ∧ InI n ∧ (m.words.length : Int) ≤ 81 ∧ m.free.length ≤ 4 ∧ J = J1 ++ J2 := by
  refine of51 _ _ _ ?_
  unfold vc51
  refine Mk.use (c_newReader hx) (.refl v) ?_
  rintro _ w1 J1 ⟨a, rfl, hR⟩ hS hsub
  refine ⟨_, rfl, ?_⟩
  refine Trip.mono' (c_anyMemory hR hS (by omega)) ?_
  rintro _ w2 ⟨x, y, m, J, K, I, rfl, hO, hP, hR, hS, hwl, hfl⟩
  refine ⟨_, _, rfl, ?_⟩
  refine Trip.mono' (c_blockFor hR (hO.read hS) hS (by omega) (by omega)) ?_
  rintro _ w3 ⟨j, I3, rfl, hj, hR, hS⟩
  exact ⟨_, rfl, J ++ K, (hS.to : St v w3 (J ++ (K ++ []))).perm (by simp), x, y, m, j, J, K, rfl, hO, hP, hj, hwl, hfl, rfl⟩
end
end Go.Vc

namespace Go.Vc
open Go Go.Proofs Go.RowKit
set_option linter.all false
section
variable {u v w : World} {x y xf xg z s t : Sl} {l ws fs ad list free todo : List Int} {h g : List CellD} {m m' : MemD} {b n k f e q c tag : Int} {N i : Nat} {a : Addr} {I J K L R R1 F : Items} {F1 : Items → Items}

theorem cofR_ok (h : 0 ≤ cofR m n) : vmem m ∧ blkB m.words (adrs m.words) n = true :=
  Classical.byContradiction fun hd => by rw [cofR_of hd] at h; omega
theorem cofR_t (V : VM m N) (hb : blkB m.words (adr m.words N) n = true) : cofR m n = idxI (adr m.words N) (n - 1000) := by
  unfold cofR; rw [vmemB_iff.2 ⟨N, V⟩, adrs_eq V.blocks, hb]; rfl
end
end Go.Vc

namespace Go.Vc
open Go Go.Proofs Go.RowKit
set_option linter.all false

/-- the numbers below n that have a mark -/
def liv (p : Nat → Bool) : Nat → List Int
  | 0 => []
  | n + 1 => bif p n then liv p n ++ [(n : Int)] else liv p n
section
variable {p p' : Nat → Bool} {n q : Nat}
theorem liv_t (h : p n = true) : liv p (n + 1) = liv p n ++ [(n : Int)] := by show (bif p n then _ else _) = _; rw [h]; rfl
theorem liv_f (h : p n = false) : liv p (n + 1) = liv p n := by show (bif p n then _ else _) = _; rw [h]; rfl
theorem liv_cong : ∀ {n : Nat}, (∀ i, i < n → p i = p' i) → liv p n = liv p' n
  | 0, _ => rfl
  | n + 1, h => by
    have ih := liv_cong (n := n) fun i hi => h i (by omega)
    have hn := h n (by omega)
    cases hp : p n with
    | true => rw [liv_t hp, liv_t (hn ▸ hp), ih]
    | false => rw [liv_f hp, liv_f (hn ▸ hp), ih]
theorem liv_more (h : ∀ i, n ≤ i → p i = false) : liv p (n + q) = liv p n := by
  induction q with
  | zero => rfl
  | succ q ih => rw [← Nat.add_assoc, liv_f (h _ (by omega)), ih]
theorem liv_lt : ∀ {n : Nat}, ∀ a ∈ liv p n, 0 ≤ a ∧ a < n
  | 0, a, h => by cases h
  | n + 1, a, h => by
    cases hp : p n with
    | true =>
      rw [liv_t hp, List.mem_append, List.mem_singleton] at h
      rcases h with h | h
      · have := liv_lt a h; omega
      · omega
    | false => rw [liv_f hp] at h; have := liv_lt a h; omega
theorem liv_pw : ∀ {n : Nat}, (liv p n).Pairwise (· < ·)
  | 0 => List.Pairwise.nil
  | n + 1 => by
    cases hp : p n with
    | true =>
      rw [liv_t hp, List.pairwise_append]
      refine ⟨liv_pw, List.pairwise_singleton _ _, fun a ha b hb => ?_⟩
      rw [List.mem_singleton] at hb
      have := liv_lt a ha; omega
    | false => rw [liv_f hp]; exact liv_pw
theorem liv_len : (liv p n).length ≤ n := by
  induction n with
  | zero => exact Nat.le_refl _
  | succ n ih =>
    cases hp : p n with
    | true => rw [liv_t hp]; simp; exact ih
    | false => rw [liv_f hp]; omega
end
section
variable {u v w : World} {x y xf xg z s t : Sl} {l ws fs ad list free todo : List Int} {h g : List CellD} {m m' : MemD} {b n k f e q c tag : Int} {N i : Nat} {a : Addr} {I J K L R R1 F : Items} {F1 : Items → Items}

def liveC (h : List CellD) : Nat → Bool := fun i => decide (0 < (nth h (i : Int)).count)
theorem c_liveInL (hx : Read v x h) : Mk Try.prog 57 #[x.val] v fun r J => ∃ z : Sl, r = z.val ∧ Own v z (liv (liveC h) h.length) J := by
  refine of57 _ _ _ ?_
  unfold vc57
  have hn := hx.n
  have hl := hx.le
  have hS := St.refl v
  refine St.build (α := Int) hS (by (repeat' (first | exact VsOf.nil | apply VsOf.cons | (apply VOf.int; first | assumption | (constructor <;> first | omega | (simp only [List.length_set, List.length_append, List.length_replicate, List.length_cons, List.length_nil, List.length_take, List.length_drop, List.length_map, List.length_singleton] at *; omega))) | exact VOf.bool | exact VOf.str))) rfl (by decide) ?_
  intro z w1 J1 hO hS hs
  refine ⟨_, rfl, ?_⟩
  refine ⟨fun z i w => ∃ J, Own v z (liv (liveC h) i.toNat) J ∧ St v w (J ++ []) ∧ 0 ≤ i ∧ i ≤ h.length, fun _ i _ => (h.length - i).toNat, ⟨J1, hO, hS, by omega, by omega⟩, ?_⟩
  clear hO hS
  rintro z i w ⟨J, hO, hS, i0, i1⟩
  dsimp only
  have hll := liv_len (p := liveC h) (n := i.toNat)
  refine ⟨fun hi => ?_, fun hi => ?_⟩
  · simp only [decide_eq_true_eq, decide_eq_false_iff_not, Bool.and_eq_true, Bool.and_eq_false_iff, Bool.or_eq_true, Bool.or_eq_false_iff, Bool.not_eq_true', Bool.not_eq_false', Bool.not_true, Bool.not_false, Bool.false_eq_true, Bool.true_eq_false, Int.not_lt, Int.not_le, ge_iff_le, gt_iff_lt, Bool.not_eq_eq_eq_not, Bool.true_or, Bool.or_true, Bool.false_or, Bool.or_false, Bool.true_and, Bool.and_true, false_or, or_false, true_and, and_true, Decidable.not_not] at hi
    have hxr := hx.mono hS.sub
    refine go_ix hxr i0 (by omega) ?_
    refine ld_count (hxr.src (.refl w)) i0 (by omega) ?_
    intro c0 c1
    have e : (i + 1).toNat = i.toNat + 1 := by omega
    have e2 : ((i.toNat : Nat) : Int) = i := by omega
    refine ⟨fun hq => ?_, fun hq => ?_⟩
    · have hp : liveC h i.toNat = true := by unfold liveC; rw [e2]; exact hq
      refine St.build (α := Int) hS (by (repeat' (first | exact VsOf.nil | apply VsOf.cons | (apply VOf.int; first | assumption | (constructor <;> first | omega | (simp only [List.length_set, List.length_append, List.length_replicate, List.length_cons, List.length_nil, List.length_take, List.length_drop, List.length_map, List.length_singleton] at *; omega))) | exact VOf.bool | exact VOf.str))) rfl (by decide) ?_
      intro x4 w4 I4 hO4 hS hs
      refine ⟨_, rfl, ?_⟩
      refine Own.append hO hS (Own.src hO4 hS) (by simp; omega) (by decide) ?_
      intro x5 w5 I5 hO5 hS
      refine ⟨_, rfl, ?_⟩
      refine go_wr (by omega) (by omega) ?_
      exact ⟨⟨I5, by rw [e, liv_t hp, e2]; exact hO5, hS.to, by omega, by omega⟩, by omega⟩
    · have hp : liveC h i.toNat = false := by unfold liveC; rw [e2]; exact hq
      refine go_wr (by omega) (by omega) ?_
      exact ⟨⟨J, by rw [e, liv_f hp]; exact hO, hS.to, by omega, by omega⟩, by omega⟩
  · simp only [decide_eq_true_eq, decide_eq_false_iff_not, Bool.and_eq_true, Bool.and_eq_false_iff, Bool.or_eq_true, Bool.or_eq_false_iff, Bool.not_eq_true', Bool.not_eq_false', Bool.not_true, Bool.not_false, Bool.false_eq_true, Bool.true_eq_false, Int.not_lt, Int.not_le, ge_iff_le, gt_iff_lt, Bool.not_eq_eq_eq_not, Bool.true_or, Bool.or_true, Bool.false_or, Bool.or_false, Bool.true_and, Bool.and_true, false_or, or_false, true_and, and_true, Decidable.not_not] at hi
    have e : i.toNat = h.length := by omega
    rw [e] at hO
    exact ⟨J, by simpa using hS, z, rfl, hO⟩
theorem c_ascends (hx : Read v x l) (hp : l.Pairwise (· < ·)) : Fn Try.prog 55 #[x.val] v (.bool true) := by
  refine of55 _ _ _ ?_
  unfold vc55
  have hn := hx.n
  have hl := hx.le
  refine ⟨fun i w => w = v ∧ 1 ≤ i, fun i _ => (l.length - i).toNat, ⟨rfl, by omega⟩, ?_⟩
  rintro i _ ⟨rfl, i0⟩
  dsimp only
  refine ⟨fun hi => ?_, fun hi => ⟨rfl, .refl _⟩⟩
  simp only [decide_eq_true_eq, decide_eq_false_iff_not, Bool.and_eq_true, Bool.and_eq_false_iff, Bool.or_eq_true, Bool.or_eq_false_iff, Bool.not_eq_true', Bool.not_eq_false', Bool.not_true, Bool.not_false, Bool.false_eq_true, Bool.true_eq_false, Int.not_lt, Int.not_le, ge_iff_le, gt_iff_lt, Bool.not_eq_eq_eq_not, Bool.true_or, Bool.or_true, Bool.false_or, Bool.or_false, Bool.true_and, Bool.and_true, false_or, or_false, true_and, and_true, Decidable.not_not] at hi
  refine go_ix hx (by omega) (by omega) ?_
  refine ld_int hx (by omega) (by omega) ?_
  intro c0 c1
  refine go_wr (by omega) (by omega) ?_
  refine go_ix hx (by omega) (by omega) ?_
  refine ld_int hx (by omega) (by omega) ?_
  intro d0 d1
  have hlt : nth l (i - 1) < nth l i := by
    obtain ⟨j, rfl⟩ : ∃ j : Nat, i = (j : Int) + 1 := ⟨(i - 1).toNat, by omega⟩
    rw [show ((j : Int) + 1 - 1) = (j : Int) from by omega, show ((j : Int) + 1) = ((j + 1 : Nat) : Int) from by omega, nth_nat (by omega), nth_nat (by omega)]
    exact List.pairwise_iff_getElem.1 hp j (j + 1) (by omega) (by omega) (by omega)
  refine ⟨fun hq => ?_, fun hq => ?_⟩
  · simp only [decide_eq_true_eq, decide_eq_false_iff_not, Bool.and_eq_true, Bool.and_eq_false_iff, Bool.or_eq_true, Bool.or_eq_false_iff, Bool.not_eq_true', Bool.not_eq_false', Bool.not_true, Bool.not_false, Bool.false_eq_true, Bool.true_eq_false, Int.not_lt, Int.not_le, ge_iff_le, gt_iff_lt, Bool.not_eq_eq_eq_not, Bool.true_or, Bool.or_true, Bool.false_or, Bool.or_false, Bool.true_and, Bool.and_true, false_or, or_false, true_and, and_true, Decidable.not_not] at hq; omega
  · refine go_wr (by omega) (by omega) ?_
    exact ⟨⟨rfl, by omega⟩, by omega⟩

theorem VM.heap_len (V : VM m N) : ∃ q, N = (heapM m).length + q ∧ cellsL m.words (adr m.words N) = heapM m ++ List.replicate q free0 := by
  obtain ⟨q, hq⟩ := VM.ext_ V.blocks
  rw [← V.heapM_eq] at hq
  refine ⟨q, ?_, hq⟩
  have h1 := congrArg List.length hq
  rw [cellsL_len, adr_len] at h1
  simpa using h1
/-- the cells of words -/
def liveW (ws : List Int) : Nat → Bool := fun i => decide (0 < nth ws (posA ws i))
theorem l_CellOfAll : LawTrue Try.prog 13 := by
  intro v x0 bs hb
  refine of13 _ _ _ ?_
  unfold vc13
  refine ⟨fun hc => ⟨rfl, .refl v⟩, fun hc => ?_⟩
  simp only [decide_eq_true_eq, decide_eq_false_iff_not, Bool.and_eq_true, Bool.and_eq_false_iff, Bool.or_eq_true, Bool.or_eq_false_iff, Bool.not_eq_true', Bool.not_eq_false', Bool.not_true, Bool.not_false, Bool.false_eq_true, Bool.true_eq_false, Int.not_lt, Int.not_le, ge_iff_le, gt_iff_lt, Bool.not_eq_eq_eq_not, Bool.true_or, Bool.or_true, Bool.false_or, Bool.or_false, Bool.true_and, Bool.and_true, false_or, or_false, true_and, and_true, Decidable.not_not] at hc
  have hcode := hb.read (by omega)
  refine Mk.use (c_DrawCellOf hcode) (.refl v) ?_
  rintro _ w1 _ ⟨x, y, m, n, J1, J2, rfl, hO, hP, hn, hwl, hfl, rfl⟩ hS hsub
  replace hS : St v w1 (J1 ++ (J2 ++ [])) := hS.perm (by simp)
  refine ⟨_, _, _, rfl, ?_⟩
  refine Fn.use (c_implCellOf (hO.read hS) (hP.read hS) hn) hS ?_
  intro w2 hS _
  refine ⟨_, rfl, ?_⟩
  refine Fn.use (c_specCellOf (hO.read hS) (hP.read hS) hn) hS ?_
  intro w3 hS _
  refine ⟨_, rfl, _, fun _ => c_implValidMemory (hO.read hS) (hP.read hS), fun hc => ?_, fun hc => ?_⟩
  · refine Fn.use (c_specCellOf (hO.read hS) (hP.read hS) hn) hS ?_
    intro w4 hS _
    exact ⟨_, rfl, by simp, hS.sub⟩
  have hv : vmemB m = true := by simpa using hc
  obtain ⟨N, V⟩ := vmemB_iff.1 hv
  have hend := V.blocks.2
  have hxn := (hO v).n
  obtain ⟨q, hNq, hcq⟩ := V.heap_len
  refine Mk.usew (c_implHeapOf (hO.read hS) (hP.read hS)) hS ?_
  rintro _ w5 J5 ⟨z, rfl, hZ⟩ hS _
  rw [hoR_t ⟨N, V⟩] at hZ
  refine ⟨_, _, rfl, ?_⟩
  refine St.build (α := Int) hS (by (repeat' (first | exact VsOf.nil | apply VsOf.cons | (apply VOf.int; first | assumption | (constructor <;> first | omega | (simp only [List.length_set, List.length_append, List.length_replicate, List.length_cons, List.length_nil, List.length_take, List.length_drop, List.length_map, List.length_singleton] at *; omega))) | exact VOf.bool | exact VOf.str))) rfl (by decide) ?_
  intro x6 w6 J6 hO6 hS hs
  refine ⟨_, rfl, ?_⟩
  refine ⟨fun s at_ w => ∃ (j : Nat) (J : Items), Own v s (liv (liveW m.words) j) J ∧ St v w (J ++ (J5 ++ (J1 ++ (J2 ++ [])))) ∧ j ≤ N ∧ 0 ≤ at_ ∧ at_ ≤ posA m.words j ∧ ∀ i, i < j → posA m.words i < at_, fun _ at_ _ => (m.words.length - at_).toNat, ⟨0, J6, hO6, hS, by omega, by omega, Int.le_refl 0, fun i hi => absurd hi (by omega)⟩, ?_⟩
  clear hO6 hS
  rintro s at_ w ⟨j, J, hO6, hS, hj, a0, a1, a2⟩
  dsimp only
  have hll := liv_len (p := liveW m.words) (n := j)
  have hN2 := V.blocks.le
  refine ⟨fun hi => ?_, fun hi => ?_⟩
  · simp only [decide_eq_true_eq, decide_eq_false_iff_not, Bool.and_eq_true, Bool.and_eq_false_iff, Bool.or_eq_true, Bool.or_eq_false_iff, Bool.not_eq_true', Bool.not_eq_false', Bool.not_true, Bool.not_false, Bool.false_eq_true, Bool.true_eq_false, Int.not_lt, Int.not_le, ge_iff_le, gt_iff_lt, Bool.not_eq_eq_eq_not, Bool.true_or, Bool.or_true, Bool.false_or, Bool.or_false, Bool.true_and, Bool.and_true, false_or, or_false, true_and, and_true, Decidable.not_not] at hi
    refine go_wr (by omega) (by omega) ?_
    refine Fn.use (c_implCellOf (n := 1000 + at_) (hO.read hS) (hP.read hS) ⟨by omega, by omega⟩) hS ?_
    intro w7 hS _
    refine ⟨_, rfl, ?_⟩
    by_cases hlt : at_ < posA m.words j
    · have hneg : cofR m (1000 + at_) < 0 := by
        refine Int.not_le.1 fun h => ?_
        have h1 := (cofR_ok h).2
        rw [adrs_eq V.blocks] at h1
        obtain ⟨_, b2, _⟩ := blkB_iff.1 h1
        obtain ⟨i, i1, i2⟩ := mem_adr.1 b2
        rcases Nat.lt_or_ge i j with h2 | h2
        · have := a2 i h2; omega
        · have := posA_le (ws := m.words) (i := j) (i - j)
          rw [show j + (i - j) = i from by omega] at this
          omega
      refine ⟨fun hq => ?_, fun hq => ?_⟩
      · simp only [decide_eq_true_eq, decide_eq_false_iff_not, Bool.and_eq_true, Bool.and_eq_false_iff, Bool.or_eq_true, Bool.or_eq_false_iff, Bool.not_eq_true', Bool.not_eq_false', Bool.not_true, Bool.not_false, Bool.false_eq_true, Bool.true_eq_false, Int.not_lt, Int.not_le, ge_iff_le, gt_iff_lt, Bool.not_eq_eq_eq_not, Bool.true_or, Bool.or_true, Bool.false_or, Bool.or_false, Bool.true_and, Bool.and_true, false_or, or_false, true_and, and_true, Decidable.not_not] at hq; omega
      · refine go_wr (by omega) (by omega) ?_
        exact ⟨rfl, rfl, ⟨j, J, hO6, hS, hj, by omega, by omega, fun i hi => by have := a2 i hi; omega⟩, by omega⟩
    · have ha : at_ = posA m.words j := by omega
      have hjN : j < N := by
        refine Classical.byContradiction fun h => ?_
        have : j = N := by omega
        rw [this] at ha; omega
      have hsucc := posA_succ (ws := m.words) (n := j)
      have hsz := szA_b m.words (posA m.words j)
      have hmem : at_ ∈ adr m.words N := mem_adr.2 ⟨j, hjN, ha⟩
      have hbelow : ∀ i, i < j + 1 → posA m.words i < at_ + 1 := fun i hi => by
        rcases Nat.lt_or_ge i j with h2 | h2
        · have := a2 i h2; omega
        · rw [show i = j from by omega]; omega
      have hcof : 0 < nth m.words at_ → cofR m (1000 + at_) = j := fun hl => by
        have hb2 : blkB m.words (adr m.words N) (1000 + at_) = true := blkB_iff.2 ⟨by omega, by rw [show 1000 + at_ - 1000 = at_ from by omega]; exact hmem, by rw [show 1000 + at_ - 1000 = at_ from by omega]; exact hl⟩
        rw [cofR_t V hb2, show 1000 + at_ - 1000 = at_ from by omega, ha]
        exact idxI_adr hjN
      have hcof2 : 0 ≤ cofR m (1000 + at_) → 0 < nth m.words at_ := fun h => by
        have h1 := (cofR_ok h).2
        obtain ⟨_, _, b3⟩ := blkB_iff.1 h1
        rwa [show 1000 + at_ - 1000 = at_ from by omega] at b3
      refine ⟨fun hq => ?_, fun hq => ?_⟩
      · simp only [decide_eq_true_eq, decide_eq_false_iff_not, Bool.and_eq_true, Bool.and_eq_false_iff, Bool.or_eq_true, Bool.or_eq_false_iff, Bool.not_eq_true', Bool.not_eq_false', Bool.not_true, Bool.not_false, Bool.false_eq_true, Bool.true_eq_false, Int.not_lt, Int.not_le, ge_iff_le, gt_iff_lt, Bool.not_eq_eq_eq_not, Bool.true_or, Bool.or_true, Bool.false_or, Bool.or_false, Bool.true_and, Bool.and_true, false_or, or_false, true_and, and_true, Decidable.not_not] at hq
        have hl := hcof2 hq
        rw [hcof hl]
        have hp : liveW m.words j = true := by unfold liveW; rw [← ha]; exact decide_eq_true hl
        refine St.build (α := Int) hS (by (repeat' (first | exact VsOf.nil | apply VsOf.cons | (apply VOf.int; first | assumption | (constructor <;> first | omega | (simp only [List.length_set, List.length_append, List.length_replicate, List.length_cons, List.length_nil, List.length_take, List.length_drop, List.length_map, List.length_singleton] at *; omega))) | exact VOf.bool | exact VOf.str))) rfl (by decide) ?_
        intro x8 w8 J8 hO8 hS hs
        refine ⟨_, rfl, ?_⟩
        refine Own.append hO6 hS (Own.src hO8 hS) (by simp; omega) (by decide) ?_
        intro x9 w9 J9 hO9 hS
        refine ⟨_, rfl, ?_⟩
        refine go_wr (by omega) (by omega) ?_
        exact ⟨rfl, rfl, ⟨j + 1, J9, by rw [liv_t hp]; exact hO9, hS.to, by omega, by omega, by omega, hbelow⟩, by omega⟩
      · simp only [decide_eq_true_eq, decide_eq_false_iff_not, Bool.and_eq_true, Bool.and_eq_false_iff, Bool.or_eq_true, Bool.or_eq_false_iff, Bool.not_eq_true', Bool.not_eq_false', Bool.not_true, Bool.not_false, Bool.false_eq_true, Bool.true_eq_false, Int.not_lt, Int.not_le, ge_iff_le, gt_iff_lt, Bool.not_eq_eq_eq_not, Bool.true_or, Bool.or_true, Bool.false_or, Bool.or_false, Bool.true_and, Bool.and_true, false_or, or_false, true_and, and_true, Decidable.not_not] at hq
        have hp : liveW m.words j = false := by
          unfold liveW; rw [← ha]
          exact decide_eq_false fun hl => by rw [hcof hl] at hq; omega
        refine go_wr (by omega) (by omega) ?_
        exact ⟨rfl, rfl, ⟨j + 1, J, by rw [liv_f hp]; exact hO6, hS, by omega, by omega, by omega, hbelow⟩, by omega⟩
  · simp only [decide_eq_true_eq, decide_eq_false_iff_not, Bool.and_eq_true, Bool.and_eq_false_iff, Bool.or_eq_true, Bool.or_eq_false_iff, Bool.not_eq_true', Bool.not_eq_false', Bool.not_true, Bool.not_false, Bool.false_eq_true, Bool.true_eq_false, Int.not_lt, Int.not_le, ge_iff_le, gt_iff_lt, Bool.not_eq_eq_eq_not, Bool.true_or, Bool.or_true, Bool.false_or, Bool.or_false, Bool.true_and, Bool.and_true, false_or, or_false, true_and, and_true, Decidable.not_not] at hi
    have hjN : j = N := by
      rcases Nat.lt_or_ge j N with h2 | h2
      · have := posA_lt (ws := m.words) h2; omega
      · omega
    subst hjN
    have hfin : liv (liveW m.words) j = liv (liveC (heapM m)) (heapM m).length := by
      have e1 : liv (liveW m.words) j = liv (liveC (cellsL m.words (adr m.words j))) j := liv_cong fun i hi => by
        unfold liveW liveC
        rw [nth_cellsL (by omega) (by rw [adr_len]; omega), nth_adr hi, cellA_count]
      rw [e1, hcq]
      rw [hNq]
      have e2 : liv (liveC (heapM m ++ List.replicate q free0)) ((heapM m).length + q) = liv (liveC (heapM m ++ List.replicate q free0)) (heapM m).length := liv_more fun i hi => by
        unfold liveC
        rw [nth_right (by omega)]
        refine decide_eq_false fun h => ?_
        unfold nth List.getD at h
        rw [List.getElem?_replicate] at h
        split at h
        · exact absurd h (by decide)
        · exact absurd h (by decide)
      rw [e2]
      exact liv_cong fun i hi => by unfold liveC; rw [nth_left (by omega) (by omega)]
    refine ⟨_, fun _ => c_ascends (hO6.read hS) liv_pw, fun hq => ?_, fun hq => ?_⟩
    · refine Mk.usew (c_liveInL (hZ.read hS)) hS ?_
      rintro _ w8 J8 ⟨z8, rfl, hO8⟩ hS _
      refine ⟨_, rfl, _, c_equalInts (hO6.read hS) (Own.read (Own.ofInts (u' := v) hO8) hS), ?_, hS.sub⟩
      rw [decide_eq_true hfin]
    · rw [hv] at hq; cases hq
end
end Go.Vc
