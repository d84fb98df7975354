/- Part of the proofs about the heaps and memories: a law is joined in the text whose name ends in W and the law. -/
import Derived.Test.YtelgbndeeccblaaDoorEG1
namespace Go.Vc
open Go Go.Proofs Go.RowKit
set_option linter.all false
def GenC (b : Int) : Prop := ∀ (u : World) (a : Addr) (R : Items) (x y z : Sl) (ds : List DeclD) (fs : List FunD) (vars : List Int) (t m : Int) (w : World), PrgG u R x y ds fs → Read u z vars → vars.length + 4 * b ≤ 99 → vars.length ≤ 99 → 0 ≤ t → t ≤ 4 → m + Pg b ≤ 999900000 → GS u a R m w →
  Trip Tryd.prog 117 #[.pointer (some (a.add 0)), .agg #[x.val, y.val], z.val, .int .i64 t, .int .i64 b] w fun r w' => ∃ n1 n2 s, r = .agg #[.int .i64 n1, .int .i64 n2, Sl.val s] ∧ GQ u a R (m + Pg b) (Pg b) n1 n2 s w'
theorem Pg_pos (b : Int) : 30 ≤ Pg b := by unfold Pg; split <;> omega
theorem Pg_at {b : Int} (h : 1 ≤ b) : Pg b = 130 * b - 100 := by unfold Pg; rw [if_neg (by omega)]
theorem tdiv_pos {b n : Int} (h0 : 0 ≤ b) (hn : 1 ≤ n) : 0 ≤ b.tdiv n ∧ b.tdiv n ≤ b := ⟨Int.tdiv_nonneg h0 (by omega), Int.tdiv_le_self _ h0⟩
theorem Pg_split {b n : Int} (h0 : 0 ≤ b) (hn : n = 0 ∨ n = 1 ∨ n = 2 ∨ n = 3) : n * Pg (b.tdiv n) ≤ 90 ∨ n * Pg (b.tdiv n) ≤ 130 * b - 100 := by
  rcases hn with rfl | rfl | rfl | rfl
  · left; simp
  · rw [Int.tdiv_one]; unfold Pg; split <;> omega
  · rw [Int.tdiv_eq_ediv_of_nonneg h0]; unfold Pg; split <;> omega
  · rw [Int.tdiv_eq_ediv_of_nonneg h0]; unfold Pg; split <;> omega
section
variable {u u' v w : World} {x y z s : Sl} {ds : List DeclD} {fs : List FunD} {a : Addr} {I J L R : Items} {F : Items → Items} {m m' N N' n n1 n2 op num t b : Int} {l vars types : List Int} {ks : List ExprD} {e : ExprD}
theorem GD.decl {ds : List DeclD} (h : GD ds) : ∀ d ∈ ds, 0 ≤ d.frm ∧ d.frm ≤ 4 ∧ 0 ≤ d.to_ ∧ d.to_ ≤ 4 := by
  rcases h.cases with rfl | rfl | rfl | rfl | rfl <;> decide
theorem c_leaf (hp : PrgG u R x y ds fs) (hv : Read u z vars) (hvl : vars.length ≤ 99) (t0 : 0 ≤ t) (t1 : t ≤ 4) (hm : m + 30 ≤ 999900000) (h : GS u a R m w) :
    Trip Tryd.prog 120 #[.pointer (some (a.add 0)), .agg #[x.val, y.val], z.val, .int .i64 t] w fun r w' => ∃ n1 n2 s, r = .agg #[.int .i64 n1, .int .i64 n2, Sl.val s] ∧ GQ u a R (m + 25) 4 n1 n2 s w' := by
  refine of120 _ _ _ _ _ _ _ ?_
  unfold vc120
  refine gs_mkw (c_varsOfType (hv.mono h.sub) (by omega)) h fun xl l w1 u1 hu1 hs1 h hxl ⟨hl1, hl2⟩ => ?_
  have hln := hxl.n
  have hp1 := hp.mono hu1
  refine ⟨fun q w => (q = true → 0 < l.length) ∧ ∃ u2, Sub u1 u2 ∧ GS u2 a R (m + 1) w, ⟨fun hc => ?_, fun hc => ⟨rfl, rfl, rfl, rfl, rfl, fun h => (by cases h), u1, .refl _, h.le (by omega)⟩⟩, ?_⟩
  · simp only [bls] at hc
    refine gs_pick h (by omega) (by omega) (by omega) fun j w2 h _ _ _ => ⟨fun hc2 => ?_, fun hc2 => ?_⟩
    · refine gs_ints (l := []) h VsOf.nil rfl (by decide) fun x3 w3 u3 hu3 hs3 h hx3 => ?_
      obtain ⟨q, hq⟩ := gs_canMake (hp1.mono hu3) h hx3 t
      exact ⟨q, fun _ => hq, rfl, rfl, rfl, rfl, rfl, fun _ => by omega, u3, hu3, h⟩
    · refine ⟨false, fun hh => ?_, rfl, rfl, rfl, rfl, rfl, fun _ => by omega, u1, .refl _, h⟩
      rw [hc2] at hh; cases hh
  rintro q w2 ⟨hq, u2, hu2, h⟩
  refine ⟨fun hc => ?_, fun hc => ?_⟩
  · have hpos := hq hc
    refine gs_pick h (by omega) (by omega) (by omega) fun j w3 h j0 j1 _ => ?_
    have hxl2 := hxl.mono hu2
    refine go_ix hxl2 j0 (by omega) ?_
    refine ⟨_, ((hxl2.mono h.sub).int j0 (by omega)).1, ?_⟩
    have hlt := hl2 _ (nth_mem (l := l) j0 (by omega))
    refine gs_var h hlt.1 (by omega) fun n1 n2 x4 w4 u4 hu4 hs4 h he => ?_
    exact ⟨_, _, _, rfl, u4, (hu1.trans hu2).trans hu4, h.le (by omega), he.le (by omega)⟩
  · refine use_e (c_smallest t0 t1 u2 a R x y ds fs _ _ (hp1.mono hu2) (by omega) h) ?_
    intro n1 n2 x3 w3 hq3
    exact ⟨_, _, _, rfl, hq3.le (hu1.trans hu2) (by omega) (by omega)⟩
theorem gs_anyType (hp : PrgG u R x y ds fs) (hv : Read u z vars) (hm : m ≤ 999900000) (h : GS u a R m w) {K : Int → World → Prop} (k : ∀ j w' u', Sub u u' → GS u' a R (m + 1) w' → 0 ≤ j → j ≤ 4 → K j w') :
    Trip Tryd.prog 125 #[.pointer (some (a.add 0)), .agg #[x.val, y.val], z.val] w fun r w' => ∃ j, r = .int .i64 j ∧ K j w' := by
  refine of125 _ _ _ _ _ _ ?_
  unfold vc125
  refine gs_ints h (by (repeat' (first | exact VsOf.nil | apply VsOf.cons | (apply VOf.int; first | assumption | (constructor <;> first | omega | (simp only [List.length_set, List.length_append, List.length_replicate, List.length_cons, List.length_nil, List.length_take, List.length_drop, List.length_map, List.length_singleton] at *; omega))) | exact VOf.bool | exact VOf.str))) rfl (by decide) fun x1 w1 u1 hu1 hs1 h hx1 => ?_
  refine gs_one h hx1 (by omega) (by simp) (by simp) fun j w2 h hj => ?_
  have hj4 : 0 ≤ j ∧ j ≤ 4 := by simp only [List.mem_cons, List.not_mem_nil, or_false] at hj; omega
  obtain ⟨q, hq⟩ := gs_canMake (hp.mono hu1) h (hv.mono hu1) j
  exact ⟨q, fun _ => hq, fun _ => ⟨_, rfl, k 1 w2 u1 hu1 h (by omega) (by omega)⟩, fun _ => ⟨_, rfl, k j w2 u1 hu1 h hj4.1 hj4.2⟩⟩
theorem c_callable (hx : Read v x ds) (hd : ds.length ≤ 4) (hy : Read v y fs) (hf : ∀ f ∈ fs, f.params.length ≤ 3) (hl : fs.length ≤ 4) : Mk Tryd.prog 128 #[.agg #[x.val, y.val], .int .i64 t] v fun r J => ∃ (s : Sl) (l : List Int), r = s.val ∧ Own v s l J ∧ (l.length ≤ 1000 ∧ ∀ i ∈ l, 1 ≤ i ∧ i < fs.length) := by
  refine of128 _ _ _ _ _ ?_
  unfold vc128
  have hyn := hy.n
  refine St.build (α := Int) (l := []) (St.refl v) VsOf.nil rfl (by decide) ?_
  intro s w J hO hS hs
  refine ⟨_, rfl, ?_⟩
  refine ⟨fun s i w => ∃ (I R : Items) (l : List Int), Own v s l I ∧ St v w (I ++ R) ∧ 1 ≤ i ∧ i ≤ 5 ∧ (l.length : Int) ≤ i ∧ ∀ k ∈ l, 1 ≤ k ∧ k < fs.length, fun _ i _ => (fs.length - i).toNat, ⟨J, [], [], hO, hS, by omega, by omega, by simp, by simp⟩, ?_⟩
  clear hO hS hs
  rintro s i w ⟨I, R, l, hO, hS, i0, i1, hle, hm⟩
  dsimp only
  refine ⟨fun hi => ?_, fun hi => ?_⟩
  · simp only [bls] at hi
    have hil : i < fs.length := by omega
    have h0 : 0 ≤ i := by omega
    obtain ⟨f1, k1, e1, e2, _, _, _, _, _, _, r1, _⟩ := (hy.src (.refl v)).ofFunD h0 hil
    have hn1 := r1.n
    have hix := hy.ix h0 hil
    have hpl := hf _ (nth_mem (l := fs) h0 hil)
    have cell : ∀ {w : World} {p : Addr} {c : Value}, Sub v w → v.cell? p = some c → w.cell? p = some c := fun hs h => cell_sub hs h
    refine ⟨hix, _, cell hS.sub e2, ?_⟩
    refine ⟨fun q k w => ∃ R, St v w (I ++ R) ∧ 0 ≤ k ∧ k ≤ 3, fun _ k _ => (f1.n - k).toNat, ⟨R, hS, by omega, by omega⟩, ?_⟩
    rintro q k w1 ⟨R1, hS1, k0, k1⟩
    dsimp only
    refine ⟨hix, f1, cell hS1.sub e1, fun hk => ?_, fun hk => ?_⟩
    · simp only [bls] at hk
      refine ⟨fun _ => hix, f1, fun _ => cell hS1.sub e1, fun _ => r1.ix k0 (by omega), _, fun _ => ((r1.mono hS1.sub).int k0 (by omega)).1, fun _ => ?_, fun _ => ?_⟩
      · refine St.build (α := Int) (l := []) hS1 VsOf.nil rfl (by decide) ?_
        intro x4 w4 I4 hO4 hS4 hs4
        obtain ⟨q, hq⟩ := c_canMake (z := x4) (t := nth (nth fs i).params k) (hx.mono hS4.sub) hd (hy.mono hS4.sub) hf hl (hO4.read hS4)
        refine ⟨_, rfl, hs4, q, hq, ?_⟩
        refine go_wr (by omega) (by omega) ?_
        exact ⟨rfl, rfl, ⟨I4 ++ R1, hS4.to, by omega, by omega⟩, by omega⟩
      · refine ⟨.refl _, ?_⟩
        refine go_wr (by omega) (by omega) ?_
        exact ⟨rfl, rfl, ⟨R1, hS1, by omega, by omega⟩, by omega⟩
    · refine ⟨fun hq => ?_, fun hq => ?_⟩
      · refine St.build (α := Int) (l := [i]) hS1 (by (repeat' (first | exact VsOf.nil | apply VsOf.cons | (apply VOf.int; first | assumption | (constructor <;> first | omega | (simp only [List.length_set, List.length_append, List.length_replicate, List.length_cons, List.length_nil, List.length_take, List.length_drop, List.length_map, List.length_singleton] at *; omega))) | exact VOf.bool | exact VOf.str))) rfl (by decide) ?_
        intro x4 w4 I4 hO4 hS hs
        refine ⟨_, rfl, ?_⟩
        refine Own.append hO hS (Own.src hO4 hS) (by simp; omega) (by decide) ?_
        intro x5 w5 I5 hO5 hS
        refine ⟨_, rfl, ?_⟩
        refine go_wr (by omega) (by omega) ?_
        refine ⟨rfl, rfl, ⟨I5, I4 ++ R1, _, hO5, hS.to, by omega, by omega, by simp; omega, fun k hk => ?_⟩, by omega⟩
        rcases List.mem_append.1 hk with hk | hk
        · exact hm k hk
        · rw [List.mem_singleton.1 hk]; omega
      · refine go_wr (by omega) (by omega) ?_
        exact ⟨rfl, rfl, ⟨I, R1, l, hO, hS1, by omega, by omega, by omega, hm⟩, by omega⟩
  · exact ⟨I, by simpa using (hS.to : St v w (I ++ [])), s, l, rfl, hO, by omega, hm⟩
end
end Go.Vc

namespace Go.Vc
open Go Go.Proofs Go.RowKit
set_option linter.all false
section
variable {u u' v w : World} {x y z s tx : Sl} {ds : List DeclD} {fs : List FunD} {a : Addr} {I J L R : Items} {F : Items → Items} {m m' N N' n n1 n2 op num t b : Int} {l vars types : List Int} {ks : List ExprD} {e : ExprD}
theorem nn_types (h : ∀ t ∈ l, 0 ≤ t ∧ t ≤ 4) {i : Int} (h0 : 0 ≤ i) (h1 : i < l.length) : 0 ≤ nth l i ∧ nth l i ≤ 4 := h _ (nth_mem h0 h1)
/-- expressions of some types -/
theorem gs_genAll (H : types.length ≠ 0 → GenC (b.tdiv types.length)) (hp : PrgG u R x y ds fs) (hv : Read u z vars) (hvl : vars.length ≤ 99) (htx : Read u tx types) (htl : types.length ≤ 3) (htt : ∀ t ∈ types, 0 ≤ t ∧ t ≤ 4) (b0 : 0 ≤ b) (b1 : b ≤ 100) (hvb : vars.length + 4 * b ≤ 99)
    (hm : m + types.length * Pg (b.tdiv types.length) ≤ 999900000) (h : GS u a R m w) {K : Sl → World → Prop}
    (k : ∀ s w' u' ks, Sub u u' → GS u' a R (m + types.length * Pg (b.tdiv types.length)) w' → Read u' s ks → canL ks = true → (nodesL ks : Int) ≤ types.length * Pg (b.tdiv types.length) → ks.length = types.length → K s w') :
    Trip Tryd.prog 126 #[.pointer (some (a.add 0)), .agg #[x.val, y.val], z.val, tx.val, .int .i64 b] w fun r w' => ∃ s : Sl, r = s.val ∧ K s w' := by
  refine of126 _ _ _ _ _ _ _ _ ?_
  unfold vc126
  have htn := htx.n
  generalize hP : Pg (b.tdiv types.length) = P at hm k
  have hPp : 30 ≤ P := by rw [← hP]; exact Pg_pos _
  refine gs_kids0 h fun x4 w4 J4 h hs4 hO => ?_
  refine ⟨fun s i w => ∃ (u6 : World) (J : Items) (ks : List ExprD), Sub u u6 ∧ GS u6 a (J ++ R) (m + i * P) w ∧ Own u6 s ks J ∧ canL ks = true ∧ (nodesL ks : Int) ≤ i * P ∧ (ks.length : Int) = i ∧ 0 ≤ i ∧ i ≤ types.length, fun _ i _ => (types.length - i).toNat, ⟨u, J4, [], .refl _, by simpa using h, hO, canL_nil, by rw [nodesL_nil]; omega, rfl, by omega, by omega⟩, ?_⟩
  clear h hO
  rintro s i w6 ⟨u6, J6, ks, hu6, h, hO, hcl, hnl, hkl, i0, i1⟩
  dsimp only
  refine ⟨fun hi => ?_, fun hi => ?_⟩
  · simp only [bls] at hi
    have hil : i < types.length := by omega
    have htd := tdiv_pos (b := b) (n := types.length) b0 (by omega)
    have hmul : (i + 1) * P = i * P + P := by rw [Int.add_mul]; omega
    have hle : (i + 1) * P ≤ types.length * P := Int.mul_le_mul_of_nonneg_right (by omega) (by omega)
    have htx6 := htx.mono hu6
    have htt6 := nn_types htt i0 hil
    refine go_ix htx6 i0 hil ?_
    refine ⟨_, ((htx6.mono h.sub).int i0 hil).1, ?_⟩
    refine go_quo (by omega) (by rw [htn]; omega) (by rw [htn]; omega) ?_
    rw [htn]
    refine use_e (H (by omega) u6 a (J6 ++ R) x y z ds fs vars _ _ _ ((hp.mono hu6).app J6) (hv.mono hu6) (by omega) hvl htt6.1 htt6.2 (by rw [hP]; omega) h) ?_
    rw [hP]
    rintro n1 n2 xk w7 ⟨u7, hu7, h, e, rfl, rfl, hr, hce, hne⟩
    refine gs_push h (hO.mono hu7) hr hce (by omega) fun x' w8 J8 h hO => ?_
    refine go_wr (by omega) (by omega) ?_
    refine ⟨rfl, rfl, ⟨u7, J8, _, hu6.trans hu7, h.le (by omega), hO, canL_snoc hcl hce, by rw [nodesL_snoc]; omega, by simp; omega, by omega, by omega⟩, by omega⟩
  · simp only [bls] at hi
    have e : i = types.length := by omega
    subst e
    obtain ⟨u2, hu2, h2, hJ⟩ := h.freeze
    exact ⟨s, rfl, k s w6 u2 ks (hu6.trans hu2) h2 (hO.read1 hJ) hcl hnl (by omega)⟩
theorem c_genMatch (H : ∀ b', 0 ≤ b' → b' < b → GenC b') (hp : PrgG u R x y ds fs) (hv : Read u z vars) (hvl : vars.length ≤ 99) (b0 : 3 ≤ b) (b1 : b ≤ 100) (hvb : vars.length + 4 * b ≤ 99) (t0 : 0 ≤ t) (t1 : t ≤ 4) (hm : m + (Pg b - 10) ≤ 999900000) (h : GS u a R m w) :
    Trip Tryd.prog 127 #[.pointer (some (a.add 0)), .agg #[x.val, y.val], z.val, .int .i64 t, .int .i64 b] w fun r w' => ∃ n1 n2 s, r = .agg #[.int .i64 n1, .int .i64 n2, Sl.val s] ∧ GQ u a R (m + (Pg b - 10)) (Pg b) n1 n2 s w' := by
  refine of127 _ _ _ _ _ _ _ _ ?_
  unfold vc127
  have hxn := hp.rx.n
  have hty := hp.gd.types
  have hPb := Pg_at (b := b) (by omega)
  refine gs_ints h (by (repeat' (first | exact VsOf.nil | apply VsOf.cons | (apply VOf.int; first | assumption | (constructor <;> first | omega | (simp only [List.length_set, List.length_append, List.length_replicate, List.length_cons, List.length_nil, List.length_take, List.length_drop, List.length_map, List.length_singleton] at *; omega))) | exact VOf.bool | exact VOf.str))) rfl (by decide) fun x1 w1 u1 hu1 hs1 h hx1 => ?_
  refine gs_one h hx1 (by omega) (by simp) (by simp) fun d w2 h hj => ?_
  have hd4 : 1 ≤ d ∧ d ≤ 4 := by simp only [List.mem_cons, List.not_mem_nil, or_false] at hj; omega
  have hp1 := hp.mono hu1
  have hv1 := hv.mono hu1
  obtain ⟨q, hq1, hq⟩ := c_isArrow (n := d) (hp1.rx.mono h.sub) hp.gd.len.2
  -- a match of a value of a type
  have go : ∀ d : Int, 1 ≤ d → d ≤ 4 → Trip Tryd.prog 136 #[x.val, .int .i64 d] w2 fun r10 w11 =>
          ∃ x12 : Sl, r10 = x12.val ∧
          Trip Tryd.prog 120 #[.pointer (some (a.add 0)), .agg #[x.val, y.val], z.val, .int .i64 d] w11 fun r13 w14 =>
            ∃ n15 : Int, ∃ n16 : Int, ∃ x17 : Sl, r13 = .agg #[.int .i64 n15, .int .i64 n16, x17.val] ∧
            StepT Tryd.prog (Instr.buildSlice 27 1 #[(0, (.agg #[.int .i64 n15, .int .i64 n16, x17.val]))]) w14 fun r18 w19 =>
              ∃ x20 : Sl, r18 = x20.val ∧
              ∃ I21 : Sl → Int → World → Prop, ∃ m22 : Sl → Int → World → Nat, I21 x20 0 w19 ∧
              ∀ x23 : Sl, ∀ n24 : Int, ∀ w25 : World, I21 x23 n24 w25 →
              ((decide (n24 < (x12.n : Int))) = true →
                IxOk x12 n24 ∧
                ∃ n26 : Int, w25.cell? ((elA x12 n24 1).add 0) = some (.int .i64 n26) ∧
                ∃ n27 : Int, Wr .i64 (b - 2) n27 ∧
                ∃ n28 : Int, (((x12.n : Int) : Int) ≠ 0 ∧ Wr .i64 (Int.tdiv n27 (x12.n : Int)) n28) ∧
                Trip Tryd.prog 137 #[x.val, .int .i64 n26] w25 fun r29 w30 =>
                  ∃ x31 : Sl, r29 = x31.val ∧
                  Sub w25 w30 ∧
                  Trip Tryd.prog 119 #[z.val, x31.val] w30 fun r32 w33 =>
                    ∃ x34 : Sl, r32 = x34.val ∧
                    Sub w30 w33 ∧
                    Trip Tryd.prog 117 #[.pointer (some (a.add 0)), .agg #[x.val, y.val], x34.val, .int .i64 t, .int .i64 n28] w33 fun r35 w36 =>
                      ∃ n37 : Int, ∃ n38 : Int, ∃ x39 : Sl, r35 = .agg #[.int .i64 n37, .int .i64 n38, x39.val] ∧
                      StepT Tryd.prog (Instr.buildSlice 27 1 #[(0, (.agg #[.int .i64 n37, .int .i64 n38, x39.val]))]) w36 fun r40 w41 =>
                        ∃ x42 : Sl, r40 = x42.val ∧
                        StepT Tryd.prog (Builtin.append_ #[27, 27] 27 #[(x23.val), (x42.val)]) w41 fun r43 w44 =>
                          ∃ x45 : Sl, r43 = x45.val ∧
                          ∃ n46 : Int, Wr .i64 (n24 + 1) n46 ∧
                          ((.sl x : SV) = .sl x) ∧
                          ((.sl y : SV) = .sl y) ∧
                          ((.num .i64 0 : SV) = .num .i64 0) ∧
                          ((.num .i64 0 : SV) = .num .i64 0) ∧
                          ((.sl (Sl.mk none 0 0) : SV) = .sl (Sl.mk none 0 0)) ∧
                          I21 x45 n46 w44 ∧
                          m22 x45 n46 w44 < m22 x23 n24 w25) ∧
              ((decide (n24 < (x12.n : Int))) = false →
                Trip Tryd.prog 55 #[.int .i64 8, .int .i64 d, x23.val] w25 fun r47 w48 =>
                  ∃ n49 : Int, ∃ n50 : Int, ∃ x51 : Sl, r47 = .agg #[.int .i64 n49, .int .i64 n50, x51.val] ∧
                  ∃ n1 n2 s, Value.agg #[.int .i64 n49, .int .i64 n50, x51.val] = .agg #[.int .i64 n1, .int .i64 n2, Sl.val s] ∧ GQ u a R (m + (Pg b - 10)) (Pg b) n1 n2 s w48) := by
    intro d d1 d2
    refine gs_consOf hp1 ⟨by omega, by omega⟩ h fun xc w3 u3 hu3 hs3 h hxc => ?_
    have hcn := hxc.n
    have hcl := (consL_sm (n := d) hty).1
    refine use_e (c_leaf (hp1.mono hu3) (hv1.mono hu3) hvl (by omega) d2 (by omega) h) ?_
    rintro n1 n2 x4 w4 ⟨u4, hu4, h, e, rfl, rfl, hr, hce, hne⟩
    obtain ⟨I4, hR4, hS4⟩ := h
    refine St.build (α := ExprD) hS4 (VsOf.cons (vof hr hce) VsOf.nil) rfl (by decide) fun x5 w5 J5 hO5 hS5 hs5 => ⟨x5, rfl, ?_⟩
    have h : GS u4 a (J5 ++ R) (m + 26) w5 := ⟨I4, hR4.le (by omega), hS5.to⟩
    generalize hP : Pg ((b - 2).tdiv (consL ds d).length) = P
    have hPp : 30 ≤ P := by rw [← hP]; exact Pg_pos _
    have hsplit := Pg_split (b := b - 2) (n := (consL ds d).length) (by omega) (by omega)
    rw [hP] at hsplit
    have hxc4 := hxc.mono hu4
    refine ⟨fun s i w => ∃ (u6 : World) (J : Items) (ks : List ExprD), Sub u4 u6 ∧ GS u6 a (J ++ R) (m + 26 + i * P) w ∧ Own u6 s ks J ∧ canL ks = true ∧ (nodesL ks : Int) ≤ 4 + i * P ∧ (ks.length : Int) = 1 + i ∧ 0 ≤ i ∧ i ≤ (consL ds d).length, fun _ i _ => ((consL ds d).length - i).toNat, ⟨u4, J5, _, .refl _, by simpa using h, hO5, by rw [canL_cons, canL_nil, hce]; rfl, by rw [nodesL_cons, nodesL_nil]; omega, rfl, by omega, by omega⟩, ?_⟩
    clear h hO5 hS5 hR4 hS4
    rintro s i w6 ⟨u6, J6, ks, hu6, h, hO, hcl2, hnl, hkl, i0, i1⟩
    dsimp only
    refine ⟨fun hi => ?_, fun hi => ?_⟩
    · simp only [bls] at hi
      have hil : i < (consL ds d).length := by omega
      have htd := tdiv_pos (b := b - 2) (n := (consL ds d).length) (by omega) (by omega)
      have hmul : (i + 1) * P = i * P + P := by rw [Int.add_mul]; omega
      have hle : (i + 1) * P ≤ (consL ds d).length * P := Int.mul_le_mul_of_nonneg_right (by omega) (by omega)
      have hxc6 := hxc4.mono hu6
      refine go_ix hxc6 i0 hil ?_
      refine ⟨_, ((hxc6.mono h.sub).int i0 hil).1, ?_⟩
      have hnn := consL_num hty d _ (nth_mem (l := consL ds d) i0 hil)
      refine go_wr (by omega) (by omega) ?_
      refine go_quo (by omega) (by rw [hcn]; omega) (by rw [hcn]; omega) ?_
      rw [hcn]
      have hp6 := ((((hp1.mono hu3).mono hu4).mono hu6).app J6)
      refine gs_conFields hp6 ⟨by omega, by omega⟩ h fun xf w7 u7 hu7 hs7 h hxf => ⟨hs7, ?_⟩
      have hfl := conF_len3 hty (nth (consL ds d) i)
      refine gs_extend ((((hv1.mono hu3).mono hu4).mono hu6).mono hu7) hxf (by omega) h fun xv w8 u8 hu8 hs8 h hxv => ⟨hs8, ?_⟩
      refine use_e (H _ htd.1 (by omega) u8 a (J6 ++ R) x y xv ds fs _ _ _ _ ((hp6.mono hu7).mono hu8) hxv (by rw [List.length_append]; omega) (by rw [List.length_append]; omega) t0 t1 (by rw [hP]; omega) h) ?_
      rw [hP]
      rintro n1 n2 xk w9 ⟨u9, hu9, h, e, rfl, rfl, hr, hce, hne⟩
      refine gs_push h (((hO.mono hu7).mono hu8).mono hu9) hr hce (by omega) fun x' w10 J10 h hO => ?_
      refine go_wr (by omega) (by omega) ?_
      refine ⟨rfl, rfl, rfl, rfl, rfl, ⟨u9, J10, _, ((hu6.trans hu7).trans hu8).trans hu9, h.le (by omega), hO, canL_snoc hcl2 hce, by rw [nodesL_snoc]; omega, by simp; omega, by omega, by omega⟩, by omega⟩
    · simp only [bls] at hi
      have e : i = (consL ds d).length := by omega
      subst e
      refine gs_node ?_
      exact ⟨_, _, _, rfl, gs_fin (h.le (by omega)) hO (((hu1.trans hu3).trans hu4).trans hu6) hcl2 (ok_match (by omega) (by omega)) (by omega)⟩
  exact ⟨q, fun _ => hq, fun _ => go 1 (by omega) (by omega), fun _ => go d hd4.1 hd4.2⟩
end
end Go.Vc

namespace Go.Vc
open Go Go.Proofs Go.RowKit
set_option linter.all false
section
variable {u u' u0 v w : World} {x y z s tx x1 x2 x3 : Sl} {ds : List DeclD} {fs : List FunD} {a : Addr} {I J L R : Items} {F : Items → Items} {m m' N N' N1 N2 N3 n n1 n2 k1 k2 l1 l2 op num t b : Int} {l vars types : List Int} {ks : List ExprD} {e : ExprD}
theorem gs_node1 (h : GS u a R m w) (h1 : EV u N1 n1 n2 x1) (hok : okN op num 1 = true) {K : Int → Int → Sl → World → Prop} (k : ∀ x w' u', Sub u u' → GS u' a R m w' → EV u' (1 + N1) op num x → K op num x w') :
    StepT Tryd.prog (Instr.buildSlice 27 1 #[(0, (.agg #[.int .i64 n1, .int .i64 n2, x1.val]))]) w fun r w1 => ∃ x : Sl, r = x.val ∧ Trip Tryd.prog 55 #[.int .i64 op, .int .i64 num, x.val] w1 fun r w' => ∃ n1 n2 x', r = .agg #[.int .i64 n1, .int .i64 n2, x'.val] ∧ K n1 n2 x' w' := by
  obtain ⟨e1, rfl, rfl, r1, c1, g1⟩ := h1
  refine gs_kids (ks := [e1]) h (by exact VsOf.cons (vof r1 c1) VsOf.nil) rfl (by decide) fun x w1 u1 hu hs h hx => ?_
  exact gs_node (k x w1 u1 hu h (EV.mk hx (by rw [canL_cons, canL_nil, c1]; rfl) hok (by rw [nodesL_cons, nodesL_nil]; omega)))
theorem gs_node2 (h : GS u a R m w) (h1 : EV u N1 n1 n2 x1) (h2 : EV u N2 k1 k2 x2) (hok : okN op num 2 = true) {K : Int → Int → Sl → World → Prop} (k : ∀ x w' u', Sub u u' → GS u' a R m w' → EV u' (1 + N1 + N2) op num x → K op num x w') :
    StepT Tryd.prog (Instr.buildSlice 27 2 #[(0, (.agg #[.int .i64 n1, .int .i64 n2, x1.val])), (1, (.agg #[.int .i64 k1, .int .i64 k2, x2.val]))]) w fun r w1 => ∃ x : Sl, r = x.val ∧ Trip Tryd.prog 55 #[.int .i64 op, .int .i64 num, x.val] w1 fun r w' => ∃ n1 n2 x', r = .agg #[.int .i64 n1, .int .i64 n2, x'.val] ∧ K n1 n2 x' w' := by
  obtain ⟨e1, rfl, rfl, r1, c1, g1⟩ := h1
  obtain ⟨e2, rfl, rfl, r2, c2, g2⟩ := h2
  refine gs_kids (ks := [e1, e2]) h (by exact VsOf.cons (vof r1 c1) (VsOf.cons (vof r2 c2) VsOf.nil)) rfl (by decide) fun x w1 u1 hu hs h hx => ?_
  exact gs_node (k x w1 u1 hu h (EV.mk hx (by rw [canL_cons, canL_cons, canL_nil, c1, c2]; rfl) hok (by rw [nodesL_cons, nodesL_cons, nodesL_nil]; omega)))
theorem gs_node3 (h : GS u a R m w) (h1 : EV u N1 n1 n2 x1) (h2 : EV u N2 k1 k2 x2) (h3 : EV u N3 l1 l2 x3) (hok : okN op num 3 = true) {K : Int → Int → Sl → World → Prop} (k : ∀ x w' u', Sub u u' → GS u' a R m w' → EV u' (1 + N1 + N2 + N3) op num x → K op num x w') :
    StepT Tryd.prog (Instr.buildSlice 27 3 #[(0, (.agg #[.int .i64 n1, .int .i64 n2, x1.val])), (1, (.agg #[.int .i64 k1, .int .i64 k2, x2.val])), (2, (.agg #[.int .i64 l1, .int .i64 l2, x3.val]))]) w fun r w1 => ∃ x : Sl, r = x.val ∧ Trip Tryd.prog 55 #[.int .i64 op, .int .i64 num, x.val] w1 fun r w' => ∃ n1 n2 x', r = .agg #[.int .i64 n1, .int .i64 n2, x'.val] ∧ K n1 n2 x' w' := by
  obtain ⟨e1, rfl, rfl, r1, c1, g1⟩ := h1
  obtain ⟨e2, rfl, rfl, r2, c2, g2⟩ := h2
  obtain ⟨e3, rfl, rfl, r3, c3, g3⟩ := h3
  refine gs_kids (ks := [e1, e2, e3]) h (by exact VsOf.cons (vof r1 c1) (VsOf.cons (vof r2 c2) (VsOf.cons (vof r3 c3) VsOf.nil))) rfl (by decide) fun x w1 u1 hu hs h hx => ?_
  exact gs_node (k x w1 u1 hu h (EV.mk hx (by rw [canL_cons, canL_cons, canL_cons, canL_nil, c1, c2, c3]; rfl) hok (by rw [nodesL_cons, nodesL_cons, nodesL_cons, nodesL_nil]; omega)))
theorem gs_nodeL (h : GS u a R m w) (hx : Read u x ks) (hc : canL ks = true) (hn : (nodesL ks : Int) ≤ N1) (hok : okN op num ks.length = true) {K : Int → Int → Sl → World → Prop} (k : EV u (1 + N1) op num x → K op num x w) :
    Trip Tryd.prog 55 #[.int .i64 op, .int .i64 num, x.val] w fun r w' => ∃ n1 n2 x', r = .agg #[.int .i64 n1, .int .i64 n2, x'.val] ∧ K n1 n2 x' w' :=
  gs_node (k (EV.mk hx hc hok (by omega)))
theorem gs_gen (H : GenC b) (hp : PrgG u R x y ds fs) (hv : Read u z vars) (h1 : vars.length + 4 * b ≤ 99) (h2 : vars.length ≤ 99) (t0 : 0 ≤ t) (t1 : t ≤ 4) (hm : m + Pg b ≤ 999900000) (h : GS u a R m w) {K : Int → Int → Sl → World → Prop}
    (k : ∀ n1 n2 s w' u', Sub u u' → GS u' a R (m + Pg b) w' → EV u' (Pg b) n1 n2 s → K n1 n2 s w') :
    Trip Tryd.prog 117 #[.pointer (some (a.add 0)), .agg #[x.val, y.val], z.val, .int .i64 t, .int .i64 b] w fun r w' => ∃ n1 n2 s, r = .agg #[.int .i64 n1, .int .i64 n2, Sl.val s] ∧ K n1 n2 s w' :=
  use_e (H u a R x y z ds fs vars t m w hp hv h1 h2 t0 t1 hm h) fun n1 n2 s w' ⟨u', q1, q2, q3⟩ => k n1 n2 s w' u' q1 q2 q3
theorem gs_leaf (hp : PrgG u R x y ds fs) (hv : Read u z vars) (hvl : vars.length ≤ 99) (t0 : 0 ≤ t) (t1 : t ≤ 4) (hm : m + 30 ≤ 999900000) (h : GS u a R m w) {K : Int → Int → Sl → World → Prop}
    (k : ∀ n1 n2 s w' u', Sub u u' → GS u' a R (m + 25) w' → EV u' 4 n1 n2 s → K n1 n2 s w') :
    Trip Tryd.prog 120 #[.pointer (some (a.add 0)), .agg #[x.val, y.val], z.val, .int .i64 t] w fun r w' => ∃ n1 n2 s, r = .agg #[.int .i64 n1, .int .i64 n2, Sl.val s] ∧ K n1 n2 s w' :=
  use_e (c_leaf hp hv hvl t0 t1 hm h) fun n1 n2 s w' ⟨u', q1, q2, q3⟩ => k n1 n2 s w' u' q1 q2 q3
theorem c_genOther (H : ∀ b', 0 ≤ b' → b' < b → GenC b') (hp : PrgG u R x y ds fs) (hv : Read u z vars) (hvl : vars.length ≤ 99) (b0 : 3 ≤ b) (b1 : b ≤ 100) (hvb : vars.length + 4 * b ≤ 99) (t0 : 0 ≤ t) (t1 : t ≤ 4) (hm : m + (Pg b - 10) ≤ 999900000) (h : GS u a R m w) :
    Trip Tryd.prog 129 #[.pointer (some (a.add 0)), .agg #[x.val, y.val], z.val, .int .i64 t, .int .i64 b] w fun r w' => ∃ n1 n2 s, r = .agg #[.int .i64 n1, .int .i64 n2, Sl.val s] ∧ GQ u a R (m + (Pg b - 10)) (Pg b) n1 n2 s w' := by
  refine of129 _ _ _ _ _ _ _ _ ?_
  unfold vc129
  have hxn := hp.rx.n
  have hdl := hp.gd.len
  have hty := hp.gd.types
  have hPb := Pg_at (b := b) (by omega)
  have hP2 := Pg_at (b := b - 2) (by omega)
  refine ⟨fun w => ∃ u1, Sub u u1 ∧ GS u1 a R (m + 1) w, ?_, ?_⟩
  · refine gs_pick h (by omega) (by omega) (by omega) fun j w1 h _ _ _ => ⟨fun hc => ?_, fun hc => ⟨rfl, rfl, rfl, rfl, rfl, u, .refl _, h⟩⟩
    refine ⟨fun i w => GS u a R (m + 1) w ∧ 1 ≤ i ∧ i ≤ 5, fun i _ => ((ds.length : Int) + 1 - i).toNat, ⟨h, by omega, by omega⟩, ?_⟩
    clear h
    rintro i w2 ⟨h, i0, i1⟩
    dsimp only
    refine ⟨fun hi => ?_, fun hi => ⟨rfl, rfl, rfl, rfl, rfl, u, .refl _, h⟩⟩
    simp only [bls] at hi
    obtain ⟨q, hq1, hq⟩ := c_isArrow (n := i) (hp.rx.mono h.sub) hp.gd.len.2
    have hil : i - 1 < ds.length := by omega
    have hi0 : 0 ≤ i - 1 := by omega
    have hdd := hp.gd.decl _ (nth_mem (l := ds) hi0 hil)
    obtain ⟨q2, hq2⟩ := gs_canMake hp h hv i
    have cells : ∀ {u2 : World} {m2 : Int} {w2 : World}, Sub u u2 → GS u2 a R m2 w2 → w2.cell? ((elA x (i - 1) 3).add 0) = some (.int .i64 (nth ds (i - 1)).frm) ∧ w2.cell? ((elA x (i - 1) 3).add 1) = some (.int .i64 (nth ds (i - 1)).to_) := by
      intro u2 m2 w2 hu2 h2
      obtain ⟨fc, e1, e2, _⟩ := (hp.rx.src (hu2.trans h2.sub)).ofDeclD hi0 hil
      exact ⟨e1, e2⟩
    have hix := hp.rx.ix hi0 hil
    refine ⟨q, hq, ?_⟩
    refine go_wrg (fun _ => ⟨by omega, by omega⟩) ?_
    refine ⟨fun _ => hix, _, fun _ => (cells (.refl u) h).2, q2, fun _ => hq2, fun hc => ?_, fun hc => ?_⟩
    · refine go_wr (by omega) (by omega) ?_
      refine go_wr (by omega) (by omega) ?_
      -- the function and its argument
      have rest : ∀ {u1 w3 : World} {n1 n2 : Int} {x3 : Sl}, Sub u u1 → GS u1 a R (m + 1 + 25) w3 → EV u1 4 n1 n2 x3 →
          Trip Tryd.prog 117 #[.pointer (some (a.add 0)), .agg #[x.val, y.val], z.val, .int .i64 (nth ds (i - 1)).frm, .int .i64 (b - 2)] w3 fun r25 w26 =>
                  ∃ n27 : Int, ∃ n28 : Int, ∃ x29 : Sl, r25 = .agg #[.int .i64 n27, .int .i64 n28, x29.val] ∧
                  StepT Tryd.prog (Instr.buildSlice 27 2 #[(0, (.agg #[.int .i64 n1, .int .i64 n2, x3.val])), (1, (.agg #[.int .i64 n27, .int .i64 n28, x29.val]))]) w26 fun r30 w31 =>
                    ∃ x32 : Sl, r30 = x32.val ∧
                    Trip Tryd.prog 55 #[.int .i64 11, .int .i64 0, x32.val] w31 fun r33 w34 =>
                      ∃ n35 : Int, ∃ n36 : Int, ∃ x37 : Sl, r33 = .agg #[.int .i64 n35, .int .i64 n36, x37.val] ∧
                      ∃ n1 n2 s, Value.agg #[.int .i64 n35, .int .i64 n36, x37.val] = .agg #[.int .i64 n1, .int .i64 n2, Sl.val s] ∧ GQ u a R (m + (Pg b - 10)) (Pg b) n1 n2 s w34 := by
        intro u1 w3 n1 n2 x3 hu1 h he
        refine gs_gen (H (b - 2) (by omega) (by omega)) (hp.mono hu1) (hv.mono hu1) (by omega) hvl hdd.1 hdd.2.1 (by omega) h fun n3 n4 x4 w4 u4 hu4 h he4 => ?_
        refine gs_node2 h (he.mono hu4) he4 (ok_zero (by omega)) fun x5 w5 u5 hu5 h he5 => ?_
        exact ⟨_, _, _, rfl, u5, (hu1.trans hu4).trans hu5, h.le (by omega), he5.le (by omega)⟩
      refine ⟨?_, hix, ?_, _, (cells (.refl u) h).1, ?_⟩
      · refine gs_leaf hp hv hvl (by omega) (by omega) (by omega) h fun n1 n2 x3 w3 u3 hu3 h he => ?_
        exact ⟨hix, _, (cells hu3 h).1, rest hu3 h he⟩
      · refine gs_leaf hp hv hvl (by omega) (by omega) (by omega) h fun n1 n2 x3 w3 u3 hu3 h he => ?_
        exact ⟨_, (cells hu3 h).1, rest hu3 h he⟩
      · exact gs_leaf hp hv hvl (by omega) (by omega) (by omega) h fun n1 n2 x3 w3 u3 hu3 h he => rest hu3 h he
    · refine go_wr (by omega) (by omega) ?_
      exact ⟨rfl, rfl, rfl, rfl, rfl, ⟨h, by omega, by omega⟩, by omega⟩
  rintro w1 ⟨u1, hu1, h⟩
  have hp1 := hp.mono hu1
  have hv1 := hv.mono hu1
  refine gs_consOf hp1 ⟨by omega, by omega⟩ h fun xc w2 u2 hu2 hs2 h hxc => ?_
  have hcn := hxc.n
  have hcl := (consL_sm (n := t) hty).1
  have hp2 := hp1.mono hu2
  have hv2 := hv1.mono hu2
  refine ⟨fun hc => ?_, fun hc => ⟨fun ht => ?_, fun ht => ?_⟩⟩
  · simp only [bls] at hc
    refine gs_pick h (by omega) (by omega) (by omega) fun j w3 h j0 j1 _ => ?_
    refine go_ix hxc j0 (by omega) ?_
    refine ⟨_, ((hxc.mono h.sub).int j0 (by omega)).1, ?_⟩
    have hnn := consL_num hty t _ (nth_mem (l := consL ds t) j0 (by omega))
    have hfl := conF_len3 hty (nth (consL ds t) j)
    have hsp := Pg_split (b := b - 1) (n := (conF ds (nth (consL ds t) j)).length) (by omega) (by omega)
    refine go_wr (by omega) (by omega) ?_
    refine gs_conFields hp2 ⟨by omega, by omega⟩ h fun xf w4 u4 hu4 hs4 h hxf => ⟨hs4, ?_⟩
    refine gs_genAll (fun hz => H _ (tdiv_pos (by omega) (by omega)).1 (by have := (tdiv_pos (b := b - 1) (n := (conF ds (nth (consL ds t) j)).length) (by omega) (by omega)).2; omega)) (hp2.mono hu4) (hv2.mono hu4) hvl hxf hfl (conF_nn hty _) (by omega) (by omega) (by omega) (by omega) h fun x5 w5 u5 ks hu5 h hx5 hc5 hn5 hl5 => ?_
    refine gs_nodeL h hx5 hc5 hn5 (ok_con hnn.1 hnn.2) fun he => ?_
    exact ⟨_, _, _, rfl, u5, ((hu1.trans hu2).trans hu4).trans hu5, h.le (by omega), he.le (by omega)⟩
  · refine gs_leaf hp2 hv2 hvl t0 t1 (by omega) h fun n1 n2 x3 w3 u3 hu3 h he => ?_
    exact ⟨_, _, _, rfl, u3, (hu1.trans hu2).trans hu3, h.le (by omega), he.le (by omega)⟩
  · have fin : ∀ {u3 w3 : World} {xt : Sl} {m3 : Int} {types : List Int} {op : Int}, Sub u2 u3 → GS u3 a R m3 w3 → m3 ≤ m + 4 → Read u3 xt types → (types.length = 1 ∨ types.length = 2) → (∀ t ∈ types, 0 ≤ t ∧ t ≤ 4) → (op = 1 ∨ op = 2 ∨ op = 3 ∨ op = 4 ∨ op = 5) →
        Trip Tryd.prog 126 #[.pointer (some (a.add 0)), .agg #[x.val, y.val], z.val, xt.val, .int .i64 (b - 1)] w3 fun r109 w110 =>
                ∃ x111 : Sl, r109 = x111.val ∧
                Trip Tryd.prog 55 #[.int .i64 op, .int .i64 0, x111.val] w110 fun r112 w113 =>
                  ∃ n114 : Int, ∃ n115 : Int, ∃ x116 : Sl, r112 = .agg #[.int .i64 n114, .int .i64 n115, x116.val] ∧
                  ∃ n1 n2 s, Value.agg #[.int .i64 n114, .int .i64 n115, x116.val] = .agg #[.int .i64 n1, .int .i64 n2, Sl.val s] ∧ GQ u a R (m + (Pg b - 10)) (Pg b) n1 n2 s w113 := by
      intro u3 w3 xt m3 types op hu3 h hm3 hxt htl htt hop
      have hsp := Pg_split (b := b - 1) (n := types.length) (by omega) (by omega)
      have htd := tdiv_pos (b := b - 1) (n := types.length) (by omega) (by omega)
      refine gs_genAll (fun _ => H _ htd.1 (by omega)) (hp2.mono hu3) (hv2.mono hu3) hvl hxt (by omega) htt (by omega) (by omega) (by omega) (by omega) h fun x5 w5 u5 ks hu5 h hx5 hc5 hn5 hl5 => ?_
      refine gs_nodeL h hx5 hc5 hn5 (ok_zero (by omega)) fun he => ?_
      exact ⟨_, _, _, rfl, u5, ((hu1.trans hu2).trans hu3).trans hu5, h.le (by omega), he.le (by omega)⟩
    refine gs_pick h (by omega) (by omega) (by omega) fun j w3 h j0 j1 _ => ⟨fun hj => ?_, fun hj => ?_⟩
    · refine gs_ints h (by (repeat' (first | exact VsOf.nil | apply VsOf.cons | (apply VOf.int; first | assumption | (constructor <;> first | omega | (simp only [List.length_set, List.length_append, List.length_replicate, List.length_cons, List.length_nil, List.length_take, List.length_drop, List.length_map, List.length_singleton] at *; omega))) | exact VOf.bool | exact VOf.str))) rfl (by decide) fun x4 w4 u4 hu4 hs4 h hx4 => ?_
      refine go_wr (by omega) (by omega) ?_
      exact fin hu4 h (by omega) hx4 (.inl rfl) (by decide) (by omega)
    · refine go_wr (by omega) (by omega) ?_
      refine ⟨?_, ?_⟩
      · refine gs_ints h (by (repeat' (first | exact VsOf.nil | apply VsOf.cons | (apply VOf.int; first | assumption | (constructor <;> first | omega | (simp only [List.length_set, List.length_append, List.length_replicate, List.length_cons, List.length_nil, List.length_take, List.length_drop, List.length_map, List.length_singleton] at *; omega))) | exact VOf.bool | exact VOf.str))) rfl (by decide) fun x4 w4 u4 hu4 hs4 h hx4 => ⟨?_, ?_⟩
        · refine gs_one h hx4 (by omega) (by simp) (by simp) fun o w5 h ho => ?_
          refine gs_ints h (by (repeat' (first | exact VsOf.nil | apply VsOf.cons | (apply VOf.int; first | assumption | (constructor <;> first | omega | (simp only [List.length_set, List.length_append, List.length_replicate, List.length_cons, List.length_nil, List.length_take, List.length_drop, List.length_map, List.length_singleton] at *; omega))) | exact VOf.bool | exact VOf.str))) rfl (by decide) fun x6 w6 u6 hu6 hs6 h hx6 => ?_
          exact fin (hu4.trans hu6) h (by omega) hx6 (.inr rfl) (by decide) (by simp only [List.mem_cons, List.not_mem_nil, or_false] at ho; omega)
        · refine gs_ints h (by (repeat' (first | exact VsOf.nil | apply VsOf.cons | (apply VOf.int; first | assumption | (constructor <;> first | omega | (simp only [List.length_set, List.length_append, List.length_replicate, List.length_cons, List.length_nil, List.length_take, List.length_drop, List.length_map, List.length_singleton] at *; omega))) | exact VOf.bool | exact VOf.str))) rfl (by decide) fun x6 w6 u6 hu6 hs6 h hx6 => ?_
          refine gs_one h (hx4.mono hu6) (by omega) (by simp) (by simp) fun o w5 h ho => ?_
          exact fin (hu4.trans hu6) h (by omega) hx6 (.inr rfl) (by decide) (by simp only [List.mem_cons, List.not_mem_nil, or_false] at ho; omega)
      · refine gs_ints h (by (repeat' (first | exact VsOf.nil | apply VsOf.cons | (apply VOf.int; first | assumption | (constructor <;> first | omega | (simp only [List.length_set, List.length_append, List.length_replicate, List.length_cons, List.length_nil, List.length_take, List.length_drop, List.length_map, List.length_singleton] at *; omega))) | exact VOf.bool | exact VOf.str))) rfl (by decide) fun x6 w6 u6 hu6 hs6 h hx6 => ?_
        refine gs_ints h (by (repeat' (first | exact VsOf.nil | apply VsOf.cons | (apply VOf.int; first | assumption | (constructor <;> first | omega | (simp only [List.length_set, List.length_append, List.length_replicate, List.length_cons, List.length_nil, List.length_take, List.length_drop, List.length_map, List.length_singleton] at *; omega))) | exact VOf.bool | exact VOf.str))) rfl (by decide) fun x4 w4 u4 hu4 hs4 h hx4 => ?_
        refine gs_one h hx4 (by omega) (by simp) (by simp) fun o w5 h ho => ?_
        exact fin (hu6.trans hu4) h (by omega) (hx6.mono hu4) (.inr rfl) (by decide) (by simp only [List.mem_cons, List.not_mem_nil, or_false] at ho; omega)
theorem gen_step (b : Int) (b1 : b ≤ 30) (H : ∀ b', 0 ≤ b' → b' < b → GenC b') : GenC b := by
  intro u a R x y z ds fs vars t m w hp hv hvb hvl t0 t1 hm h
  refine of117 _ _ _ _ _ _ _ _ ?_
  unfold vc117
  have hPp := Pg_pos b
  have hty := hp.gd.types
  refine ⟨fun hc => ?_, fun hc => ?_⟩
  · refine gs_leaf hp hv hvl t0 t1 (by omega) h fun n1 n2 x3 w3 u3 hu3 h he => ?_
    exact ⟨_, _, _, rfl, u3, hu3, h.le (by omega), he.le (by omega)⟩
  simp only [bls] at hc
  have hPb := Pg_at (b := b) (by omega)
  refine gs_pick h (by omega) (by omega) (by omega) fun j w1 h j0 j1 _ => ⟨fun hj => ?_, fun hj => ?_⟩
  · refine gs_leaf hp hv hvl t0 t1 (by omega) h fun n1 n2 x3 w3 u3 hu3 h he => ?_
    exact ⟨_, _, _, rfl, u3, hu3, h.le (by omega), he.le (by omega)⟩
  refine ⟨fun _ w => GS u a R (m + 1) w, ⟨fun _ => ⟨rfl, rfl, rfl, rfl, rfl, h⟩, fun _ => ⟨rfl, rfl, rfl, rfl, rfl, h⟩⟩, ?_⟩
  clear h
  intro q w2 h
  refine ⟨fun hq => ?_, fun hq => ?_⟩
  · refine gs_anyType hp hv (by omega) h fun tt w3 u3 hu3 h tt0 tt1 => ?_
    have hd := tdiv_pos (b := b) (n := 2) (by omega) (by omega)
    have h2 : b.tdiv 2 = b / 2 := Int.tdiv_eq_ediv_of_nonneg (by omega)
    have hP2 := Pg_at (b := b.tdiv 2) (by omega)
    have hp3 := hp.mono hu3
    have hv3 := hv.mono hu3
    have Hh := H (b.tdiv 2) (by omega) (by omega)
    refine go_quo (by omega) (by omega) (by omega) ?_
    refine go_quo (by omega) (by omega) (by omega) ?_
    have rest : ∀ {u4 w4 : World} {n1 n2 : Int} {x4 xt : Sl}, Sub u3 u4 → GS u4 a R (m + 1 + 1 + Pg (b.tdiv 2)) w4 → EV u4 (Pg (b.tdiv 2)) n1 n2 x4 → Read u4 xt [tt] →
        Trip Tryd.prog 119 #[z.val, xt.val] w4 fun r30 w31 =>
                    ∃ x32 : Sl, r30 = x32.val ∧
                    Trip Tryd.prog 117 #[.pointer (some (a.add 0)), .agg #[x.val, y.val], x32.val, .int .i64 t, .int .i64 (b.tdiv 2)] w31 fun r33 w34 =>
                      ∃ n35 : Int, ∃ n36 : Int, ∃ x37 : Sl, r33 = .agg #[.int .i64 n35, .int .i64 n36, x37.val] ∧
                      StepT Tryd.prog (Instr.buildSlice 27 2 #[(0, (.agg #[.int .i64 n1, .int .i64 n2, x4.val])), (1, (.agg #[.int .i64 n35, .int .i64 n36, x37.val]))]) w34 fun r38 w39 =>
                        ∃ x40 : Sl, r38 = x40.val ∧
                        Trip Tryd.prog 55 #[.int .i64 13, .int .i64 0, x40.val] w39 fun r41 w42 =>
                          ∃ n43 : Int, ∃ n44 : Int, ∃ x45 : Sl, r41 = .agg #[.int .i64 n43, .int .i64 n44, x45.val] ∧
                          ∃ n1 n2 s, Value.agg #[.int .i64 n43, .int .i64 n44, x45.val] = .agg #[.int .i64 n1, .int .i64 n2, Sl.val s] ∧ GQ u a R (m + Pg b) (Pg b) n1 n2 s w42 := by
      intro u4 w4 n1 n2 x4 xt hu4 h he hxt
      refine gs_extend (hv3.mono hu4) hxt (by simp; omega) h fun xv w5 u5 hu5 hs5 h hxv => ?_
      refine gs_gen Hh ((hp3.mono hu4).mono hu5) hxv (by simp; omega) (by simp; omega) t0 t1 (by omega) h fun n3 n4 x6 w6 u6 hu6 h he6 => ?_
      refine gs_node2 h ((he.mono hu5).mono hu6) he6 (ok_zero (by omega)) fun x7 w7 u7 hu7 h he7 => ?_
      exact ⟨_, _, _, rfl, u7, (((hu3.trans hu4).trans hu5).trans hu6).trans hu7, h.le (by omega), he7.le (by omega)⟩
    refine ⟨?_, ?_⟩
    · refine gs_gen Hh hp3 hv3 (by omega) hvl tt0 tt1 (by omega) h fun n1 n2 x4 w4 u4 hu4 h he => ?_
      refine gs_ints h (by (repeat' (first | exact VsOf.nil | apply VsOf.cons | (apply VOf.int; first | assumption | (constructor <;> first | omega | (simp only [List.length_set, List.length_append, List.length_replicate, List.length_cons, List.length_nil, List.length_take, List.length_drop, List.length_map, List.length_singleton] at *; omega))) | exact VOf.bool | exact VOf.str))) rfl (by decide) fun xt w5 u5 hu5 hs5 h hxt => ⟨hs5, ?_⟩
      exact rest (hu4.trans hu5) h (he.mono hu5) hxt
    · refine gs_ints h (by (repeat' (first | exact VsOf.nil | apply VsOf.cons | (apply VOf.int; first | assumption | (constructor <;> first | omega | (simp only [List.length_set, List.length_append, List.length_replicate, List.length_cons, List.length_nil, List.length_take, List.length_drop, List.length_map, List.length_singleton] at *; omega))) | exact VOf.bool | exact VOf.str))) rfl (by decide) fun xt w5 u5 hu5 hs5 h hxt => ⟨hs5, ?_⟩
      refine gs_gen Hh (hp3.mono hu5) (hv3.mono hu5) (by omega) hvl tt0 tt1 (by omega) h fun n1 n2 x4 w4 u4 hu4 h he => ?_
      exact rest (hu5.trans hu4) h he (hxt.mono hu4)
  have other : ∀ {u3 w3 : World} {m3 : Int}, Sub u u3 → GS u3 a R m3 w3 → m3 ≤ m + 5 →
      Trip Tryd.prog 129 #[.pointer (some (a.add 0)), .agg #[x.val, y.val], z.val, .int .i64 t, .int .i64 b] w3 fun r115 w116 =>
                  ∃ n117 : Int, ∃ n118 : Int, ∃ x119 : Sl, r115 = .agg #[.int .i64 n117, .int .i64 n118, x119.val] ∧
                  ∃ n1 n2 s, Value.agg #[.int .i64 n117, .int .i64 n118, x119.val] = .agg #[.int .i64 n1, .int .i64 n2, Sl.val s] ∧ GQ u a R (m + Pg b) (Pg b) n1 n2 s w116 := by
    intro u3 w3 m3 hu3 h hm3
    refine use_e (c_genOther H (hp.mono hu3) (hv.mono hu3) hvl hc (by omega) hvb t0 t1 (by omega) h) fun n1 n2 s w' hq => ?_
    exact ⟨_, _, _, rfl, hq.le hu3 (by omega) (by omega)⟩
  have all : ∀ {u3 w3 : World} {xt : Sl} {m3 : Int} {types : List Int} {op num : Int}, Sub u u3 → GS u3 a R m3 w3 → m3 ≤ m + 5 → Read u3 xt types → types.length ≤ 3 → (∀ t ∈ types, 0 ≤ t ∧ t ≤ 4) → okN op num types.length = true →
        Trip Tryd.prog 126 #[.pointer (some (a.add 0)), .agg #[x.val, y.val], z.val, xt.val, .int .i64 (b - 1)] w3 fun r109 w110 =>
                ∃ x111 : Sl, r109 = x111.val ∧
                Trip Tryd.prog 55 #[.int .i64 op, .int .i64 num, x111.val] w110 fun r112 w113 =>
                  ∃ n114 : Int, ∃ n115 : Int, ∃ x116 : Sl, r112 = .agg #[.int .i64 n114, .int .i64 n115, x116.val] ∧
                  ∃ n1 n2 s, Value.agg #[.int .i64 n114, .int .i64 n115, x116.val] = .agg #[.int .i64 n1, .int .i64 n2, Sl.val s] ∧ GQ u a R (m + Pg b) (Pg b) n1 n2 s w113 := by
      intro u3 w3 xt m3 types op num hu3 h hm3 hxt htl htt hop
      have hsp := Pg_split (b := b - 1) (n := types.length) (by omega) (by omega)
      refine gs_genAll (fun hz => H _ (tdiv_pos (by omega) (by omega)).1 (by have := (tdiv_pos (b := b - 1) (n := types.length) (by omega) (by omega)).2; omega)) (hp.mono hu3) (hv.mono hu3) hvl hxt (by omega) htt (by omega) (by omega) (by omega) (by omega) h fun x5 w5 u5 ks hu5 h hx5 hc5 hn5 hl5 => ?_
      refine gs_nodeL h hx5 hc5 hn5 (by rw [hl5]; exact hop) fun he => ?_
      exact ⟨_, _, _, rfl, u5, hu3.trans hu5, h.le (by omega), he.le (by omega)⟩
  refine ⟨fun hj3 => ?_, fun hj3 => ?_⟩
  · refine gs_ints h (by (repeat' (first | exact VsOf.nil | apply VsOf.cons | (apply VOf.int; first | assumption | (constructor <;> first | omega | (simp only [List.length_set, List.length_append, List.length_replicate, List.length_cons, List.length_nil, List.length_take, List.length_drop, List.length_map, List.length_singleton] at *; omega))) | exact VOf.bool | exact VOf.str))) rfl (by decide) fun x4 w4 u4 hu4 hs4 h hx4 => ?_
    refine go_wr (by omega) (by omega) ?_
    refine all hu4 h (by omega) hx4 (by simp) ?_ (ok_zero (by omega))
    intro t' ht'
    simp only [List.mem_cons, List.not_mem_nil, or_false] at ht'
    omega
  refine ⟨fun _ w => GS u a R (m + 1) w, ⟨fun _ => ⟨rfl, rfl, rfl, rfl, rfl, h⟩, fun _ => ⟨fun _ => ⟨rfl, rfl, rfl, rfl, rfl, h⟩, fun _ => ⟨rfl, rfl, rfl, rfl, rfl, h⟩⟩⟩, ?_⟩
  clear h
  intro q3 w3 h
  refine ⟨fun hq3 => ?_, fun hq3 => ?_⟩
  · refine use_e (c_genMatch H hp hv hvl hc (by omega) hvb t0 t1 (by omega) h) fun n1 n2 s w' hq => ?_
    exact ⟨_, _, _, rfl, hq.le (.refl _) (by omega) (by omega)⟩
  refine ⟨fun _ w => GS u a R (m + 1) w, ⟨fun _ => ⟨rfl, rfl, rfl, rfl, rfl, h⟩, fun _ => ⟨rfl, rfl, rfl, rfl, rfl, h⟩⟩, ?_⟩
  clear h
  intro q4 w4 h
  refine ⟨fun hq4 => ?_, fun hq4 => other (.refl _) h (by omega)⟩
  refine gs_mkw (c_callable (t := t) (hp.rx.mono h.sub) hp.gd.len.2 (hp.fsr h) (fun f hf => (sig_facts (hp.gf.2.2 f hf)).1) hp.gf.2.1) h fun xl l w5 u5 hu5 hs5 h hxl ⟨hl1, hl2⟩ => ?_
  have hln := hxl.n
  refine ⟨fun hcc => ?_, fun hcc => other hu5 h (by omega)⟩
  simp only [bls] at hcc
  refine gs_pick h (by omega) (by omega) (by omega) fun k w6 h k0 k1 _ => ?_
  refine go_ix hxl k0 (by omega) ?_
  refine ⟨_, ((hxl.mono h.sub).int k0 (by omega)).1, ?_⟩
  obtain ⟨f0, f1⟩ := hl2 _ (nth_mem (l := l) k0 (by omega))
  generalize nth l k = f at f0 f1 ⊢
  have hf0 : 0 ≤ f := by omega
  obtain ⟨g1, g2, e1, _, _, _, _, _, _, _, r1, _⟩ := ((hp.mono hu5).src h).ofFunD hf0 f1
  have hyf := (hp.mono hu5).fsr h
  have hsf := sig_facts (hp.gf.mem hf0 f1)
  have hfl := hp.gf.2.1
  refine go_ix hyf hf0 f1 ?_
  refine ⟨g1, e1, ?_⟩
  refine go_wr (by omega) (by omega) ?_
  exact all hu5 h (by omega) r1 hsf.1 (fun t ht => by have := hsf.2.1 t ht; omega) (ok_call hf0 (by omega))
theorem c_gen : ∀ b : Int, b ≤ 30 → GenC b := by
  have key : ∀ n : Nat, ∀ b : Int, b ≤ n → b ≤ 30 → GenC b := by
    intro n
    induction n with
    | zero => exact fun b h1 h2 => gen_step b h2 fun b' h0 h3 => by omega
    | succ n ih => exact fun b h1 h2 => gen_step b h2 fun b' h0 h3 => ih b' (by omega) (by omega)
  exact fun b hb => key b.toNat b (by omega) hb
end
end Go.Vc
