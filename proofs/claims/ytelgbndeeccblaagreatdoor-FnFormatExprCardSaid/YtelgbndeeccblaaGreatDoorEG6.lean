/- Part of the proofs about the heaps and memories: a law is joined in the text whose name ends in W and the law. -/
import Derived.Test.YtelgbndeeccblaaGreatDoorEG4
namespace Go.Vc
open Go Go.Proofs Go.RowKit
set_option linter.all false
theorem VOf.mono {α : Type} [Dat α] {u u' : World} {v : Value} {e : α} (h : VOf u v e) (hs : Sub u u') : VOf u' v e := ⟨h.1, Dat.mono hs h.2⟩
theorem nodesL_len : ∀ l : List ExprD, l.length ≤ nodesL l
 | [] => by simp
 | k :: r => by
  have h1 := nodesL_len r
  have h2 := nodesE_eq k
  rw [nodesL_cons, List.length_cons]
  omega
def CpE (c : ExprD) : Prop := ∀ (v : World) (f : Sl), Read v f c.kids → InI c.op → InI c.num → Mk Tryz.prog 200 #[.agg #[.int .i64 c.op, .int .i64 c.num, f.val]] v fun r J => ∃ y : Sl, r = .agg #[.int .i64 c.op, .int .i64 c.num, y.val] ∧ DatO.own [intV c.op, intV c.num, y.val] c J
section
variable {u u' u0 v w : World} {x y z s tx x1 x2 x3 : Sl} {ds : List DeclD} {fs : List FunD} {a : Addr} {I J L R : Items} {F : Items → Items} {m m' N N' N1 N2 N3 n n1 n2 k1 k2 l1 l2 op num t b f at_ : Int} {vars types : List Int} {ks : List ExprD} {e : ExprD}
theorem c_copyExprsD {l : List ExprD} (H : ∀ k ∈ l, CpE k) (hx : Read v x l) : Mk Tryz.prog 155 #[x.val] v fun r J => ∃ y, r = y.val ∧ OwnD y l J := by
 refine of155 _ _ _ ?_
 unfold vc155
 have hn := hx.n
 have hl := hx.le
 refine St.build (α := ExprD) (l := []) (St.refl v) VsOf.nil rfl (by decide) ?_
 intro y0 w0 J0 hO0 hS0 hs0
 refine ⟨_, rfl, ?_⟩
 have hO0 : OwnD y0 ([] : List ExprD) J0 := by
  obtain ⟨rows, k1, k2, k3⟩ := hO0
  have hr : rows = [] := List.eq_nil_of_length_eq_zero (by have := k2.1; simpa using this)
  subst hr
  exact ⟨[], J0, [], [], k1, rfl, rfl, fun i r a K h => by simp at h, by simp, Nat.zero_le _⟩
 refine ⟨fun y i w => ∃ I, OwnD y (l.take i.toNat) I ∧ St v w (I ++ []) ∧ 0 ≤ i ∧ i ≤ l.length, fun _ i _ => (l.length - i).toNat, ⟨J0, by simpa using hO0, hS0, by omega, by omega⟩, ?_⟩
 clear hO0 hS0 hs0
 rintro y i w ⟨I, hO, hS, h0, h1⟩
 dsimp only
 refine ⟨fun hi => ?_, fun hi => ?_⟩
 ·simp only [bls] at hi
  have hil : i < l.length := by omega
  refine go_ix hx h0 hil ?_
  obtain ⟨f_kids, e1, e2, e3, i1, i2, r1⟩ := (hx.src hS.sub).ofExprD h0 hil
  refine ⟨_, _, f_kids, ⟨e1, e2, e3⟩, ?_⟩
  refine Mk.use (H _ (nth_mem h0 hil) v f_kids r1 i1 i2) hS ?_
  rintro _ w2 J2 ⟨t, rfl, hT⟩ hS hsub
  refine ⟨_, _, t, rfl, ?_⟩
  refine St.buildR hS ?_ ?_ ?_ ?_
  ·simp [Value.cells]
  ·rfl
  ·decide
  intro x3 w3 I3 hB hS hs _
  refine ⟨_, rfl, ?_⟩
  refine OwnD.push' (a := nth l i) hO hS (hB.rd hS.items) hT (by simp; omega) (by decide) ?_
  intro x4 w4 I4 hO4 hS
  refine ⟨_, rfl, ?_⟩
  refine go_wr (by omega) (by omega) ?_
  refine ⟨⟨I4, ?_, hS.to, by omega, by omega⟩, by omega⟩
  rw [take_nth h0 hil]; exact hO4
 ·simp only [bls] at hi
  rw [take_all (by omega)] at hO
  exact ⟨I, by simpa using hS, y, rfl, hO⟩
theorem c_copyExprD (c : ExprD) : CpE c := by
 refine ex_ind (P := CpE) (fun c ih => ?_) c
 intro v f hf h1 h2
 refine of200 _ _ _ _ _ ?_
 unfold vc200
 refine Mk.use (c_copyExprsD ih hf) (.refl v) ?_
 rintro _ w1 J1 ⟨y, rfl, o⟩ hS hs
 exact ⟨y, rfl, hs, J1, by simpa using hS, y, rfl, expr_own.2 ⟨y, rfl, h1, h2, o⟩⟩
/-- what is owned to the leaves: the list itself one's own, the rest read from now on -/
theorem GS.split {α : Type} [DatO α] {l : List α} (h : GS u a (J ++ R) m w) (hO : OwnD x l J) : ∃ u' J0, Sub u u' ∧ GS u' a (J0 ++ R) m w ∧ Own u' x l J0 := by
 obtain ⟨rows, I0, Is, E, h1, h2, h3, h4, h5, h6⟩ := hO
 obtain ⟨I, hR, hS⟩ := h
 have hS : St u w ((Is.flatten ++ E) ++ (I ++ (I0 ++ R))) := hS.perm (by
  classical
  exact List.perm_iff_count.2 fun a => by have := h5.count_eq a; simp only [List.count_append] at *; omega)
 obtain ⟨u2, hu, hS2, hJ⟩ := hS.freeze (Is.flatten ++ E)
 refine ⟨u2, I0, hu, ⟨I, hR.mono hu, hS2⟩, rows, h1, ⟨h2, fun i r b hr hb => ?_⟩, h6⟩
 have hlt : i < Is.length := by
  have := (List.getElem?_eq_some_iff.1 hr).1
  omega
 have hI := List.getElem?_eq_getElem hlt
 refine DatO.read (h4 i r b _ hr hb hI) fun p hp => hJ.at_ p ?_
 exact List.mem_append_left _ (List.mem_flatten.2 ⟨_, List.getElem_mem hlt, hp⟩)
theorem gs_copyExprs (hx : Read u x ks) (h : GS u a R m w) {K : Sl → World → Prop} (k : ∀ z w' u' J, Sub u u' → GS u' a (J ++ R) m w' → Own u' z ks J → K z w') :
  Trip Tryz.prog 155 #[x.val] w fun r w' => ∃ z : Sl, r = z.val ∧ K z w' := by
 obtain ⟨I, hR, hS⟩ := h
 refine Mk.use (c_copyExprsD (fun k _ => c_copyExprD k) hx) hS ?_
 rintro _ w' J ⟨z, rfl, hO⟩ hS hs
 obtain ⟨u2, J0, hu, h2, hO2⟩ := GS.split (u := u) (a := a) (R := R) (m := m) (w := w') ⟨I, hR, hS.to⟩ hO
 exact ⟨z, rfl, k z w' u2 J0 hu h2 hO2⟩
/-- an expression, whatever it is -/
def EW (u : World) (n1 n2 : Int) (x : Sl) : Prop := ∃ e : ExprD, n1 = e.op ∧ n2 = e.num ∧ Read u x e.kids ∧ InI e.op ∧ InI e.num
def GW (u : World) (a : Addr) (R : Items) (m : Int) (r : Value) (w : World) : Prop := ∃ n1 n2 x, r = .agg #[.int .i64 n1, .int .i64 n2, Sl.val x] ∧ ∃ u', Sub u u' ∧ GS u' a R m w ∧ EW u' n1 n2 x
theorem EW.mono (h : EW u n1 n2 x) (hs : Sub u u') : EW u' n1 n2 x := let ⟨e, h1, h2, h3, h4⟩ := h; ⟨e, h1, h2, h3.mono hs, h4⟩
theorem gw (hu : Sub u u') (h : GS u' a R m w) (he : EW u' n1 n2 x) (hm : m ≤ m') : GW u a R m' (.agg #[.int .i64 n1, .int .i64 n2, x.val]) w := ⟨_, _, _, rfl, u', hu, h.le hm, he⟩
theorem EW.mk (h1 : InI op) (h2 : InI num) (hx : Read u x ks) : EW u op num x := ⟨⟨op, num, ks⟩, rfl, rfl, hx, h1, h2⟩
theorem vow (r : Read u x e.kids) (h1 : InI e.op) (h2 : InI e.num) : VOf u (.agg #[.int .i64 e.op, .int .i64 e.num, x.val]) e := ⟨rfl, expr_cells.2 ⟨x, rfl, h1, h2, r⟩⟩
def BnE (e : ExprD) : Prop := ∀ (u : World) (a : Addr) (R : Items) (f : Sl) (m : Int) (w : World), Read u f e.kids → canE e = true → nodesE e ≤ 100000 → m + 10 * nodesE e ≤ 999900000 → GS u a R m w →
 Trip Tryz.prog 102 #[.pointer (some (a.add 0)), .agg #[.int .i64 e.op, .int .i64 e.num, f.val]] w (GW u a R (m + 10 * nodesE e))
theorem gs_intW (h : GS u a R m w) (hi : InI n) {K : Int → Int → Sl → World → Prop} (k : ∀ n1 n2 x w' u', Sub u u' → Sub w w' → GS u' a R m w' → EW u' n1 n2 x → K n1 n2 x w') :
  Trip Tryz.prog 156 #[.int .i64 n] w fun r w' => ∃ n1 n2 x, r = .agg #[.int .i64 n1, .int .i64 n2, x.val] ∧ K n1 n2 x w' := by
 refine of156 _ _ _ ?_
 unfold vc156
 exact gs_kids (ks := []) h VsOf.nil rfl (by decide) fun x w' u' hu hs h' hx => ⟨_, _, _, rfl, k _ _ _ w' u' hu hs h' (EW.mk (in64_in rfl) hi hx)⟩
theorem gs_varW (h : GS u a R m w) (hi : InI n) {K : Int → Int → Sl → World → Prop} (k : ∀ n1 n2 x w' u', Sub u u' → Sub w w' → GS u' a R m w' → EW u' n1 n2 x → K n1 n2 x w') :
  Trip Tryz.prog 157 #[.int .i64 n] w fun r w' => ∃ n1 n2 x, r = .agg #[.int .i64 n1, .int .i64 n2, x.val] ∧ K n1 n2 x w' := by
 refine of157 _ _ _ ?_
 unfold vc157
 exact gs_kids (ks := []) h VsOf.nil rfl (by decide) fun x w' u' hu hs h' hx => ⟨_, _, _, rfl, k _ _ _ w' u' hu hs h' (EW.mk (in64_in rfl) hi hx)⟩
theorem c_bend (e : ExprD) : BnE e := by
 refine ex_ind (P := BnE) (fun e ih => ?_) e
 intro u a R f m w hf hce hN hm h
 refine of102 _ _ _ _ _ _ ?_
 unfold vc102
 have hfn := hf.n
 have hfl := hf.le
 obtain ⟨hop, hnum⟩ := can_in hce
 have hce2 := hce
 rw [canE_eq, Bool.and_eq_true, okN_iff] at hce2
 obtain ⟨hok, hcl⟩ := hce2
 rw [nodesE_eq] at hm hN ⊢
 have hns := nodesL_len e.kids
 refine ⟨fun w => GS u a R (m + 1) w, ⟨fun hc => ?_, fun hc => ⟨rfl, rfl, rfl, rfl, rfl, rfl, h.le (by omega)⟩⟩, ?_⟩
 ·simp only [bls] at hc
  refine gs_pick h (by omega) (by omega) (by omega) fun j w1 h _ _ _ => ⟨fun hc2 => ?_, fun hc2 => ⟨rfl, rfl, rfl, rfl, rfl, rfl, h⟩⟩
  refine gs_copyExprs hf h fun z w2 u2 J hu2 h hO => ?_
  have hzn := hO.n
  refine gs_pick (n := z.n) h (by omega) (by omega) (by omega) fun k w3 h k0 k1 _ => ?_
  have hkl : k < e.kids.length := by omega
  have hmem := nth_mem k0 hkl
  have hnk := nodes_mem hmem
  refine go_oix hO k0 hkl ?_
  obtain ⟨I3, hR3, hS3⟩ := h
  obtain ⟨g, e1, e2, e3, i1, i2, rg⟩ := (hO.src hS3).ofExprD k0 hkl
  refine ⟨_, _, g, ⟨e1, e2, e3⟩, ?_⟩
  refine (ih _ hmem u2 a (J ++ R) g _ w3 rg (canL_mem hcl _ hmem) (by omega) (by omega) ⟨I3, hR3, hS3⟩).mono' ?_
  rintro _ w4 ⟨n1, n2, s, rfl, u4, hu4, h, e', rfl, rfl, re, j1, j2⟩
  refine ⟨_, _, s, rfl, ?_⟩
  have hO4 := hO.mono hu4
  refine go_oix hO4 k0 hkl ?_
  obtain ⟨I4, hR4, hS4⟩ := h
  refine hO4.store hS4 k0 hkl e' (Nat.le_of_ble_eq_true rfl) (fun r hr => ?_) fun w5 J5 hO5 hS5 => ?_
  ·obtain ⟨f', rfl, _⟩ := expr_cells.1 hr
   exact expr_cells.2 ⟨s, rfl, j1, j2, re⟩
  ·have h : GS u4 a (J5 ++ R) _ w5 := ⟨I4, hR4, hS5.to⟩
   obtain ⟨u6, hu6, h, hJ⟩ := h.freeze
   refine gs_node ?_
   exact gw (hu2.trans (hu4.trans hu6)) h (EW.mk hop hnum (hO5.read1 hJ)) (by omega)
 intro w1 h
 refine gs_pick h (by omega) (by omega) (by omega) fun j w2 h _ _ _ => ⟨fun hc => ?_, fun hc => ⟨fun hc => ?_, fun hc => ⟨fun hc => ?_, fun hc => ⟨fun hc => ?_, fun hc => ?_⟩⟩⟩⟩
 ·refine gs_pick h (by omega) (by omega) (by omega) fun k w3 h k0 k1 _ => ?_
  refine gs_node ?_
  exact gw (.refl _) h (EW.mk ⟨by omega, by omega⟩ hnum hf) (by omega)
 ·refine gs_ints h (by (repeat' (first | exact VsOf.nil | apply VsOf.cons | (apply VOf.int; first | assumption | (constructor <;> first | omega | (simp only [List.length_set, List.length_append, List.length_replicate, List.length_cons, List.length_nil, List.length_take, List.length_drop, List.length_map, List.length_singleton] at *; omega))) | exact VOf.bool | exact VOf.str))) rfl (by decide) fun x3 w3 u3 hu3 hs3 h hx3 => ?_
  refine gs_one h hx3 (by omega) (by simp) (by simp) fun k w4 h hk => ?_
  have hkk : -1 ≤ k ∧ k ≤ 1000 := by simp only [List.mem_cons, List.not_mem_nil, or_false] at hk; omega
  refine go_wr (by omega) (by omega) ?_
  refine gs_node ?_
  exact gw hu3 h (EW.mk hop ⟨by omega, by omega⟩ (hf.mono hu3)) (by omega)
 ·refine gs_copyExprs hf h fun z w3 u3 J hu3 h hO => ?_
  refine gs_intW h (in64_in rfl) fun n1 n2 x4 w4 u4 hu4 hs4 h he => ?_
  obtain ⟨e', rfl, rfl, re, j1, j2⟩ := he
  refine gs_pushO h (hO.mono hu4) (by exact VsOf.cons (vow re j1 j2) VsOf.nil) ?_ (by decide) (by decide) fun x' w5 J5 h hO5 => ?_
  ·omega
  obtain ⟨u6, hu6, h, hJ⟩ := h.freeze
  refine gs_node ?_
  exact gw (hu3.trans (hu4.trans hu6)) h (EW.mk hop hnum (hO5.read1 hJ)) (by omega)
 ·refine gs_ints h (by (repeat' (first | exact VsOf.nil | apply VsOf.cons | (apply VOf.int; first | assumption | (constructor <;> first | omega | (simp only [List.length_set, List.length_append, List.length_replicate, List.length_cons, List.length_nil, List.length_take, List.length_drop, List.length_map, List.length_singleton] at *; omega))) | exact VOf.bool | exact VOf.str))) rfl (by decide) fun x3 w3 u3 hu3 hs3 h hx3 => ?_
  refine gs_one h hx3 (by omega) (by simp) (by simp) fun k w4 h hk => ?_
  have hkk : -1 ≤ k ∧ k ≤ 1000 := by simp only [List.mem_cons, List.not_mem_nil, or_false] at hk; omega
  refine gs_varW h ⟨by omega, by omega⟩ fun n1 n2 x4 w4 u4 hu4 hs4 h he => ?_
  exact gw (hu3.trans hu4) h he (by omega)
 ·refine gs_ints h (by (repeat' (first | exact VsOf.nil | apply VsOf.cons | (apply VOf.int; first | assumption | (constructor <;> first | omega | (simp only [List.length_set, List.length_append, List.length_replicate, List.length_cons, List.length_nil, List.length_take, List.length_drop, List.length_map, List.length_singleton] at *; omega))) | exact VOf.bool | exact VOf.str))) rfl (by decide) fun x3 w3 u3 hu3 hs3 h hx3 => ?_
  refine gs_one h hx3 (by omega) (by simp) (by simp) fun k w4 h hk => ?_
  have hkk : -1000 ≤ k ∧ k ≤ 1000 := by simp only [List.mem_cons, List.not_mem_nil, or_false] at hk; omega
  refine gs_intW h ⟨by omega, by omega⟩ fun n1 n2 x4 w4 u4 hu4 hs4 h he => ?_
  exact gw (hu3.trans hu4) h he (by omega)
/-- a program and the number of one of its functions -/
theorem c_someBody (hm : m + 2000000 ≤ 999900000) (h : GS u a R m w) :
  Trip Tryz.prog 60 #[.pointer (some (a.add 0))] w fun r w' => ∃ (x y : Sl) (k : Int), r = .tuple #[.agg #[x.val, y.val], .int .i64 k] ∧ ∃ u' ds fs J, Sub u u' ∧ GS u' a (J ++ R) (m + 1000001) w' ∧ Read u' x ds ∧ Own u' y fs J ∧ GD ds ∧ 1 ≤ fs.length ∧ fs.length ≤ 4 ∧ (∀ f ∈ fs, FOk f) ∧ 0 ≤ k ∧ k < fs.length := by
 refine of60 _ _ _ ?_
 unfold vc60
 refine (c_goodProgram (by omega) h).mono' ?_
 rintro _ w1 ⟨x, y, rfl, u1, ds, fs, J, hu1, h, hx, hO, hgd, hl1, hl4, hok⟩
 have hyn := hO.n
 refine ⟨_, _, rfl, ?_⟩
 refine gs_pick h (by omega) (by omega) (by omega) fun k w2 h k0 k1 _ => ?_
 exact ⟨x, y, k, rfl, u1, ds, fs, J, hu1, h.le (by omega), hx, hO, hgd, hl1, hl4, hok, k0, by omega⟩
theorem c_someExpr (hm : m + 3000000 ≤ 999900000) (h : GS u a R m w) : Trip Tryz.prog 53 #[.pointer (some (a.add 0))] w (GW u a R (m + 2000000)) := by
 refine of53 _ _ _ ?_
 unfold vc53
 refine (c_someBody (by omega) h).mono' ?_
 rintro _ w1 ⟨x, y, k, rfl, u1, ds, fs, J, hu1, h, hx, hO, hgd, hl1, hl4, hok, k0, k1⟩
 refine ⟨x, y, k, rfl, ?_⟩
 obtain ⟨u2, hu2, h, hJ⟩ := h.freeze
 have hy := hO.read1 hJ
 have hU := hu1.trans hu2
 have hfk := hok _ (nth_mem k0 k1)
 refine go_ix hy k0 k1 ?_
 obtain ⟨g, g2, _, _, e3, e4, e5, _, i2, i3, _, r2⟩ := (hy.src h.sub).ofFunD k0 k1
 have hv := vow r2 i2 i3
 have he : EW u2 (nth fs k).body.op (nth fs k).body.num g2 := ⟨_, rfl, rfl, r2, i2, i3⟩
 refine ⟨_, _, g2, ⟨e3, e4, e5⟩, ?_⟩
 have hnod : (nodesE (nth fs k).body : Int) ≤ 5000 := by have := hfk.2.2; omega
 refine gs_pick h (by omega) (by omega) (by omega) fun j w2 h _ _ _ => ⟨fun hc => ?_, fun hc => ⟨fun hc => ?_, fun hc => ⟨fun hc => ?_, fun hc => gw hU h he (by omega)⟩⟩⟩
 ·refine (c_bend _ u2 a R g2 _ w2 r2 hfk.2.1 (by omega) (by omega) h).mono' ?_
  rintro _ w3 ⟨n1, n2, s, rfl, u3, hu3, h, he3⟩
  exact ⟨_, _, _, rfl, gw (hU.trans hu3) h he3 (by omega)⟩
 ·refine gs_kids h (by exact VsOf.cons hv (VsOf.cons hv VsOf.nil)) rfl (by decide) fun x3 w3 u3 hu3 hs3 h hx3 => ?_
  exact gs_node ⟨_, _, _, rfl, u3, hU.trans hu3, h.le (by omega), EW.mk (in64_in rfl) (in64_in rfl) hx3⟩
 ·refine gs_kids h (by exact VsOf.cons hv (VsOf.cons hv VsOf.nil)) rfl (by decide) fun x3 w3 u3 hu3 hs3 h hx3 => ⟨hs3, ?_⟩
  refine gs_node ⟨.refl _, ?_⟩
  refine gs_kids h (by exact VsOf.cons (hv.mono hu3) (VsOf.cons (vow (e := ⟨1, 0, _⟩) hx3 (in64_in rfl) (in64_in rfl)) VsOf.nil)) rfl (by decide) fun x4 w4 u4 hu4 hs4 h hx4 => ?_
  exact gs_node ⟨_, _, _, rfl, u4, (hU.trans hu3).trans hu4, h.le (by omega), EW.mk (in64_in rfl) (in64_in rfl) hx4⟩
end
end Go.Vc

namespace Go.Vc
open Go Go.Proofs Go.RowKit
set_option linter.all false
section
variable {u u' v w : World} {x y z s x1 : Sl} {a : Addr} {I J L R : Items} {m n n1 n2 op num : Int} {bs : List UInt8} {ks : List ExprD} {e : ExprD}
theorem GS.start {code : List UInt8} {K : Addr → World → Prop} (hx : Read v x code) (k : ∀ a w', GS v a [] 0 w' → K a w') : Trip Tryz.prog 54 #[x.val] v fun r w' => ∃ a : Addr, r = .pointer (some (a.add 0)) ∧ K a w' := by
 refine Mk.use (c_newReader hx) (.refl v) ?_
 rintro _ w1 J1 ⟨a, rfl, hR⟩ hS _
 exact ⟨a, rfl, k a w1 ⟨J1, hR, hS⟩⟩
def GW' (v : World) (r : Value) (w : World) : Prop := ∃ n1 n2 s, r = .agg #[.int .i64 n1, .int .i64 n2, Sl.val s] ∧ ∃ a m u', Sub v u' ∧ GS u' a [] m w ∧ EW u' n1 n2 s
theorem c_DrawFormatExpr (hx : Read v x bs) : Trip Tryz.prog 19 #[x.val] v (GW' v) := by
 refine of19 _ _ _ ?_
 unfold vc19
 refine GS.start hx fun a w1 h => ?_
 refine (c_someExpr (by omega) h).mono' ?_
 rintro _ w2 ⟨n1, n2, s, rfl, u2, hu2, h, he⟩
 exact ⟨_, _, _, rfl, _, _, _, rfl, a, _, u2, hu2, h, he⟩
end
end Go.Vc
