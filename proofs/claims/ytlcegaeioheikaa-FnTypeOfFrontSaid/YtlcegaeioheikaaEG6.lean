/- Part of the proofs about the heaps and memories: a law is joined in the text whose name ends in W and the law. -/
import Derived.Test.YtlcegaeioheikaaEG4
namespace Go.Vc
open Go Go.Proofs Go.RowKit
set_option linter.all false
theorem VOf.mono {α : Type} [Dat α] {u u' : World} {v : Value} {e : α} (h : VOf u v e) (hs : Sub u u') : VOf u' v e := ⟨h.1, Dat.mono hs h.2⟩
theorem nodesL_len : ∀ l : List ExprD, l.length ≤ nodesL l
 | [] => by simp
 | k :: r => by
  have h1 := nodesL_len r
  have h2 := nodesE_eq k
  rw [nodesL_cons, List.length_cons]
  omega
def CpE (c : ExprD) : Prop := ∀ (v : World) (f : Sl), Read v f c.kids → InI c.op → InI c.num → Mk Try.prog 64 #[.agg #[.int .i64 c.op, .int .i64 c.num, f.val]] v fun r J => ∃ y : Sl, r = .agg #[.int .i64 c.op, .int .i64 c.num, y.val] ∧ DatO.own [intV c.op, intV c.num, y.val] c J
section
variable {u u' u0 v w : World} {x y z s tx x1 x2 x3 : Sl} {ds : List DeclD} {fs : List FunD} {a : Addr} {I J L R : Items} {F : Items → Items} {m m' N N' N1 N2 N3 n n1 n2 k1 k2 l1 l2 op num t b f at_ : Int} {vars types : List Int} {ks : List ExprD} {e : ExprD}
theorem c_copyExprsD {l : List ExprD} (H : ∀ k ∈ l, CpE k) (hx : Read v x l) : Mk Try.prog 32 #[x.val] v fun r J => ∃ y, r = y.val ∧ OwnD y l J := by
 refine of32 _ _ _ ?_
 unfold vc32
 have hn := hx.n
 have hl := hx.le
 refine St.build (α := ExprD) (l := []) (St.refl v) VsOf.nil rfl (by decide) ?_
 intro y0 w0 J0 hO0 hS0 hs0
 refine ⟨_, rfl, ?_⟩
 have hO0 : OwnD y0 ([] : List ExprD) J0 := by
  obtain ⟨rows, k1, k2, k3⟩ := hO0
  have hr : rows = [] := List.eq_nil_of_length_eq_zero (by have := k2.1; simpa using this)
  subst hr
  exact ⟨[], J0, [], [], k1, rfl, rfl, fun i r a K h => by simp at h, by simp, Nat.zero_le _⟩
 refine ⟨fun y i w => ∃ I, OwnD y (l.take i.toNat) I ∧ St v w (I ++ []) ∧ 0 ≤ i ∧ i ≤ l.length, fun _ i _ => (l.length - i).toNat, ⟨J0, by simpa using hO0, hS0, by omega, by omega⟩, ?_⟩
 clear hO0 hS0 hs0
 rintro y i w ⟨I, hO, hS, h0, h1⟩
 dsimp only
 refine ⟨fun hi => ?_, fun hi => ?_⟩
 ·simp only [bls] at hi
  have hil : i < l.length := by omega
  refine go_ix hx h0 hil ?_
  obtain ⟨f_kids, e1, e2, e3, i1, i2, r1⟩ := (hx.src hS.sub).ofExprD h0 hil
  refine ⟨_, _, f_kids, ⟨e1, e2, e3⟩, ?_⟩
  refine Mk.use (H _ (nth_mem h0 hil) v f_kids r1 i1 i2) hS ?_
  rintro _ w2 J2 ⟨t, rfl, hT⟩ hS hsub
  refine ⟨_, _, t, rfl, ?_⟩
  refine St.buildR hS ?_ ?_ ?_ ?_
  ·simp [Value.cells]
  ·rfl
  ·decide
  intro x3 w3 I3 hB hS hs _
  refine ⟨_, rfl, ?_⟩
  refine OwnD.push' (a := nth l i) hO hS (hB.rd hS.items) hT (by simp; omega) (by decide) ?_
  intro x4 w4 I4 hO4 hS
  refine ⟨_, rfl, ?_⟩
  refine go_wr (by omega) (by omega) ?_
  refine ⟨⟨I4, ?_, hS.to, by omega, by omega⟩, by omega⟩
  rw [take_nth h0 hil]; exact hO4
 ·simp only [bls] at hi
  rw [take_all (by omega)] at hO
  exact ⟨I, by simpa using hS, y, rfl, hO⟩
theorem c_copyExprD (c : ExprD) : CpE c := by
 refine ex_ind (P := CpE) (fun c ih => ?_) c
 intro v f hf h1 h2
 refine of64 _ _ _ _ _ ?_
 unfold vc64
 refine Mk.use (c_copyExprsD ih hf) (.refl v) ?_
 rintro _ w1 J1 ⟨y, rfl, o⟩ hS hs
 exact ⟨y, rfl, hs, J1, by simpa using hS, y, rfl, expr_own.2 ⟨y, rfl, h1, h2, o⟩⟩
/-- what is owned to the leaves: the list itself one's own, the rest read from now on -/
theorem GS.split {α : Type} [DatO α] {l : List α} (h : GS u a (J ++ R) m w) (hO : OwnD x l J) : ∃ u' J0, Sub u u' ∧ GS u' a (J0 ++ R) m w ∧ Own u' x l J0 := by
 obtain ⟨rows, I0, Is, E, h1, h2, h3, h4, h5, h6⟩ := hO
 obtain ⟨I, hR, hS⟩ := h
 have hS : St u w ((Is.flatten ++ E) ++ (I ++ (I0 ++ R))) := hS.perm (by
  classical
  exact List.perm_iff_count.2 fun a => by have := h5.count_eq a; simp only [List.count_append] at *; omega)
 obtain ⟨u2, hu, hS2, hJ⟩ := hS.freeze (Is.flatten ++ E)
 refine ⟨u2, I0, hu, ⟨I, hR.mono hu, hS2⟩, rows, h1, ⟨h2, fun i r b hr hb => ?_⟩, h6⟩
 have hlt : i < Is.length := by
  have := (List.getElem?_eq_some_iff.1 hr).1
  omega
 have hI := List.getElem?_eq_getElem hlt
 refine DatO.read (h4 i r b _ hr hb hI) fun p hp => hJ.at_ p ?_
 exact List.mem_append_left _ (List.mem_flatten.2 ⟨_, List.getElem_mem hlt, hp⟩)
theorem gs_copyExprs (hx : Read u x ks) (h : GS u a R m w) {K : Sl → World → Prop} (k : ∀ z w' u' J, Sub u u' → GS u' a (J ++ R) m w' → Own u' z ks J → K z w') :
  Trip Try.prog 32 #[x.val] w fun r w' => ∃ z : Sl, r = z.val ∧ K z w' := by
 obtain ⟨I, hR, hS⟩ := h
 refine Mk.use (c_copyExprsD (fun k _ => c_copyExprD k) hx) hS ?_
 rintro _ w' J ⟨z, rfl, hO⟩ hS hs
 obtain ⟨u2, J0, hu, h2, hO2⟩ := GS.split (u := u) (a := a) (R := R) (m := m) (w := w') ⟨I, hR, hS.to⟩ hO
 exact ⟨z, rfl, k z w' u2 J0 hu h2 hO2⟩
/-- an expression, whatever it is -/
def EW (u : World) (n1 n2 : Int) (x : Sl) : Prop := ∃ e : ExprD, n1 = e.op ∧ n2 = e.num ∧ Read u x e.kids ∧ InI e.op ∧ InI e.num
def GW (u : World) (a : Addr) (R : Items) (m : Int) (r : Value) (w : World) : Prop := ∃ n1 n2 x, r = .agg #[.int .i64 n1, .int .i64 n2, Sl.val x] ∧ ∃ u', Sub u u' ∧ GS u' a R m w ∧ EW u' n1 n2 x
theorem EV.toW {C : CxE} (h : EV C u N n1 n2 x) : EW u n1 n2 x := let ⟨e, h1, h2, h3, h4, _⟩ := h; ⟨e, h1, h2, h3, (can_in h4.1).1, (can_in h4.1).2⟩
theorem EW.mono (h : EW u n1 n2 x) (hs : Sub u u') : EW u' n1 n2 x := let ⟨e, h1, h2, h3, h4⟩ := h; ⟨e, h1, h2, h3.mono hs, h4⟩
theorem gw (hu : Sub u u') (h : GS u' a R m w) (he : EW u' n1 n2 x) (hm : m ≤ m') : GW u a R m' (.agg #[.int .i64 n1, .int .i64 n2, x.val]) w := ⟨_, _, _, rfl, u', hu, h.le hm, he⟩
theorem EW.mk (h1 : InI op) (h2 : InI num) (hx : Read u x ks) : EW u op num x := ⟨⟨op, num, ks⟩, rfl, rfl, hx, h1, h2⟩
theorem vow (r : Read u x e.kids) (h1 : InI e.op) (h2 : InI e.num) : VOf u (.agg #[.int .i64 e.op, .int .i64 e.num, x.val]) e := ⟨rfl, expr_cells.2 ⟨x, rfl, h1, h2, r⟩⟩
def BnE (e : ExprD) : Prop := ∀ (u : World) (a : Addr) (R : Items) (f : Sl) (m : Int) (w : World), Read u f e.kids → canE e = true → nodesE e ≤ 100000 → m + 10 * nodesE e ≤ 999900000 → GS u a R m w →
 Trip Try.prog 15 #[.pointer (some (a.add 0)), .agg #[.int .i64 e.op, .int .i64 e.num, f.val]] w (GW u a R (m + 10 * nodesE e))
theorem gs_intW (h : GS u a R m w) (hi : InI n) {K : Int → Int → Sl → World → Prop} (k : ∀ n1 n2 x w' u', Sub u u' → Sub w w' → GS u' a R m w' → EW u' n1 n2 x → K n1 n2 x w') :
  Trip Try.prog 34 #[.int .i64 n] w fun r w' => ∃ n1 n2 x, r = .agg #[.int .i64 n1, .int .i64 n2, x.val] ∧ K n1 n2 x w' := by
 refine of34 _ _ _ ?_
 unfold vc34
 exact gs_kids (ks := []) h VsOf.nil rfl (by decide) fun x w' u' hu hs h' hx => ⟨_, _, _, rfl, k _ _ _ w' u' hu hs h' (EW.mk (in64_in rfl) hi hx)⟩
theorem gs_varW (h : GS u a R m w) (hi : InI n) {K : Int → Int → Sl → World → Prop} (k : ∀ n1 n2 x w' u', Sub u u' → Sub w w' → GS u' a R m w' → EW u' n1 n2 x → K n1 n2 x w') :
  Trip Try.prog 35 #[.int .i64 n] w fun r w' => ∃ n1 n2 x, r = .agg #[.int .i64 n1, .int .i64 n2, x.val] ∧ K n1 n2 x w' := by
 refine of35 _ _ _ ?_
 unfold vc35
 exact gs_kids (ks := []) h VsOf.nil rfl (by decide) fun x w' u' hu hs h' hx => ⟨_, _, _, rfl, k _ _ _ w' u' hu hs h' (EW.mk (in64_in rfl) hi hx)⟩
theorem c_bend (e : ExprD) : BnE e := by
 refine ex_ind (P := BnE) (fun e ih => ?_) e
 intro u a R f m w hf hce hN hm h
 refine of15 _ _ _ _ _ _ ?_
 unfold vc15
 have hfn := hf.n
 have hfl := hf.le
 obtain ⟨hop, hnum⟩ := can_in hce
 have hce2 := hce
 rw [canE_eq, Bool.and_eq_true, okN_iff] at hce2
 obtain ⟨hok, hcl⟩ := hce2
 rw [nodesE_eq] at hm hN ⊢
 have hns := nodesL_len e.kids
 refine ⟨fun w => GS u a R (m + 1) w, ⟨fun hc => ?_, fun hc => ⟨rfl, rfl, rfl, rfl, rfl, rfl, h.le (by omega)⟩⟩, ?_⟩
 ·simp only [bls] at hc
  refine gs_pick h (by omega) (by omega) (by omega) fun j w1 h _ _ _ => ⟨fun hc2 => ?_, fun hc2 => ⟨rfl, rfl, rfl, rfl, rfl, rfl, h⟩⟩
  refine gs_copyExprs hf h fun z w2 u2 J hu2 h hO => ?_
  have hzn := hO.n
  refine gs_pick (n := z.n) h (by omega) (by omega) (by omega) fun k w3 h k0 k1 _ => ?_
  have hkl : k < e.kids.length := by omega
  have hmem := nth_mem k0 hkl
  have hnk := nodes_mem hmem
  refine go_oix hO k0 hkl ?_
  obtain ⟨I3, hR3, hS3⟩ := h
  obtain ⟨g, e1, e2, e3, i1, i2, rg⟩ := (hO.src hS3).ofExprD k0 hkl
  refine ⟨_, _, g, ⟨e1, e2, e3⟩, ?_⟩
  refine (ih _ hmem u2 a (J ++ R) g _ w3 rg (canL_mem hcl _ hmem) (by omega) (by omega) ⟨I3, hR3, hS3⟩).mono' ?_
  rintro _ w4 ⟨n1, n2, s, rfl, u4, hu4, h, e', rfl, rfl, re, j1, j2⟩
  refine ⟨_, _, s, rfl, ?_⟩
  have hO4 := hO.mono hu4
  refine go_oix hO4 k0 hkl ?_
  obtain ⟨I4, hR4, hS4⟩ := h
  refine hO4.store hS4 k0 hkl e' (Nat.le_of_ble_eq_true rfl) (fun r hr => ?_) fun w5 J5 hO5 hS5 => ?_
  ·obtain ⟨f', rfl, _⟩ := expr_cells.1 hr
   exact expr_cells.2 ⟨s, rfl, j1, j2, re⟩
  ·have h : GS u4 a (J5 ++ R) _ w5 := ⟨I4, hR4, hS5.to⟩
   obtain ⟨u6, hu6, h, hJ⟩ := h.freeze
   refine gs_node ?_
   exact gw (hu2.trans (hu4.trans hu6)) h (EW.mk hop hnum (hO5.read1 hJ)) (by omega)
 intro w1 h
 refine gs_pick h (by omega) (by omega) (by omega) fun j w2 h _ _ _ => ⟨fun hc => ?_, fun hc => ⟨fun hc => ?_, fun hc => ⟨fun hc => ?_, fun hc => ⟨fun hc => ?_, fun hc => ?_⟩⟩⟩⟩
 ·refine gs_pick h (by omega) (by omega) (by omega) fun k w3 h k0 k1 _ => ?_
  refine gs_node ?_
  exact gw (.refl _) h (EW.mk ⟨by omega, by omega⟩ hnum hf) (by omega)
 ·refine gs_ints h (by (repeat' (first | exact VsOf.nil | apply VsOf.cons | (apply VOf.int; first | assumption | (constructor <;> first | omega | (simp only [List.length_set, List.length_append, List.length_replicate, List.length_cons, List.length_nil, List.length_take, List.length_drop, List.length_map, List.length_singleton] at *; omega))) | exact VOf.bool | exact VOf.str))) rfl (by decide) fun x3 w3 u3 hu3 hs3 h hx3 => ?_
  refine gs_one h hx3 (by omega) (by simp) (by simp) fun k w4 h hk => ?_
  have hkk : -1 ≤ k ∧ k ≤ 1000 := by simp only [List.mem_cons, List.not_mem_nil, or_false] at hk; omega
  refine go_wr (by omega) (by omega) ?_
  refine gs_node ?_
  exact gw hu3 h (EW.mk hop ⟨by omega, by omega⟩ (hf.mono hu3)) (by omega)
 ·refine gs_copyExprs hf h fun z w3 u3 J hu3 h hO => ?_
  refine gs_intW h (in64_in rfl) fun n1 n2 x4 w4 u4 hu4 hs4 h he => ?_
  obtain ⟨e', rfl, rfl, re, j1, j2⟩ := he
  refine gs_pushO h (hO.mono hu4) (by exact VsOf.cons (vow re j1 j2) VsOf.nil) ?_ (by decide) (by decide) fun x' w5 J5 h hO5 => ?_
  ·omega
  obtain ⟨u6, hu6, h, hJ⟩ := h.freeze
  refine gs_node ?_
  exact gw (hu3.trans (hu4.trans hu6)) h (EW.mk hop hnum (hO5.read1 hJ)) (by omega)
 ·refine gs_ints h (by (repeat' (first | exact VsOf.nil | apply VsOf.cons | (apply VOf.int; first | assumption | (constructor <;> first | omega | (simp only [List.length_set, List.length_append, List.length_replicate, List.length_cons, List.length_nil, List.length_take, List.length_drop, List.length_map, List.length_singleton] at *; omega))) | exact VOf.bool | exact VOf.str))) rfl (by decide) fun x3 w3 u3 hu3 hs3 h hx3 => ?_
  refine gs_one h hx3 (by omega) (by simp) (by simp) fun k w4 h hk => ?_
  have hkk : -1 ≤ k ∧ k ≤ 1000 := by simp only [List.mem_cons, List.not_mem_nil, or_false] at hk; omega
  refine gs_varW h ⟨by omega, by omega⟩ fun n1 n2 x4 w4 u4 hu4 hs4 h he => ?_
  exact gw (hu3.trans hu4) h he (by omega)
 ·refine gs_ints h (by (repeat' (first | exact VsOf.nil | apply VsOf.cons | (apply VOf.int; first | assumption | (constructor <;> first | omega | (simp only [List.length_set, List.length_append, List.length_replicate, List.length_cons, List.length_nil, List.length_take, List.length_drop, List.length_map, List.length_singleton] at *; omega))) | exact VOf.bool | exact VOf.str))) rfl (by decide) fun x3 w3 u3 hu3 hs3 h hx3 => ?_
  refine gs_one h hx3 (by omega) (by simp) (by simp) fun k w4 h hk => ?_
  have hkk : -1000 ≤ k ∧ k ≤ 1000 := by simp only [List.mem_cons, List.not_mem_nil, or_false] at hk; omega
  refine gs_intW h ⟨by omega, by omega⟩ fun n1 n2 x4 w4 u4 hu4 hs4 h he => ?_
  exact gw (hu3.trans hu4) h he (by omega)
/-- a program and the number of one of its functions -/
theorem c_someBody (hm : m + 2000000 ≤ 999900000) (h : GS u a R m w) :
  Trip Try.prog 10 #[.pointer (some (a.add 0))] w fun r w' => ∃ (x y : Sl) (k : Int), r = .tuple #[.agg #[x.val, y.val], .int .i64 k] ∧ ∃ u' ds fs J, Sub u u' ∧ GS u' a (J ++ R) (m + 1000001) w' ∧ Read u' x ds ∧ Own u' y fs J ∧ GD ds ∧ 1 ≤ fs.length ∧ fs.length ≤ 4 ∧ (∀ f ∈ fs, FOk ds fs.length f) ∧ 0 ≤ k ∧ k < fs.length := by
 refine of10 _ _ _ ?_
 unfold vc10
 refine (c_goodProgram (by omega) h).mono' ?_
 rintro _ w1 ⟨x, y, rfl, u1, ds, fs, J, hu1, h, hx, hO, hgd, hl1, hl4, hok⟩
 have hyn := hO.n
 refine ⟨_, _, rfl, ?_⟩
 refine gs_pick h (by omega) (by omega) (by omega) fun k w2 h k0 k1 _ => ?_
 exact ⟨x, y, k, rfl, u1, ds, fs, J, hu1, h.le (by omega), hx, hO, hgd, hl1, hl4, hok, k0, by omega⟩
end
end Go.Vc

namespace Go.Vc
open Go Go.Proofs Go.RowKit
set_option linter.all false
section
variable {u u' v w : World} {x y z s x1 : Sl} {a : Addr} {I J L R : Items} {m n n1 n2 op num : Int} {bs l : List UInt8} {ks : List ExprD} {e : ExprD} {ds : List DeclD} {fs : List FunD}
theorem gs_pushL {α : Type} [Dat α] {t bytes : Nat} {zc : List Value} [hT : SlT Try.prog t (Dat.sz α) bytes zc] {l news : List α} {c : Nat} {ps : Array (Nat × Value)} (h : GS u a (J ++ R) m w) (hO : Own u x l J) (hv : VsOf u (ps.toList.map (·.2)) news) (hi : ps.toList.map (·.1) = List.range c) (hsz : c * Dat.sz α ≤ 16777216) (hb : l.length + news.length ≤ 1000000) (hby : bytes ≤ 128) {K : Sl → World → Prop} (k : ∀ x' w' J', GS u a (J' ++ R) m w' → Own u x' (l ++ news) J' → K x' w') :
  StepT Try.prog (Instr.buildSlice t c ps) w fun r1 w1 => ∃ z : Sl, r1 = z.val ∧ StepT Try.prog (Builtin.append_ #[t, t] t #[(x.val), (z.val)]) w1 fun r2 w2 => ∃ x' : Sl, r2 = x'.val ∧ K x' w2 := by
 obtain ⟨I, h1, h2⟩ := h
 refine St.build (α := α) h2 hv hi hsz fun z w1 J1 hO1 hS hs => ⟨z, rfl, ?_⟩
 refine Own.append hO hS (Own.src hO1 hS) (by omega) hby fun x' w2 J2 hO2 hS2 => ⟨x', rfl, k x' w2 J2 ⟨I, h1, hS2.to⟩ hO2⟩
theorem gs_storeD {i : Int} {d : DeclD} (h : GS u a (J ++ R) m w) (hO : Own u x ds J) (h0 : 0 ≤ i) (h1 : i < ds.length) (i1 : InI d.frm) (i2 : InI d.to_) (hy : Read u y d.cons) {K : World → Prop} (k : ∀ w' J' (ds' : List DeclD), GS u a (J' ++ R) m w' → Own u x ds' J' → K w') :
  StoreAt w (elA x i 3) 0 [.int .i64 d.frm, .int .i64 d.to_, y.val] K := by
 obtain ⟨I, h2, hS⟩ := h
 refine hO.store hS h0 h1 d (Nat.le_of_ble_eq_true rfl) (fun r hr => ?_) fun w' J' hO' hS' => k w' J' _ ⟨I, h2, hS'.to⟩ hO'
 obtain ⟨f', rfl, _⟩ := hr
 exact ⟨y, rfl, i1, i2, hy⟩
theorem gs_storeF {i : Int} {d : FunD} (h : GS u a (J ++ R) m w) (hO : Own u x fs J) (h0 : 0 ≤ i) (h1 : i < fs.length) (i1 : InI d.result) (i2 : InI d.body.op) (i3 : InI d.body.num) (hy : Read u y d.params) (hz : Read u z d.body.kids) {K : World → Prop} (k : ∀ w' J' (fs' : List FunD), GS u a (J' ++ R) m w' → Own u x fs' J' → K w') :
  StoreAt w (elA x i 5) 0 [y.val, .int .i64 d.result, .int .i64 d.body.op, .int .i64 d.body.num, z.val] K := by
 obtain ⟨I, h2, hS⟩ := h
 refine hO.store hS h0 h1 d (Nat.le_of_ble_eq_true rfl) (fun r hr => ?_) fun w' J' hO' hS' => k w' J' _ ⟨I, h2, hS'.to⟩ hO'
 obtain ⟨f', k', rfl, _⟩ := hr
 exact ⟨y, z, rfl, i1, i2, i3, hy, hz⟩
/-- some declarations -/
def GDs (u : World) (a : Addr) (R : Items) (m : Int) (r : Value) (w : World) : Prop := ∃ z : Sl, r = z.val ∧ ∃ u' ds, Sub u u' ∧ GS u' a R m w ∧ Read u' z (ds : List DeclD)
theorem gds (hu : Sub u u') (h : GS u' a (J ++ R) m w) (hO : Own u' z ds J) (hm : m ≤ n) : GDs u a R n z.val w := by
 obtain ⟨u2, hu2, h2, hJ⟩ := h.freeze
 exact ⟨z, rfl, u2, ds, hu.trans hu2, h2.le hm, hO.read1 hJ⟩
theorem c_anyDecls (hm : m + 1000 ≤ 999900000) (h : GS u a R m w) : Trip Try.prog 37 #[.pointer (some (a.add 0))] w (GDs u a R (m + 100)) := by
 refine of37 _ _ _ ?_
 unfold vc37
 have I0 : InI 0 := in64_in rfl
 have I2 : InI 2 := in64_in rfl
 have I3 : InI 3 := in64_in rfl
 refine (c_goodDecls (by omega) h).mono' ?_
 rintro _ w1 ⟨x, rfl, u1, ds, J, hu1, h, hO, hgd⟩
 have hl := hgd.len
 have hn := hO.n
 refine ⟨x, rfl, ?_⟩
 refine gs_pick (n := x.n) h (by omega) (by omega) (by omega) fun k w2 h k0 k1 _ => ?_
 have hk : k < ds.length := by omega
 refine gs_pick h (by omega) (by omega) (by omega) fun j w3 h _ _ _ => ?_
 have ix : ∀ {u2 : World}, Own u2 x ds J → IxOk x k := fun hO => by
  obtain ⟨rows, q1, q2, _⟩ := hO
  cases q1 with
  | nil => have := q2.1; simp at this; omega
  | blk g o n' c cur e' _ hn' hc hm' hs' hr' => exact ⟨rfl, k0, by simp only [] at *; omega⟩
 refine ⟨fun hc => ?_, fun hc => ⟨fun hc => ?_, fun hc => ⟨fun hc => ?_, fun hc => ⟨fun hc => ?_, fun hc => ⟨fun hc => ?_, fun hc => ⟨fun hc => ?_, fun hc => gds hu1 h hO (by omega)⟩⟩⟩⟩⟩⟩
 ·refine gs_ints h (by (repeat' (first | exact VsOf.nil | apply VsOf.cons | (apply VOf.int; first | assumption | (constructor <;> first | omega | (simp only [List.length_set, List.length_append, List.length_replicate, List.length_cons, List.length_nil, List.length_take, List.length_drop, List.length_map, List.length_singleton] at *; omega))) | exact VOf.bool | exact VOf.str))) rfl (by decide) fun x4 w4 u4 hu4 hs4 h hx4 => ?_
  refine gs_one h hx4 (by omega) (by simp) (by simp) fun p w5 h hp => ?_
  refine gs_ints h (by (repeat' (first | exact VsOf.nil | apply VsOf.cons | (apply VOf.int; first | assumption | (constructor <;> first | omega | (simp only [List.length_set, List.length_append, List.length_replicate, List.length_cons, List.length_nil, List.length_take, List.length_drop, List.length_map, List.length_singleton] at *; omega))) | exact VOf.bool | exact VOf.str))) rfl (by decide) fun x6 w6 u6 hu6 hs6 h hx6 => ?_
  refine gs_one h hx6 (by omega) (by simp) (by simp) fun q w7 h hq => ?_
  refine ⟨ix hO, ?_⟩
  have hpI : InI p := by simp only [List.mem_cons, List.not_mem_nil, or_false] at hp; constructor <;> omega
  have hqI : InI q := by simp only [List.mem_cons, List.not_mem_nil, or_false] at hq; constructor <;> omega
  refine gs_storeD (d := ⟨p, q, []⟩) (y := ⟨none, 0, 0⟩) h ((hO.mono hu4).mono hu6) k0 hk hpI hqI ReadB.nil fun w8 J8 ds8 h hO8 => ?_
  exact gds (hu1.trans (hu4.trans hu6)) h hO8 (by omega)
 ·refine gs_ints h (by (repeat' (first | exact VsOf.nil | apply VsOf.cons | (apply VOf.int; first | assumption | (constructor <;> first | omega | (simp only [List.length_set, List.length_append, List.length_replicate, List.length_cons, List.length_nil, List.length_take, List.length_drop, List.length_map, List.length_singleton] at *; omega))) | exact VOf.bool | exact VOf.str))) rfl (by decide) fun x4 w4 u4 hu4 hs4 h hx4 => ?_
  refine gs_one h hx4 (by omega) (by simp) (by simp) fun p w5 h hp => ?_
  have hpI : InI p := by simp only [List.mem_cons, List.not_mem_nil, or_false] at hp; constructor <;> omega
  refine gs_ints h (by (repeat' (first | exact VsOf.nil | apply VsOf.cons | (apply VOf.int; first | assumption | (constructor <;> first | omega | (simp only [List.length_set, List.length_append, List.length_replicate, List.length_cons, List.length_nil, List.length_take, List.length_drop, List.length_map, List.length_singleton] at *; omega))) | exact VOf.bool | exact VOf.str))) rfl (by decide) fun a1 w6 u6 hu6 hs6 h ha1 => gs_con ?_
  refine gs_ints h (by (repeat' (first | exact VsOf.nil | apply VsOf.cons | (apply VOf.int; first | assumption | (constructor <;> first | omega | (simp only [List.length_set, List.length_append, List.length_replicate, List.length_cons, List.length_nil, List.length_take, List.length_drop, List.length_map, List.length_singleton] at *; omega))) | exact VOf.bool | exact VOf.str))) rfl (by decide) fun a2 w7 u7 hu7 hs7 h ha2 => gs_con ?_
  refine gs_ints (l := []) h VsOf.nil rfl (by decide) fun a3 w8 u8 hu8 hs8 h ha3 => gs_con ?_
  refine gs_bld (α := ConD) (l := [⟨[p]⟩, ⟨[0, 0, 0, 0]⟩, ⟨[]⟩]) h (by exact VsOf.cons (vofC (ha1.mono (hu7.trans hu8))) (VsOf.cons (vofC (ha2.mono hu8)) (VsOf.cons (vofC ha3) VsOf.nil))) rfl (by decide) fun b1 w9 u9 hu9 hs9 h hb1 => ?_
  refine ⟨ix hO, ?_⟩
  have hs := (hu4.trans hu6).trans ((hu7.trans hu8).trans hu9)
  refine gs_storeD (d := ⟨0, 0, _⟩) h (hO.mono hs) k0 hk I0 I0 hb1 fun w10 J10 ds10 h hO10 => ?_
  exact gds (hu1.trans hs) h hO10 (by omega)
 ·refine go_wr (by omega) (by omega) ?_
  refine gs_ints h (by (repeat' (first | exact VsOf.nil | apply VsOf.cons | (apply VOf.int; first | assumption | (constructor <;> first | omega | (simp only [List.length_set, List.length_append, List.length_replicate, List.length_cons, List.length_nil, List.length_take, List.length_drop, List.length_map, List.length_singleton] at *; omega))) | exact VOf.bool | exact VOf.str))) rfl (by decide) fun a1 w6 u6 hu6 hs6 h ha1 => gs_con ?_
  refine gs_bld (α := ConD) (l := [⟨_⟩]) h (by exact VsOf.cons (vofC ha1) VsOf.nil) rfl (by decide) fun b1 w9 u9 hu9 hs9 h hb1 => ?_
  refine ⟨ix hO, ?_⟩
  have hs := hu6.trans hu9
  refine gs_storeD (d := ⟨0, 0, _⟩) h (hO.mono hs) k0 hk I0 I0 hb1 fun w10 J10 ds10 h hO10 => ?_
  exact gds (hu1.trans hs) h hO10 (by omega)
 ·refine gs_ints h (by (repeat' (first | exact VsOf.nil | apply VsOf.cons | (apply VOf.int; first | assumption | (constructor <;> first | omega | (simp only [List.length_set, List.length_append, List.length_replicate, List.length_cons, List.length_nil, List.length_take, List.length_drop, List.length_map, List.length_singleton] at *; omega))) | exact VOf.bool | exact VOf.str))) rfl (by decide) fun x4 w4 u4 hu4 hs4 h hx4 => ?_
  refine gs_one h hx4 (by omega) (by simp) (by simp) fun p w5 h hp => ?_
  have hpI : InI p := by simp only [List.mem_cons, List.not_mem_nil, or_false] at hp; constructor <;> omega
  refine gs_pushL (α := DeclD) (news := [⟨2, p, []⟩]) h (hO.mono hu4) (by exact VsOf.cons (vofD0 I2 hpI) VsOf.nil) rfl (by decide) (by simp; omega) (by decide) fun x6 w6 J6 h hO6 => ?_
  exact gds (hu1.trans hu4) h hO6 (by omega)
 ·refine gs_pick h (by omega) (by omega) (by omega) fun p w4 h p0 p1 _ => ?_
  refine gs_ints (l := []) h VsOf.nil rfl (by decide) fun a1 w5 u5 hu5 hs5 h ha1 => gs_con ?_
  refine gs_ints h (by (repeat' (first | exact VsOf.nil | apply VsOf.cons | (apply VOf.int; first | assumption | (constructor <;> first | omega | (simp only [List.length_set, List.length_append, List.length_replicate, List.length_cons, List.length_nil, List.length_take, List.length_drop, List.length_map, List.length_singleton] at *; omega))) | exact VOf.bool | exact VOf.str))) rfl (by decide) fun a2 w6 u6 hu6 hs6 h ha2 => gs_con ?_
  refine gs_ints (l := []) h VsOf.nil rfl (by decide) fun a3 w7 u7 hu7 hs7 h ha3 => gs_con ?_
  refine gs_ints (l := []) h VsOf.nil rfl (by decide) fun a4 w8 u8 hu8 hs8 h ha4 => gs_con ?_
  refine gs_bld (α := ConD) (l := [⟨[]⟩, ⟨[2]⟩, ⟨[]⟩, ⟨[]⟩]) h (by exact VsOf.cons (vofC (ha1.mono ((hu6.trans hu7).trans hu8))) (VsOf.cons (vofC (ha2.mono (hu7.trans hu8))) (VsOf.cons (vofC (ha3.mono hu8)) (VsOf.cons (vofC ha4) VsOf.nil)))) rfl (by decide) fun b1 w9 u9 hu9 hs9 h hb1 => ?_
  have hbn : b1.n = 4 := hb1.n
  refine gs_pick h (by omega) (by omega) (by omega) fun q w10 h q0 q1 _ => ?_
  refine ⟨⟨q0, by omega⟩, ix hO, ?_⟩
  have hs := ((hu5.trans hu6).trans (hu7.trans hu8)).trans hu9
  have hcut : Read u9 (b1.cut q b1.n 1) _ := hb1.cut (lo := q) (hi := b1.n) q0 (by omega) (by rw [hbn]; exact Int.le_refl _)
  have hpI : InI p := ⟨by omega, by omega⟩
  refine gs_storeD (d := ⟨p, 0, _⟩) h (hO.mono hs) k0 hk hpI I0 hcut fun w11 J11 ds11 h hO11 => ?_
  exact gds (hu1.trans hs) h hO11 (by omega)
 ·refine gs_pushL (α := DeclD) (news := [⟨0, 0, []⟩, ⟨3, 0, []⟩]) h hO (by exact VsOf.cons (vofD0 I0 I0) (VsOf.cons (vofD0 I3 I0) VsOf.nil)) rfl (by decide) (by simp; omega) (by decide) fun x6 w6 J6 h hO6 => ?_
  exact gds hu1 h hO6 (by omega)
/-- some program -/
def GPs (u : World) (a : Addr) (R : Items) (m : Int) (r : Value) (w : World) : Prop := ∃ x y : Sl, r = .agg #[x.val, y.val] ∧ ∃ u' ds fs, Sub u u' ∧ GS u' a R m w ∧ Read u' x (ds : List DeclD) ∧ Read u' y (fs : List FunD)
theorem gps (hu : Sub u u') (h : GS u' a (J ++ R) m w) (hx : Read u' x ds) (hO : Own u' y fs J) (hm : m ≤ n) : GPs u a R n (.agg #[x.val, y.val]) w := by
 obtain ⟨u2, hu2, h2, hJ⟩ := h.freeze
 exact ⟨x, y, rfl, u2, ds, fs, hu.trans hu2, h2.le hm, hx.mono hu2, hO.read1 hJ⟩
theorem c_spoilProgram (hx : Read u x ds) (hO : Own u y fs J) (hl1 : 1 ≤ fs.length) (hl4 : fs.length ≤ 4) {nf : Int} (hok : ∀ f ∈ fs, FOk ds nf f) (hm : m + 100000 ≤ 999900000) (h : GS u a (J ++ R) m w) :
  Trip Try.prog 16 #[.pointer (some (a.add 0)), .agg #[x.val, y.val]] w (GPs u a R (m + 60000)) := by
 refine of16 _ _ _ _ _ ?_
 unfold vc16
 have hyn := hO.n
 refine gs_pick (n := y.n) h (by omega) (by omega) (by omega) fun k w1 h k0 k1 _ => ?_
 have hk : k < fs.length := by omega
 have hfk := hok _ (nth_mem k0 hk)
 have ix : IxOk y k := by
  obtain ⟨rows, q1, q2, _⟩ := hO
  cases q1 with
  | nil => have := q2.1; simp at this; omega
  | blk g o n' c cur e' _ hn' hc hm' hs' hr' => exact ⟨rfl, k0, by simp only [] at *; omega⟩
 obtain ⟨I1, hR1, hS1⟩ := h
 obtain ⟨f, g, e1, e2, e3, e4, e5, i1, i2, i3, r1, r2⟩ := (hO.src hS1).ofFunD k0 hk
 have h : GS u a (J ++ R) (m + 1) w1 := ⟨I1, hR1, hS1⟩
 clear hR1 hS1
 refine ⟨ix, f, _, _, _, g, ⟨e1, e2, e3, e4, e5⟩, ?_⟩
 have hpl := (sig_facts hfk.1).1
 simp only [] at hpl
 have hN := hfk.2.2
 refine gs_pick h (by omega) (by omega) (by omega) fun j w3 h _ _ _ => ?_
 refine ⟨fun hc => ?_, fun hc => ⟨fun hc => ?_, fun hc => ⟨fun hc => ?_, fun hc => ⟨fun hc => ?_, fun hc => ⟨fun hc => ?_, fun hc => gps (.refl _) h hx hO (by omega)⟩⟩⟩⟩⟩
 ·refine (c_bend _ u a (J ++ R) g _ w3 r2 hfk.2.1.1 (by omega) (by omega) h).mono' ?_
  rintro _ w4 ⟨n1, n2, s, rfl, u4, hu4, h, e, rfl, rfl, re, j1, j2⟩
  refine ⟨_, _, s, rfl, ix, ?_⟩
  refine gs_storeF (d := ⟨(nth fs k).params, (nth fs k).result, e⟩) h (hO.mono hu4) k0 hk i1 j1 j2 (r1.mono hu4) re fun w5 J5 fs5 h hO5 => ?_
  exact gps hu4 h (hx.mono hu4) hO5 (by omega)
 ·refine gs_ints h (by (repeat' (first | exact VsOf.nil | apply VsOf.cons | (apply VOf.int; first | assumption | (constructor <;> first | omega | (simp only [List.length_set, List.length_append, List.length_replicate, List.length_cons, List.length_nil, List.length_take, List.length_drop, List.length_map, List.length_singleton] at *; omega))) | exact VOf.bool | exact VOf.str))) rfl (by decide) fun x4 w4 u4 hu4 hs4 h hx4 => ?_
  refine gs_one h hx4 (by omega) (by simp) (by simp) fun p w5 h hp => ?_
  have hpI : InI p := by simp only [List.mem_cons, List.not_mem_nil, or_false] at hp; constructor <;> omega
  refine gs_ints h (by (repeat' (first | exact VsOf.nil | apply VsOf.cons | (apply VOf.int; first | assumption | (constructor <;> first | omega | (simp only [List.length_set, List.length_append, List.length_replicate, List.length_cons, List.length_nil, List.length_take, List.length_drop, List.length_map, List.length_singleton] at *; omega))) | exact VOf.bool | exact VOf.str))) rfl (by decide) fun x6 w6 u6 hu6 hs6 h hx6 => ?_
  refine gs_extend ((r1.mono hu4).mono hu6) hx6 (by simp; omega) h fun x7 w7 u7 hu7 hs7 h hx7 => ?_
  have hs := (hu4.trans hu6).trans hu7
  refine ⟨ix, ?_⟩
  refine gs_storeF (d := ⟨(nth fs k).params ++ [p], (nth fs k).result, (nth fs k).body⟩) h (hO.mono hs) k0 hk i1 i2 i3 hx7 (r2.mono hs) fun w8 J8 fs8 h hO8 => ?_
  exact gps hs h (hx.mono hs) hO8 (by omega)
 ·refine gs_ints h (by (repeat' (first | exact VsOf.nil | apply VsOf.cons | (apply VOf.int; first | assumption | (constructor <;> first | omega | (simp only [List.length_set, List.length_append, List.length_replicate, List.length_cons, List.length_nil, List.length_take, List.length_drop, List.length_map, List.length_singleton] at *; omega))) | exact VOf.bool | exact VOf.str))) rfl (by decide) fun x4 w4 u4 hu4 hs4 h hx4 => ?_
  refine gs_one h hx4 (by omega) (by simp) (by simp) fun p w5 h hp => ?_
  have hpI : InI p := by simp only [List.mem_cons, List.not_mem_nil, or_false] at hp; constructor <;> omega
  refine ⟨ix, ?_⟩
  refine gs_storeF (d := ⟨(nth fs k).params, p, (nth fs k).body⟩) h (hO.mono hu4) k0 hk hpI i2 i3 (r1.mono hu4) (r2.mono hu4) fun w8 J8 fs8 h hO8 => ?_
  exact gps hu4 h (hx.mono hu4) hO8 (by omega)
 ·refine (c_anyDecls (by omega) h).mono' ?_
  rintro _ w4 ⟨z, rfl, u4, ds4, hu4, h, hz⟩
  exact ⟨z, rfl, gps hu4 h hz (hO.mono hu4) (by omega)⟩
 ·refine gs_pushO h hO (by exact VsOf.cons (vofN i1 i2 i3 r1 r2) VsOf.nil) (by omega) (by decide) (by decide) fun x6 w6 J6 h hO6 => ?_
  exact gps (.refl _) h hx hO6 (by omega)
end
end Go.Vc
