/- Part of the proofs about the heaps and memories: a law is joined in the text whose name ends in W and the law. -/
import Derived.Test.YtlcegaeioheikaaEP2
import Derived.Test.YtlcegaeioheikaaEG6
namespace Go.Vc
open Go Go.Proofs Go.RowKit
set_option linter.all false
/-- walking through an expression: whether all variables are in a range -/
def WkP (e : ExprD) : Prop := ∀ (u w : World) (f : Sl) (q : Bool) (a : Addr) (I R : Items), Read u f e.kids → Cel a [.bool q] I → St u w (I ++ R) →
 Trip Try.prog 27 #[.agg #[.int .i64 e.op, .int .i64 e.num, f.val], .func (.func 28) #[] #[.pointer (some (a.add 0))]] w fun r w' => r = .tuple #[] ∧ ∃ I', Cel a [.bool (q && vfE e)] I' ∧ St u w' (I' ++ R)
/-- an expression with a variable before all others -/
def ShP (e : ExprD) : Prop := ∀ (u w : World) (f : Sl) (R : Items), Read u f e.kids → InI e.op → InI e.num → vfE e = true → St u w R →
 Trip Try.prog 29 #[.agg #[.int .i64 e.op, .int .i64 e.num, f.val], .int .i64 0, .int .i64 1] w fun r w' => ∃ y : Sl, r = .agg #[.int .i64 (shE 0 1 e).op, .int .i64 (shE 0 1 e).num, y.val] ∧ ∃ u', Sub u u' ∧ St u' w' R ∧ Read u' y (shE 0 1 e).kids
section
variable {u u' u0 v w : World} {x y z s f : Sl} {ds : List DeclD} {fs : List FunD} {a : Addr} {I J L R : Items} {m n n1 n2 op num : Int} {vars : List Int} {ks : List ExprD} {e : ExprD} {q : Bool} {bs : List UInt8}
theorem vf_in (h1 : InI e.num) (h : vfE e = true) (h2 : InI e.op) : InI (shE 0 1 e).op ∧ InI (shE 0 1 e).num := by
 rw [shE_eq]
 refine ⟨h2, ?_⟩
 show InI (if e.op = 12 ∧ 0 ≤ e.num then e.num + 1 else e.num)
 rw [vfE_eq] at h
 simp only [Bool.and_eq_true, Bool.or_eq_true, Bool.not_eq_true', decide_eq_true_eq, decide_eq_false_iff_not] at h
 split
 ·rename_i hh
  have := h.1.resolve_left (fun q => q hh.1)
  exact ⟨by omega, by omega⟩
 ·exact h1
theorem vf_kid {k : ExprD} (h : vfE e = true) (hk : k ∈ e.kids) : vfE k = true := by
 have : ∀ l : List ExprD, vfL l = true → ∀ k ∈ l, vfE k = true := by
  intro l
  induction l with
  | nil => intro _ k hk; cases hk
  | cons a r ih =>
   intro h k hk
   rw [vfL_cons, Bool.and_eq_true] at h
   rcases List.mem_cons.1 hk with rfl | hk
   ·exact h.1
   ·exact ih h.2 k hk
 rw [vfE_eq, Bool.and_eq_true] at h
 exact this _ h.2 k hk
theorem vfL_drop {i : Int} (h0 : 0 ≤ i) (h1 : i < ks.length) : vfL (ks.drop i.toNat) = (vfE (nth ks i) && vfL (ks.drop (i + 1).toNat)) := by
 have hi : i.toNat < ks.length := by omega
 rw [List.drop_eq_getElem_cons hi, vfL_cons, show (i + 1).toNat = i.toNat + 1 by omega, nth_of (List.getElem?_eq_getElem hi)]
theorem c_shift1 (hC : Cel a [.bool q] I) (hS : St u w (I ++ R)) : Trip Try.prog 28 #[.agg #[.int .i64 op, .int .i64 num, x.val], .pointer (some (a.add 0))] w fun r w' => r = .tuple #[] ∧ ∃ I', Cel a [.bool (q && ((!decide (op = 12)) || (decide (num ≥ 0) && decide (num ≤ 99))))] I' ∧ St u w' (I' ++ R) := by
 refine of28 _ _ _ _ _ _ ?_
 unfold vc28
 refine ⟨_, hC.load hS rfl, ?_⟩
 refine hC.store hS (by simp) ?_
 intro w1 I1 hC hS
 simp [putR] at hC
 exact ⟨rfl, I1, by simpa using hC, hS⟩
theorem c_walk (e : ExprD) : WkP e := by
 refine ex_ind (P := WkP) (fun e ih => ?_) e
 intro u w f q a I R hf hC hS
 refine of27 _ _ _ _ _ _ _ ?_
 unfold vc27
 have hfn := hf.n
 have hfl := hf.le
 refine (c_shift1 hC hS).mono' ?_
 rintro _ w1 ⟨rfl, I1, hC, hS⟩
 refine ⟨rfl, ?_⟩
 refine ⟨fun i w => ∃ (I : Items) (p : Bool), Cel a [.bool p] I ∧ St u w (I ++ R) ∧ 0 ≤ i ∧ i ≤ e.kids.length ∧ (p && vfL (e.kids.drop i.toNat)) = (q && vfE e), fun i _ => (e.kids.length - i).toNat, ⟨I1, _, hC, hS, by omega, by omega, ?_⟩, ?_⟩
 ·rw [vfE_eq e]
  simp [Bool.and_assoc]
 clear hC hS
 rintro i w ⟨I, p, hC, hS, i0, i1, hm⟩
 dsimp only
 refine ⟨fun hc => ?_, fun hc => ?_⟩
 ·simp only [bls] at hc
  have hil : i < e.kids.length := by omega
  have hmem := nth_mem (l := e.kids) i0 hil
  rw [vfL_drop i0 hil] at hm
  obtain ⟨g, e1, e2, e3, j1, j2, rg⟩ := (hf.src hS.sub).ofExprD i0 hil
  refine go_ix hf i0 hil ?_
  refine ⟨_, _, g, ⟨e1, e2, e3⟩, ?_⟩
  refine (ih _ hmem _ _ _ _ _ _ _ rg hC hS).mono' ?_
  rintro _ w3 ⟨rfl, I3, hC3, hS3⟩
  refine ⟨rfl, ?_⟩
  refine go_wr (by omega) (by omega) ?_
  exact ⟨rfl, rfl, rfl, ⟨I3, _, hC3, hS3, by omega, by omega, by rw [← hm, Bool.and_assoc]⟩, by omega⟩
 ·simp only [bls] at hc
  rw [List.drop_eq_nil_of_le (by omega), vfL_nil, Bool.and_true] at hm
  subst hm
  exact ⟨rfl, I, hC, hS⟩
theorem c_shifted (e : ExprD) : ShP e := by
 refine ex_ind (P := ShP) (fun e ih => ?_) e
 intro u w f R hf h1 h2 hv hS
 refine of29 _ _ _ _ _ _ _ ?_
 unfold vc29
 have hfn := hf.n
 have hfl := hf.le
 have hin := vf_in h2 hv h1
 refine ⟨fun hb => ?_, fun hb => ?_⟩
 ·simp only [bls] at hb
  have hnum : e.num ≤ 99 := by
   rw [vfE_eq] at hv
   simp only [Bool.and_eq_true, Bool.or_eq_true, Bool.not_eq_true', decide_eq_true_eq, decide_eq_false_iff_not] at hv
   exact (hv.1.resolve_left (fun q => q hb.1)).2
  refine go_wr (by omega) (by omega) ?_
  refine ⟨fun i x w => ∃ (u1 : World) (J : Items), Sub u u1 ∧ St u1 w (J ++ R) ∧ Own u1 x ((e.kids.take i.toNat).map (shE 0 1)) J ∧ 0 ≤ i ∧ i ≤ e.kids.length, fun i _ _ => (e.kids.length - i).toNat, ⟨u, [], .refl u, hS, by simpa using Own.nil u, by omega, by omega⟩, ?_⟩
  rintro i x w ⟨u1, J, hu1, hS, hO, i0, i1⟩
  dsimp only
  refine ⟨fun hc => ?_, fun hc => ?_⟩
  ·simp only [bls] at hc
   have hil : i < e.kids.length := by omega
   have hmem := nth_mem (l := e.kids) i0 hil
   obtain ⟨g, e1, e2, e3, j1, j2, rg⟩ := ((hf.mono hu1).src hS.sub).ofExprD i0 hil
   refine go_ix hf i0 hil ?_
   refine ⟨_, _, g, ⟨e1, e2, e3⟩, ?_⟩
   refine (ih _ hmem _ _ _ (J ++ R) rg j1 j2 (vf_kid hv hmem) hS).mono' ?_
   rintro _ w2 ⟨y, rfl, u2, hu2, hS, hy⟩
   have hki := vf_in j2 (vf_kid hv hmem) j1
   refine ⟨_, _, y, rfl, ?_⟩
   refine St.build (α := ExprD) (l := [shE 0 1 (nth e.kids i)]) hS (by exact VsOf.cons (vow hy hki.1 hki.2) VsOf.nil) rfl (by decide) fun z w3 J3 hO3 hS hs => ⟨z, rfl, ?_⟩
   refine Own.append (hO.mono hu2) hS (Own.src hO3 hS) ?_ (by decide) fun x' w4 J4 hO4 hS4 => ⟨x', rfl, ?_⟩
   ·simp; omega
   refine go_wr (by omega) (by omega) ?_
   refine ⟨rfl, rfl, rfl, rfl, rfl, ⟨u2, J4, hu1.trans hu2, hS4.to, ?_, by omega, by omega⟩, by omega⟩
   rw [take_nth i0 hil, List.map_append]
   exact hO4
  ·simp only [bls] at hc
   obtain ⟨u2, hu2, hS2, hJ⟩ := hS.freeze J
   have hr := hO.read1 hJ
   rw [List.take_of_length_le (by omega)] at hr
   rw [shE_eq]
   rw [if_pos ⟨hb.1, by omega⟩]
   exact ⟨x, rfl, u2, hu1.trans hu2, hS2, hr⟩
 ·have hb : ¬ (e.op = 12 ∧ 0 ≤ e.num) := fun hh => by simp [hh.1, hh.2] at hb
  refine ⟨fun i x w => ∃ (u1 : World) (J : Items), Sub u u1 ∧ St u1 w (J ++ R) ∧ Own u1 x ((e.kids.take i.toNat).map (shE 0 1)) J ∧ 0 ≤ i ∧ i ≤ e.kids.length, fun i _ _ => (e.kids.length - i).toNat, ⟨u, [], .refl u, hS, by simpa using Own.nil u, by omega, by omega⟩, ?_⟩
  rintro i x w ⟨u1, J, hu1, hS, hO, i0, i1⟩
  dsimp only
  refine ⟨fun hc => ?_, fun hc => ?_⟩
  ·simp only [bls] at hc
   have hil : i < e.kids.length := by omega
   have hmem := nth_mem (l := e.kids) i0 hil
   obtain ⟨g, e1, e2, e3, j1, j2, rg⟩ := ((hf.mono hu1).src hS.sub).ofExprD i0 hil
   refine go_ix hf i0 hil ?_
   refine ⟨_, _, g, ⟨e1, e2, e3⟩, ?_⟩
   refine (ih _ hmem _ _ _ (J ++ R) rg j1 j2 (vf_kid hv hmem) hS).mono' ?_
   rintro _ w2 ⟨y, rfl, u2, hu2, hS, hy⟩
   have hki := vf_in j2 (vf_kid hv hmem) j1
   refine ⟨_, _, y, rfl, ?_⟩
   refine St.build (α := ExprD) (l := [shE 0 1 (nth e.kids i)]) hS (by exact VsOf.cons (vow hy hki.1 hki.2) VsOf.nil) rfl (by decide) fun z w3 J3 hO3 hS hs => ⟨z, rfl, ?_⟩
   refine Own.append (hO.mono hu2) hS (Own.src hO3 hS) ?_ (by decide) fun x' w4 J4 hO4 hS4 => ⟨x', rfl, ?_⟩
   ·simp; omega
   refine go_wr (by omega) (by omega) ?_
   refine ⟨rfl, rfl, rfl, rfl, rfl, ⟨u2, J4, hu1.trans hu2, hS4.to, ?_, by omega, by omega⟩, by omega⟩
   rw [take_nth i0 hil, List.map_append]
   exact hO4
  ·simp only [bls] at hc
   obtain ⟨u2, hu2, hS2, hJ⟩ := hS.freeze J
   have hr := hO.read1 hJ
   rw [List.take_of_length_le (by omega)] at hr
   rw [shE_eq]
   rw [if_neg hb]
   exact ⟨x, rfl, u2, hu1.trans hu2, hS2, hr⟩
end
end Go.Vc

namespace Go.Vc
open Go Go.Proofs Go.RowKit
set_option linter.all false
/-- what is drawn for types: a program, types of variables and an expression -/
def DTf (v : World) (x y z : Sl) (n1 n2 : Int) (s : Sl) (w : World) : Prop := ∃ (u' : World) (ds : List DeclD) (fs : List FunD) (vars : List Int), Sub v u' ∧ Sub u' w ∧ Read u' x ds ∧ Read u' y fs ∧ Read u' z vars ∧ vars.length ≤ 4 ∧ EW u' n1 n2 s
def DTQ (v : World) (r : Value) (w : World) : Prop := ∃ (x y z : Sl) (n1 n2 : Int) (s : Sl), r = .tuple #[.agg #[x.val, y.val], z.val, .agg #[.int .i64 n1, .int .i64 n2, s.val]] ∧ DTf v x y z n1 n2 s w
/-- an expression that may be bent -/
def EVc (u : World) (n1 n2 : Int) (x : Sl) : Prop := ∃ e : ExprD, n1 = e.op ∧ n2 = e.num ∧ Read u x e.kids ∧ canE e = true ∧ nodesE e ≤ 5000
/-- what lies there while the arguments are drawn -/
structure DSt (v u w : World) (a : Addr) (x y z : Sl) (m : Int) : Prop where
 ex : ∃ (ds : List DeclD) (fs : List FunD) (vars : List Int) (J K : Items), Sub v u ∧ GS u a (K ++ (J ++ [])) m w ∧ Read u x ds ∧ Own u y fs J ∧ Own u z vars K ∧ vars.length ≤ 4 ∧ 1 ≤ fs.length ∧ fs.length ≤ 4 ∧ ∀ f ∈ fs, FOk ds fs.length f
section
variable {u u' u0 v w : World} {x y z s f : Sl} {ds : List DeclD} {fs : List FunD} {a : Addr} {I J K L R : Items} {m m' n n1 n2 op num : Int} {vars l k : List Int} {ks : List ExprD} {e : ExprD} {q : Bool} {bs : List UInt8}
theorem GS.start {code : List UInt8} {K : Addr → World → Prop} (hx : Read v x code) (k : ∀ a w', GS v a [] 0 w' → K a w') : Trip Try.prog 9 #[x.val] v fun r w' => ∃ a : Addr, r = .pointer (some (a.add 0)) ∧ K a w' := by
 refine Mk.use (c_newReader hx) (.refl v) ?_
 rintro _ w1 J1 ⟨a, rfl, hR⟩ hS _
 exact ⟨a, rfl, k a w1 ⟨J1, hR, hS⟩⟩
theorem EVc.mono (h : EVc u n1 n2 x) (hs : Sub u u') : EVc u' n1 n2 x := let ⟨e, h1, h2, h3, h4⟩ := h; ⟨e, h1, h2, h3.mono hs, h4⟩
theorem EVc.toW (h : EVc u n1 n2 x) : EW u n1 n2 x := let ⟨e, h1, h2, h3, h4, _⟩ := h; ⟨e, h1, h2, h3, (can_in h4).1, (can_in h4).2⟩
theorem GS.swap (h : GS u a (K ++ (J ++ R)) m w) : GS u a (J ++ (K ++ R)) m w := let ⟨I, h1, h2⟩ := h; ⟨I, h1, h2.to⟩
theorem DSt.gs (h : DSt v u w a x y z m) : Sub u w := let ⟨_, _, _, _, _, _, h1, _⟩ := h; h1.sub
theorem dt_spoil (h : DSt v u w a x y z m) (hm : m + 100000 ≤ 999900000) (he : EW u n1 n2 s) {K : Sl → Sl → World → Prop} (k : ∀ x' y' w', DTf v x' y' z n1 n2 s w' → K x' y' w') :
  Trip Try.prog 16 #[.pointer (some (a.add 0)), .agg #[x.val, y.val]] w fun r w' => ∃ x' y' : Sl, r = .agg #[x'.val, y'.val] ∧ K x' y' w' := by
 obtain ⟨ds, fs, vars, J, L, hv, h, hx, hO, hz, hl, h1, h4, hok⟩ := h
 refine (c_spoilProgram hx hO h1 h4 hok hm h.swap).mono' ?_
 rintro _ w1 ⟨x', y', rfl, u1, ds1, fs1, hu1, h, hx1, hy1⟩
 obtain ⟨u2, hu2, h, hJ⟩ := h.freeze
 exact ⟨x', y', rfl, k x' y' w1 ⟨u2, ds1, fs1, vars, hv.trans (hu1.trans hu2), h.sub, hx1.mono hu2, hy1.mono hu2, (hz.mono hu1).read1 hJ, hl, (he.mono hu1).mono hu2⟩⟩
theorem dt_bend (h : DSt v u w a x y z m) (hm : m + 200000 ≤ 999900000) (he : EVc u n1 n2 s) :
  Trip Try.prog 12 #[.pointer (some (a.add 0)), .int .i64 6] w fun r45 w46 =>
   ∃ n47 : Int, r45 = .int .i64 n47 ∧
   ((decide (n47 = 0)) = true →
    Trip Try.prog 15 #[.pointer (some (a.add 0)), .agg #[.int .i64 n1, .int .i64 n2, s.val]] w46 fun r48 w49 =>
     ∃ n50 : Int, ∃ n51 : Int, ∃ x52 : Sl, r48 = .agg #[.int .i64 n50, .int .i64 n51, x52.val] ∧
     (Trip Try.prog 16 #[.pointer (some (a.add 0)), .agg #[x.val, y.val]] w49 fun r53 w54 =>
       ∃ x55 : Sl, ∃ x56 : Sl, r53 = .agg #[x55.val, x56.val] ∧
       DTQ v (.tuple #[.agg #[x55.val, x56.val], z.val, .agg #[.int .i64 n50, .int .i64 n51, x52.val]]) w54 ∧
       DTQ v (.tuple #[.agg #[x55.val, x56.val], z.val, .agg #[.int .i64 n50, .int .i64 n51, x52.val]]) w54) ∧
     Trip Try.prog 16 #[.pointer (some (a.add 0)), .agg #[x.val, y.val]] w49 fun r57 w58 =>
      ∃ x59 : Sl, ∃ x60 : Sl, r57 = .agg #[x59.val, x60.val] ∧
      DTQ v (.tuple #[.agg #[x59.val, x60.val], z.val, .agg #[.int .i64 n50, .int .i64 n51, x52.val]]) w58) ∧
   ((decide (n47 = 0)) = false →
    (Trip Try.prog 16 #[.pointer (some (a.add 0)), .agg #[x.val, y.val]] w46 fun r61 w62 =>
      ∃ x63 : Sl, ∃ x64 : Sl, r61 = .agg #[x63.val, x64.val] ∧
      DTQ v (.tuple #[.agg #[x63.val, x64.val], z.val, .agg #[.int .i64 n1, .int .i64 n2, s.val]]) w62 ∧
      DTQ v (.tuple #[.agg #[x63.val, x64.val], z.val, .agg #[.int .i64 n1, .int .i64 n2, s.val]]) w62) ∧
    Trip Try.prog 16 #[.pointer (some (a.add 0)), .agg #[x.val, y.val]] w46 fun r65 w66 =>
     ∃ x67 : Sl, ∃ x68 : Sl, r65 = .agg #[x67.val, x68.val] ∧
     DTQ v (.tuple #[.agg #[x67.val, x68.val], z.val, .agg #[.int .i64 n1, .int .i64 n2, s.val]]) w66) := by
 obtain ⟨ds, fs, vars, J, L, hv, h, hx, hO, hz, hl, h1, h4, hok⟩ := h
 have fin : ∀ {x' y' : Sl} {k1 k2 : Int} {s' : Sl} {w' : World}, DTf v x' y' z k1 k2 s' w' → DTQ v (.tuple #[.agg #[x'.val, y'.val], z.val, .agg #[.int .i64 k1, .int .i64 k2, s'.val]]) w' := fun hd => ⟨_, _, _, _, _, _, rfl, hd⟩
 refine gs_pick h (by omega) (by omega) (by omega) fun k w1 h k0 k1 _ => ⟨fun hc => ?_, fun hc => ?_⟩
 ·obtain ⟨e, rfl, rfl, hr, hce, hne⟩ := he
  refine (c_bend e u a _ s (m + 1) w1 hr hce (by omega) (by omega) h).mono' ?_
  rintro _ w2 ⟨k1, k2, s', rfl, u2, hu2, h, he2⟩
  have hD : DSt v u2 w2 a x y z (m + 1 + 10 * nodesE e) := ⟨ds, fs, vars, J, L, hv.trans hu2, h, hx.mono hu2, hO.mono hu2, hz.mono hu2, hl, h1, h4, hok⟩
  exact ⟨_, _, _, rfl, dt_spoil hD (by omega) he2 fun x' y' w' hd => ⟨fin hd, fin hd⟩, dt_spoil hD (by omega) he2 fun x' y' w' hd => fin hd⟩
 ·have hD : DSt v u w1 a x y z (m + 1) := ⟨ds, fs, vars, J, L, hv, h, hx, hO, hz, hl, h1, h4, hok⟩
  exact ⟨dt_spoil hD (by omega) he.toW fun x' y' w' hd => ⟨fin hd, fin hd⟩, dt_spoil hD (by omega) he.toW fun x' y' w' hd => fin hd⟩
set_option maxRecDepth 20000 in
theorem c_DrawTypeOf (hx : Read v x bs) : Trip Try.prog 4 #[x.val] v (DTQ v) := by
 refine of4 _ _ _ ?_
 unfold vc4
 refine GS.start hx fun a w1 h => ?_
 refine (c_someBody (by omega) h).mono' ?_
 rintro _ w2 ⟨x, y, k, rfl, u1, ds, fs, J, hu1, h, hx, hO, hgd, hl1, hl4, hok, k0, k1⟩
 refine ⟨x, y, k, rfl, ?_⟩
 have hyn := hO.n
 have ix : IxOk y k := by
  obtain ⟨rows, q1, q2, _⟩ := hO
  cases q1 with
  | nil => have := q2.1; simp at this; omega
  | blk g o n' c cur e' _ hn' hc hm' hs' hr' => exact ⟨rfl, k0, by simp only [] at *; omega⟩
 have hsrc : ∀ {w : World} {R : Items} {m : Int}, GS u1 a (J ++ R) m w → Src u1 w y fs := fun h => by
  obtain ⟨I, _, hS⟩ := h
  exact hO.src hS
 obtain ⟨g, g2, e1, e2, e3, e4, e5, i1, i2, i3, r1, r2⟩ := (hsrc h).ofFunD k0 k1
 have hfk := hok _ (nth_mem k0 k1)
 have hpl : (nth fs k).params.length ≤ 3 := (sig_facts hfk.1).1
 refine ⟨ix, g, e1, ?_⟩
 obtain ⟨I, hR, hS⟩ := h
 refine Mk.use (c_copyInts r1) hS ?_
 rintro _ w3 K3 ⟨z, rfl, hz⟩ hS hs3
 have h : GS u1 a (K3 ++ (J ++ [])) (0 + 1000001) w3 := ⟨I, hR, hS.to⟩
 obtain ⟨f1, f2, _, _, a3, a4, a5, _, _, _, _, r2⟩ := (hsrc h.swap).ofFunD k0 k1
 refine ⟨z, rfl, ix, _, _, f2, ⟨a3, a4, a5⟩, ?_⟩
 have he0 : EVc u1 (nth fs k).body.op (nth fs k).body.num f2 := ⟨_, rfl, rfl, r2, hfk.2.1.1, hfk.2.2⟩
 have stage : ∀ {u2 w : World} {n1 n2 : Int} {s : Sl}, Sub u1 u2 → GS u2 a (K3 ++ (J ++ [])) 2000000 w → EVc u2 n1 n2 s → DSt v u2 w a x y z 2000000 := fun hu2 h he => ⟨ds, fs, _, J, K3, hu1.trans hu2, h, hx.mono hu2, hO.mono hu2, (hz.mono hu2), by omega, hl1, hl4, hok⟩
 refine gs_pick h (by omega) (by omega) (by omega) fun p w4 h p0 p1 _ => ⟨fun hc => ?_, fun hc => ?_⟩
 ·refine gs_ints h (by (repeat' (first | exact VsOf.nil | apply VsOf.cons | (apply VOf.int; first | assumption | (constructor <;> first | omega | (simp only [List.length_set, List.length_append, List.length_replicate, List.length_cons, List.length_nil, List.length_take, List.length_drop, List.length_map, List.length_singleton] at *; omega))) | exact VOf.bool | exact VOf.str))) rfl (by decide) fun x5 w5 u5 hu5 hs5 h hx5 => ?_
  refine gs_one h hx5 (by omega) (by simp) (by simp) fun t w6 h ht => ?_
  have htt : 0 ≤ t ∧ t ≤ 4 := by simp only [List.mem_cons, List.not_mem_nil, or_false] at ht; omega
  have hp : PrgG u5 (K3 ++ (J ++ [])) x y ds fs := ⟨hgd, ⟨hl1, hl4, fun f hf => (hok f hf).1⟩, hx.mono hu5, fun u9 w9 I9 hu9 hS9 => ((hO.mono hu5).mono hu9).src hS9⟩
  have hzV : VrG u5 (K3 ++ (J ++ [])) z (nth fs k).params := fun u9 w9 I9 hu9 hS9 => ((hz.mono hu5).mono hu9).src hS9
  refine use_x (c_fitting hp hzV (by omega) htt.1 htt.2 (by omega) (by omega) (by omega) h) fun n1 n2 s w7 u7 hu7 h he => ?_
  have he : EVc u7 n1 n2 s := let ⟨e, q1, q2, q3, q4, q5⟩ := he; ⟨e, q1, q2, q3, q4.1, by omega⟩
  refine gs_pick h (by omega) (by omega) (by omega) fun p w8 h p0 p1 _ => ⟨fun hc => ?_, fun hc => ?_⟩
  ·refine gs_ints h (by (repeat' (first | exact VsOf.nil | apply VsOf.cons | (apply VOf.int; first | assumption | (constructor <;> first | omega | (simp only [List.length_set, List.length_append, List.length_replicate, List.length_cons, List.length_nil, List.length_take, List.length_drop, List.length_map, List.length_singleton] at *; omega))) | exact VOf.bool | exact VOf.str))) rfl (by decide) fun x9 w9 u9 hu9 hs9 h hx9 => ?_
   refine gs_one h hx9 (by omega) (by simp) (by simp) fun t w10 h ht => ?_
   have htI : InI t := by simp only [List.mem_cons, List.not_mem_nil, or_false] at ht; constructor <;> omega
   refine gs_pushL (α := Int) (news := [t]) h (((hz.mono hu5).mono hu7).mono hu9) (by exact VsOf.cons (VOf.int htI) VsOf.nil) rfl (by decide) (by simp; omega) (by decide) fun z' w11 K' h hz' => ?_
   exact dt_bend (m := 2000000) ⟨ds, fs, _, J, K', ((hu1.trans hu5).trans hu7).trans hu9, h.le (by omega), ((hx.mono hu5).mono hu7).mono hu9, ((hO.mono hu5).mono hu7).mono hu9, hz', by simp; omega, hl1, hl4, hok⟩ (by omega) (he.mono hu9)
  ·exact dt_bend (stage (hu5.trans hu7) (h.le (by omega)) he) (by omega) he
 ·refine gs_pick h (by omega) (by omega) (by omega) fun p w8 h p0 p1 _ => ⟨fun hc => ?_, fun hc => ?_⟩
  ·refine gs_ints h (by (repeat' (first | exact VsOf.nil | apply VsOf.cons | (apply VOf.int; first | assumption | (constructor <;> first | omega | (simp only [List.length_set, List.length_append, List.length_replicate, List.length_cons, List.length_nil, List.length_take, List.length_drop, List.length_map, List.length_singleton] at *; omega))) | exact VOf.bool | exact VOf.str))) rfl (by decide) fun x9 w9 u9 hu9 hs9 h hx9 => ?_
   refine gs_one h hx9 (by omega) (by simp) (by simp) fun t w10 h ht => ?_
   have htI : InI t := by simp only [List.mem_cons, List.not_mem_nil, or_false] at ht; constructor <;> omega
   refine gs_pushL (α := Int) (news := [t]) h (hz.mono hu9) (by exact VsOf.cons (VOf.int htI) VsOf.nil) rfl (by decide) (by simp; omega) (by decide) fun z' w11 K' h hz' => ?_
   exact dt_bend (m := 2000000) ⟨ds, fs, _, J, K', hu1.trans hu9, h.le (by omega), hx.mono hu9, hO.mono hu9, hz', by simp; omega, hl1, hl4, hok⟩ (by omega) (he0.mono hu9)
  ·exact dt_bend (stage (.refl u1) (h.le (by omega)) he0) (by omega) he0
end
end Go.Vc

namespace Go.Vc
open Go Go.Proofs Go.RowKit
set_option linter.all false
section
variable {u u' u0 v w : World} {x y z s f : Sl} {ds : List DeclD} {fs : List FunD} {a : Addr} {I J K L R : Items} {m m' n n1 n2 op num : Int} {vars l k : List Int} {ks : List ExprD} {e : ExprD} {q : Bool} {bs : List UInt8}
open Classical in
theorem c_TypeOfS (hx : Read v x ds) (hy : Read v y fs) (hz : Read v z vars) (hb : vars.length ≤ 1000) (hf : Read v f e.kids) (hi : InI e.num) :
  Fn Try.prog 6 #[.agg #[x.val, y.val], z.val, .agg #[.int .i64 e.op, .int .i64 e.num, f.val]] v (.int .i64 (if sigSigs ds (fs.map sgE) ∧ nodesE e ≤ 30 ∧ vars.all (typeB ds.length) = true then gD (tyX ds (fs.map sgE) e vars) else -1)) := by
 refine of6 _ _ _ _ _ _ _ _ ?_
 unfold vc6
 have hxn := hx.n
 have hxl := hx.le
 refine ⟨_, c_specValidSigsF hx hy, _, fun _ => c_spNodesOf hf, _, fun _ => c_allTypes hxn hxl hz, fun hq => ⟨?_, .refl v⟩, fun hq => ?_⟩
 ·rw [if_neg]
  rintro ⟨h1, h2, h3⟩
  rw [pB_t h1, if_pos h2, h3] at hq
  simp at hq
  omega
 ·simp only [Bool.or_eq_false_iff, Bool.not_eq_false', decide_eq_false_iff_not] at hq
  obtain ⟨⟨h1, h2⟩, h3⟩ := hq
  have hsg := pB_iff.1 h1
  have hnd : nodesE e ≤ 30 := Classical.byContradiction fun hh => by rw [if_neg hh] at h2; omega
  rw [if_pos ⟨hsg, hnd, h3⟩]
  exact ⟨_, c_typeOfE e v x y z f vars ⟨hx, hy, hsg⟩ hz (all_nn hsg.1.1 h3) hf hi (by omega), rfl, .refl v⟩
theorem c_Shift (hf : Read v f e.kids) (i1 : InI e.op) (i2 : InI e.num) (hn : nodesE e ≤ 30) (hv : vfE e = true) : Trip Try.prog 7 #[.agg #[.int .i64 e.op, .int .i64 e.num, f.val], .int .i64 0, .int .i64 1] v fun r w => ∃ y : Sl, r = .tuple #[.agg #[.int .i64 (shE 0 1 e).op, .int .i64 (shE 0 1 e).num, y.val], .bool true] ∧ Sub v w ∧ Read w y (shE 0 1 e).kids := by
 refine of7 _ _ _ _ _ _ _ ?_
 unfold vc7
 refine ⟨_, c_NodesOf hf, fun hc => ?_, fun hc => ?_⟩
 ·rw [if_pos hn] at hc
  simp only [bls] at hc
  omega
 refine St.box (vals := [.bool false]) (.refl v) fun a w1 I1 hC hS hs => ?_
 refine hC.store hS (by simp) ?_
 intro w2 I2 hC hS
 simp [putR] at hC
 refine (c_walk e v w2 f true a I2 [] hf hC hS).mono' ?_
 rintro _ w3 ⟨rfl, I3, hC, hS⟩
 rw [hv] at hC
 refine ⟨rfl, _, hC.load hS rfl, fun hc => (by cases hc), fun _ => ?_⟩
 refine (c_shifted e v w3 f (I3 ++ []) hf i1 i2 hv hS).mono' ?_
 rintro _ w4 ⟨y, rfl, u', hu, hS4, hy⟩
 exact ⟨_, _, y, rfl, y, rfl, hu.trans hS4.sub, hy.mono hS4.sub⟩
theorem l_TypeOfFront : LawTrue Try.prog 3 := by
 classical
 intro v x0 bs hb
 refine of3 _ _ _ ?_
 unfold vc3
 refine ⟨fun hc => ⟨rfl, .refl v⟩, fun hc => ?_⟩
 simp only [bls] at hc
 have hcode := hb.read (by omega)
 refine (c_DrawTypeOf hcode).mono' ?_
 rintro _ w1 ⟨x, y, z, n1, n2, s, rfl, u1, ds, fs, vars, hv1, hw1, hx, hy, hz, hl, e, rfl, rfl, hs, i1, i2⟩
 refine ⟨x, y, z, _, _, s, rfl, ?_⟩
 have hsub := hv1.trans hw1
 have hT := c_TypeOfI (hx.mono hw1) (hy.mono hw1) (hz.mono hw1) (by omega) (hs.mono hw1) i2
 have hS := c_TypeOfS (hx.mono hw1) (hy.mono hw1) (hz.mono hw1) (by omega) (hs.mono hw1) i2
 refine ⟨_, hT, _, hS, fun hc => ⟨_, hS, by simp, hsub⟩, fun hc => ?_⟩
 simp only [Bool.or_eq_false_iff, Bool.not_eq_false', decide_eq_false_iff_not] at hc
 have hcond : sigSigs ds (fs.map sgE) ∧ nodesE e ≤ 30 ∧ vars.all (typeB ds.length) = true := Classical.byContradiction fun hh => by rw [if_neg hh] at hc; omega
 rw [if_pos hcond] at hc ⊢
 obtain ⟨n, hn⟩ : ∃ n, tyX ds (fs.map sgE) e vars = some n := by
  cases hq : tyX ds (fs.map sgE) e vars with
  | none => rw [hq] at hc; exact absurd (by decide : (gD none : Int) < 0) hc.2
  | some n => exact ⟨n, rfl⟩
 have hvf : vfE e = true := vf_ty (fun n f hf => (armF_nnM hcond.1.1 hf).2) e vars n (by omega) hn
 refine (c_Shift (hs.mono hw1) i1 i2 hcond.2.1 hvf).mono' ?_
 rintro _ w2 ⟨y2, rfl, hs2, hr2⟩
 refine ⟨_, _, y2, true, rfl, fun _ => ?_, fun hh => (by cases hh)⟩
 refine St.build (α := Int) (l := [0]) (.refl w2) (by exact VsOf.cons (VOf.int (in64_in rfl)) VsOf.nil) rfl (by decide) fun z3 w3 J3 hO3 hS3 hs3 => ⟨z3, rfl, hS3.sub, ?_⟩
 have h3 : Sub w1 w3 := hs2.trans hS3.sub
 refine Mk.use (c_join (hO3.read1 (by simpa using hS3)) ((hz.mono hw1).mono h3) (by simp; omega)) (.refl w3) ?_
 rintro _ w4 J4 ⟨z4, rfl, hO4⟩ hS4 hs4
 refine ⟨z4, rfl, hs4, ?_⟩
 have h4 := h3.trans hs4
 have hv := vf_in i2 hvf i1
 have hT2 := c_TypeOfI (e := shE 0 1 e) ((hx.mono hw1).mono h4) ((hy.mono hw1).mono h4) (hO4.read1 (by simpa using hS4)) (by simp; omega) ((hr2.mono hS3.sub).mono hs4) hv.2
 refine ⟨_, hT2, ?_, hsub.trans h4⟩
 have hall : (([0] ++ vars : List Int)).all (typeB ds.length) = true := by
  show (typeB ds.length 0 && vars.all (typeB ds.length)) = true
  rw [hcond.2.2, Bool.and_true]
  unfold typeB
  simp
 rw [if_pos ⟨hcond.1, by rw [nodesE_sh]; exact hcond.2.1, hall⟩]
 show Value.bool (decide (gD (tyX ds (fs.map sgE) (shE 0 1 e) (0 :: vars)) = _)) = _
 rw [tyX_sh]
 simp
end
end Go.Vc
