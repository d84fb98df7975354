/- Part of the proofs about the heaps and memories: a law is joined in the text whose name ends in W and the law. -/
import Derived.Test.YtlcegaeioheikaaEG1
namespace Go.Vc
open Go Go.Proofs Go.RowKit
set_option linter.all false
abbrev Cv (ds : List DeclD) (fs : List FunD) (vars : List Int) : CxE := ⟨ds, fs.length, vars.length⟩
def GX (C : CxE) (u : World) (a : Addr) (R : Items) (m N : Int) (r : Value) (w : World) : Prop := ∃ n1 n2 s, r = .agg #[.int .i64 n1, .int .i64 n2, Sl.val s] ∧ GQ C u a R m N n1 n2 s w
section
variable {C : CxE} {u u' u0 v w : World} {x y z s tx x1 x2 x3 : Sl} {ds : List DeclD} {fs : List FunD} {a : Addr} {I J L R : Items} {F : Items → Items} {m m' N N' N1 N2 N3 n n1 n2 k1 k2 l1 l2 op num t b f : Int} {l vars types : List Int} {ks : List ExprD} {e : ExprD}
theorem gx (hu : Sub u u') (h : GS u' a R m w) (he : EV C u' N n1 n2 x) (hm : m ≤ m') (hN : N ≤ N') : GX C u a R m' N' (.agg #[.int .i64 n1, .int .i64 n2, x.val]) w :=
 ⟨_, _, _, rfl, u', hu, h.le hm, he.le hN⟩
theorem use_x {P : Program} {f : FuncId} {args : Array Value} {K : Int → Int → Sl → World → Prop} (hT : Trip P f args w (GX C u a R m N)) (k : ∀ n1 n2 x w' u', Sub u u' → GS u' a R m w' → EV C u' N n1 n2 x → K n1 n2 x w') :
  Trip P f args w fun r w' => ∃ n1 n2 x, r = .agg #[.int .i64 n1, .int .i64 n2, Sl.val x] ∧ K n1 n2 x w' :=
 hT.mono' fun _ _ ⟨n1, n2, x, h1, u', h2, h3, h4⟩ => ⟨n1, n2, x, h1, k _ _ _ _ u' h2 h3 h4⟩
theorem Pg_mono (h : b ≤ 18) : Pg b ≤ 2240 := by unfold Pg; split <;> omega
theorem EV.nodes (h : EV C u N n1 n2 x) (hs : Sub u w) : ∃ q, Fn Try.prog 24 #[.agg #[.int .i64 n1, .int .i64 n2, x.val]] w (.int .i64 q) := by
 obtain ⟨e, rfl, rfl, r, _⟩ := h
 exact ⟨_, c_spNodesOf (r.mono hs)⟩
theorem gs_kids2 (h : GS u a R m w) (h1 : EV C u N1 n1 n2 x1) (h2 : EV C u N2 k1 k2 x2) {K : Sl → World → Prop} (k : ∀ x w' u' ks, Sub u u' → Sub w w' → GS u' a R m w' → Read u' x ks → cL C ks → (nodesL ks : Int) ≤ N1 + N2 → ks.length = 2 → K x w') :
  StepT Try.prog (Instr.buildSlice 28 2 #[(0, (.agg #[.int .i64 n1, .int .i64 n2, x1.val])), (1, (.agg #[.int .i64 k1, .int .i64 k2, x2.val]))]) w fun r w1 => ∃ x : Sl, r = x.val ∧ K x w1 := by
 obtain ⟨e1, rfl, rfl, r1, c1, g1⟩ := h1
 obtain ⟨e2, rfl, rfl, r2, c2, g2⟩ := h2
 refine gs_kids (ks := [e1, e2]) h (by exact VsOf.cons (vof r1 c1.1) (VsOf.cons (vof r2 c2.1) VsOf.nil)) rfl (by decide) fun x w1 u1 hu hs h hx => ?_
 exact k x w1 u1 _ hu hs h hx (cL_cons c1 (cL_cons c2 cL_nil)) (by rw [nodesL_cons, nodesL_cons, nodesL_nil]; omega) rfl
theorem gs_kids3 (h : GS u a R m w) (h1 : EV C u N1 n1 n2 x1) (h2 : EV C u N2 k1 k2 x2) (h3 : EV C u N3 l1 l2 x3) {K : Sl → World → Prop} (k : ∀ x w' u' ks, Sub u u' → Sub w w' → GS u' a R m w' → Read u' x ks → cL C ks → (nodesL ks : Int) ≤ N1 + N2 + N3 → ks.length = 3 → K x w') :
  StepT Try.prog (Instr.buildSlice 28 3 #[(0, (.agg #[.int .i64 n1, .int .i64 n2, x1.val])), (1, (.agg #[.int .i64 k1, .int .i64 k2, x2.val])), (2, (.agg #[.int .i64 l1, .int .i64 l2, x3.val]))]) w fun r w1 => ∃ x : Sl, r = x.val ∧ K x w1 := by
 obtain ⟨e1, rfl, rfl, r1, c1, g1⟩ := h1
 obtain ⟨e2, rfl, rfl, r2, c2, g2⟩ := h2
 obtain ⟨e3, rfl, rfl, r3, c3, g3⟩ := h3
 refine gs_kids (ks := [e1, e2, e3]) h (by exact VsOf.cons (vof r1 c1.1) (VsOf.cons (vof r2 c2.1) (VsOf.cons (vof r3 c3.1) VsOf.nil))) rfl (by decide) fun x w1 u1 hu hs h hx => ?_
 exact k x w1 u1 _ hu hs h hx (cL_cons c1 (cL_cons c2 (cL_cons c3 cL_nil))) (by rw [nodesL_cons, nodesL_cons, nodesL_cons, nodesL_nil]; omega) rfl
theorem c_fitting (hp : PrgG u R x y ds fs) (hv : VrG u R z vars) (hvl : vars.length ≤ 10) (t0 : 0 ≤ t) (t1 : t ≤ 4) (b0 : 0 ≤ b) (b1 : b ≤ 18) (hm : m + 50000 ≤ 999900000) (h : GS u a R m w) :
  Trip Try.prog 13 #[.pointer (some (a.add 0)), .agg #[x.val, y.val], z.val, .int .i64 t, .int .i64 b] w (GX (Cv ds fs vars) u a R (m + 43000) 5000) := by
 refine of13 _ _ _ _ _ _ _ _ ?_
 unfold vc13
 have hb := Pg_mono b1
 have hb0 := Pg_pos b
 refine gs_gen (c_gen b (by omega)) hp hv (by omega) (by omega) t0 t1 (by omega) h fun n1 n2 x1 w1 u1 hu1 h he => ?_
 refine ⟨fun b' n1 n2 s w => ∃ u2, Sub u u2 ∧ GS u2 a R (m + 2240 * (19 - b')) w ∧ EV (Cv ds fs vars) u2 2240 n1 n2 s ∧ 0 ≤ b' ∧ b' ≤ 18, fun b' _ _ _ _ => b'.toNat, ⟨u1, hu1, h.le (by omega), he.le (by omega), b0, b1⟩, ?_⟩
 clear h he
 rintro b' n1 n2 s w2 ⟨u2, hu2, h, he, p0, p1⟩
 dsimp only
 obtain ⟨q, hq⟩ := he.nodes h.sub
 refine ⟨q, hq, fun hc => ?_, fun hc => gx hu2 h he (by omega) (by omega)⟩
 simp only [bls] at hc
 have h2 : b'.tdiv 2 = b' / 2 := Int.tdiv_eq_ediv_of_nonneg (by omega)
 have hb2 := Pg_mono (b := b'.tdiv 2) (by omega)
 refine go_quo (by omega) (by omega) (by omega) ?_
 refine gs_gen (c_gen _ (by omega)) (hp.mono hu2) (hv.mono hu2) (by omega) (by omega) t0 t1 (by omega) h fun n3 n4 x3 w3 u3 hu3 h he => ?_
 exact ⟨rfl, rfl, rfl, rfl, rfl, ⟨u3, hu2.trans hu3, h.le (by omega), he.le (by omega), by omega, by omega⟩, by omega⟩
/-- what a body's making needs to know of its function -/
structure BdG (u : World) (R : Items) (x y : Sl) (ds : List DeclD) (fs : List FunD) (f : Int) (g : Sl) : Prop where
 pr : PrgG u R x y ds fs
 f0 : 0 ≤ f
 f1 : f < fs.length
 rg : Read u g (nth fs f).params
 pl : (nth fs f).params.length ≤ 3
 pt : ∀ t ∈ (nth fs f).params, 0 ≤ t ∧ t ≤ 4
 r0 : 0 ≤ (nth fs f).result
 r1 : (nth fs f).result ≤ 4
theorem BdG.mono {g : Sl} (h : BdG u R x y ds fs f g) (hs : Sub u u') : BdG u' R x y ds fs f g := ⟨h.pr.mono hs, h.f0, h.f1, h.rg.mono hs, h.pl, h.pt, h.r0, h.r1⟩
theorem BdG.app {g : Sl} (h : BdG u R x y ds fs f g) (J : Items) : BdG u (J ++ R) x y ds fs f g := ⟨h.pr.app J, h.f0, h.f1, h.rg, h.pl, h.pt, h.r0, h.r1⟩
theorem BdG.of (hp : PrgG u R x y ds fs) (h : GS u a R m w) (h0 : 0 ≤ f) (h1 : f < fs.length) : ∃ g : Sl, w.cell? ((elA y f 5).add 0) = some g.val ∧ w.cell? ((elA y f 5).add 1) = some (.int .i64 (nth fs f).result) ∧ BdG u R x y ds fs f g := by
 obtain ⟨g, g2, e1, e2, _, _, _, _, _, _, r1, _⟩ := (hp.src h).ofFunD h0 h1
 have hsf := sig_facts (hp.gf.mem h0 h1)
 refine ⟨g, e1, e2, hp, h0, h1, r1, hsf.1, fun t ht => ?_, hsf.2.2.1, ?_⟩
 ·have := hsf.2.1 t ht
  omega
 ·have h4 : (nth fs f).result ≤ 3 := hsf.2.2.2.1
  omega
theorem BdG.ix {g : Sl} (hb : BdG u R x y ds fs f g) (h : GS u a R m w) : IxOk y f := (hb.pr.fsr h).ix hb.f0 hb.f1
theorem BdG.res {g : Sl} (hb : BdG u R x y ds fs f g) (h : GS u a R m w) : w.cell? ((elA y f 5).add 1) = some (.int .i64 (nth fs f).result) := by
 obtain ⟨_, _, e2, _⟩ := BdG.of hb.pr h hb.f0 hb.f1
 exact e2
theorem BdG.cell {g : Sl} (hb : BdG u R x y ds fs f g) (h : GS u a R m w) (hg : ∀ (u' w' : World) (I' : Items), Sub u u' → St u' w' (I' ++ R) → w'.cell? ((elA y f 5).add 0) = some g.val) : w.cell? ((elA y f 5).add 0) = some g.val := let ⟨I, _, h2⟩ := h; hg u w I (.refl u) h2
theorem GD.arm3 {ds : List DeclD} (h : GD ds) : (consL ds 3).length = 2 ∧ conF ds (nth (consL ds 3) (0 : Nat)) = [] ∧ conF ds (nth (consL ds 3) (1 : Nat)) = [3, 0, 3] := by
 have hl := h.len
 have hn : nth ds (3 - 1) = dTr := h.nth0.2.2
 refine ⟨by rw [consL_length (by omega) (by omega), hn]; rfl, ?_, ?_⟩
 ·rw [show ((0 : Nat) : Int) = 0 from rfl, conF_nth (by omega) (by omega) (by omega) (by rw [hn]; decide), hn]; rfl
 ·rw [show ((1 : Nat) : Int) = 1 from rfl, conF_nth (by omega) (by omega) (by omega) (by rw [hn]; decide), hn]; rfl
theorem GD.arm1 {ds : List DeclD} (h : GD ds) : (consL ds 1).length = 2 ∧ conF ds (nth (consL ds 1) (0 : Nat)) = [] ∧ conF ds (nth (consL ds 1) (1 : Nat)) = [0, 1] := by
 have hl := h.len
 have hn : nth ds (1 - 1) = dLi := h.nth0.1
 refine ⟨by rw [consL_length (by omega) (by omega), hn]; rfl, ?_, ?_⟩
 ·rw [show ((0 : Nat) : Int) = 0 from rfl, conF_nth (by omega) (by omega) (by omega) (by rw [hn]; decide), hn]; rfl
 ·rw [show ((1 : Nat) : Int) = 1 from rfl, conF_nth (by omega) (by omega) (by omega) (by rw [hn]; decide), hn]; rfl
theorem gs_match3 {C' : CxE} {d : Int} {fl : List Int} (hd0 : 0 ≤ d) (hd1 : d < 13) (hA : (consL C.ds d).length = 2 ∧ conF C.ds (nth (consL C.ds d) (0 : Nat)) = [] ∧ conF C.ds (nth (consL C.ds d) (1 : Nat)) = fl) (h : GS u a R m w) (h1 : EV C u N1 n1 n2 x1) (h2 : EV C u N2 k1 k2 x2) (h3 : EV C' u N3 l1 l2 x3)
  (hd : C'.ds = C.ds) (hn : C'.nf = C.nf) (hV : C'.V ≤ C.V + fl.length) {K : Int → Int → Sl → World → Prop} (k : ∀ x w' u', Sub u u' → GS u' a R m w' → EV C u' (1 + N1 + N2 + N3) 8 d x → K 8 d x w') :
  StepT Try.prog (Instr.buildSlice 28 3 #[(0, (.agg #[.int .i64 n1, .int .i64 n2, x1.val])), (1, (.agg #[.int .i64 k1, .int .i64 k2, x2.val])), (2, (.agg #[.int .i64 l1, .int .i64 l2, x3.val]))]) w fun r w1 => ∃ x : Sl, r = x.val ∧ Trip Try.prog 33 #[.int .i64 8, .int .i64 d, x.val] w1 fun r w' => ∃ n1 n2 x', r = .agg #[.int .i64 n1, .int .i64 n2, x'.val] ∧ K n1 n2 x' w' := by
 obtain ⟨e1, rfl, rfl, r1, c1, g1⟩ := h1
 obtain ⟨e2, rfl, rfl, r2, c2, g2⟩ := h2
 obtain ⟨e3, rfl, rfl, r3, c3, g3⟩ := h3
 obtain ⟨hA1, hA2, hA3⟩ := hA
 refine gs_kids (ks := [e1, e2, e3]) h (by exact VsOf.cons (vof r1 c1.1) (VsOf.cons (vof r2 c2.1) (VsOf.cons (vof r3 c3.1) VsOf.nil))) rfl (by decide) fun x w1 u1 hu hs h hx => ?_
 have ha : armC C d ([] ++ [e2] ++ [e3]) := by
  refine armC_snoc (armC_snoc armC_nil ?_) ?_
  ·exact c2.le rfl rfl (Nat.le_add_right _ _)
  ·refine c3.le hd hn ?_
   show C'.V ≤ C.V + (conF C.ds (nth (consL C.ds d) (1 : Nat))).length
   rw [hA3]
   exact hV
 exact gs_node (k x w1 u1 hu h (EV.of hx (cE.match_ hd0 hd1 c1 ha hA1.symm) (by rw [nodesL_cons, nodesL_cons, nodesL_cons, nodesL_nil]; omega)))
theorem c_overTree (hp : PrgG u R x y ds fs) (f0 : 0 ≤ f) (f1 : f < fs.length) (hpos : (0 : Int) < (nth fs f).params.length) (hm : m + 50000 ≤ 999900000) (h : GS u a R m w) :
  Trip Try.prog 80 #[.pointer (some (a.add 0)), .agg #[x.val, y.val], .int .i64 f] w (GX (Cv ds fs (nth fs f).params) u a R (m + 5000) 5000) := by
 refine of80 _ _ _ _ _ _ ?_
 unfold vc80
 obtain ⟨g, e1, _, hb⟩ := BdG.of hp h f0 f1
 have hgn := hb.rg.n
 have hpl := hb.pl
 have hfl := hp.gf.2.1
 have hP4 := Pg_at (b := 4) (by omega)
 have hr0 := hb.r0
 have hr1 := hb.r1
 refine ⟨hb.ix h, g, e1, ?_⟩
 refine gs_var (C := (Cv ds fs ((nth fs f).params ++ [3, 0, 3]))) h (by omega) (by omega) (by simp; omega) fun n1 n2 x3 w1 u1 hu1 hs1 h he1 => ?_
 obtain ⟨ea, rfl, rfl, ra, ca, na⟩ := he1
 obtain ⟨I1, hR1, hS1⟩ := h
 refine St.build (α := ExprD) hS1 (VsOf.cons (vof ra ca.1) VsOf.nil) rfl (by decide) fun x5 w5 J5 hO5 hS5 hs5 => ⟨x5, rfl, ?_⟩
 refine go_wr (by omega) (by omega) ?_
 refine gs_var (C := (Cv ds fs ((nth fs f).params ++ [3, 0, 3]))) (R := J5 ++ R) ⟨I1, hR1, hS5.to⟩ (by omega) (by omega) (by simp; omega) fun n3 n4 x6 w6 u6 hu6 hs6 h he6 => ?_
 obtain ⟨eb, rfl, rfl, rb, cb, nb⟩ := he6
 obtain ⟨I6, hR6, hS6⟩ := h
 refine St.build (α := ExprD) hS6 (VsOf.cons (vof rb cb.1) VsOf.nil) rfl (by decide) fun x7 w7 J7 hO7 hS7 hs7 => ⟨x7, rfl, ?_⟩
 refine ⟨fun s1 s2 i w => ∃ (u8 : World) (Ja Jb : Items) (ka kb : List ExprD), Sub u u8 ∧ GS u8 a (Jb ++ (Ja ++ R)) m w ∧ Own u8 s1 ka Ja ∧ Own u8 s2 kb Jb ∧ cL (Cv ds fs ((nth fs f).params ++ [3, 0, 3])) ka ∧ cL (Cv ds fs ((nth fs f).params ++ [3, 0, 3])) kb ∧ (nodesL ka : Int) ≤ i ∧ (nodesL kb : Int) ≤ i ∧ (ka.length : Int) = i ∧ (kb.length : Int) = i ∧ 1 ≤ i ∧ i ≤ 4, fun _ _ i _ => (4 - i).toNat, ⟨u6, J5, J7, _, _, hu1.trans hu6, ⟨I6, hR6, hS7.to⟩, hO5.mono hu6, hO7, cL_cons ca cL_nil, cL_cons cb cL_nil, by rw [nodesL_cons, nodesL_nil]; omega, by rw [nodesL_cons, nodesL_nil]; omega, rfl, rfl, by omega, by omega⟩, ?_⟩
 clear hR1 hS1 hO5 hS5 hR6 hS6 hO7 hS7
 rintro s1 s2 i w8 ⟨u8, Ja, Jb, ka, kb, hu8, h, hOa, hOb, hca, hcb, hna, hnb, hla, hlb, i0, i1⟩
 dsimp only
 refine ⟨fun hi => ?_, fun hi => ?_⟩
 ·simp only [bls] at hi
  refine gs_var (C := (Cv ds fs ((nth fs f).params ++ [3, 0, 3]))) h (by omega) (by omega) (by simp; omega) fun n1 n2 x3 w1 u1 hu1 hs1 h he1 => ?_
  obtain ⟨ea, rfl, rfl, ra, ca, na⟩ := he1
  have h' : GS u1 a (Ja ++ (Jb ++ R)) m w1 := let ⟨I, q1, q2⟩ := h; ⟨I, q1, q2.to⟩
  refine gs_push h' (hOa.mono hu1) ra ca (by omega) fun x4 w4 J4 h hO4 => ?_
  have h' : GS u1 a (Jb ++ (J4 ++ R)) m w4 := let ⟨I, q1, q2⟩ := h; ⟨I, q1, q2.to⟩
  refine gs_var (C := (Cv ds fs ((nth fs f).params ++ [3, 0, 3]))) h' (by omega) (by omega) (by simp; omega) fun n3 n4 x5 w5 u5 hu5 hs5 h he5 => ?_
  obtain ⟨eb, rfl, rfl, rb, cb, nb⟩ := he5
  refine gs_push h ((hOb.mono hu1).mono hu5) rb cb (by omega) fun x6 w6 J6 h hO6 => ?_
  refine go_wr (by omega) (by omega) ?_
  refine ⟨rfl, rfl, rfl, rfl, rfl, ⟨u5, J4, J6, _, _, (hu8.trans hu1).trans hu5, h, hO4.mono hu5, hO6, cL_snoc hca ca, cL_snoc hcb cb, by rw [nodesL_snoc]; omega, by rw [nodesL_snoc]; omega, by simp; omega, by simp; omega, by omega, by omega⟩, by omega⟩
 simp only [bls] at hi
 -- both lists of arguments
 obtain ⟨u9, hu9, h, hJb⟩ := h.freeze
 have hrb := hOb.read1 hJb
 obtain ⟨u10, hu10, h, hJa⟩ := h.freeze
 have hra := (hOa.mono hu9).read1 hJa
 have hU : Sub u u10 := (hu8.trans hu9).trans hu10
 have hb := hb.mono hU
 refine gs_nodeL h hra hca (Int.le_trans hna i1) (ok_call f0 (by omega) f1) fun heL => ?_
 refine gs_nodeL h (hrb.mono hu10) hcb (Int.le_trans hnb i1) (ok_call f0 (by omega) f1) fun heR => ?_
 clear hOa hOb hra hrb hna hnb hca hcb hla hlb hJa hJb
 have last : ∀ (n82 n83 : Int) (x84 : Sl) (w81 u3 : World) (m3 : Int), Sub u10 u3 → GS u3 a R m3 w81 → m3 ≤ m + 2000 → EV (Cv ds fs ((nth fs f).params ++ [3, 0, 3])) u3 2500 n82 n83 x84 →
   Trip Try.prog 35 #[.int .i64 0] w81 fun r112 w113 =>
    ∃ n114 : Int, ∃ n115 : Int, ∃ x116 : Sl, r112 = .agg #[.int .i64 n114, .int .i64 n115, x116.val] ∧
    Sub w81 w113 ∧
    Trip Try.prog 31 #[.pointer (some (a.add 0)), .agg #[x.val, y.val], g.val, .int .i64 (nth fs f).result, .int .i64 4] w113 fun r117 w118 =>
     ∃ n119 : Int, ∃ n120 : Int, ∃ x121 : Sl, r117 = .agg #[.int .i64 n119, .int .i64 n120, x121.val] ∧
     StepT Try.prog (Instr.buildSlice 28 3 #[(0, (.agg #[.int .i64 n114, .int .i64 n115, x116.val])), (1, (.agg #[.int .i64 n119, .int .i64 n120, x121.val])), (2, (.agg #[.int .i64 n82, .int .i64 n83, x84.val]))]) w118 fun r122 w123 =>
      ∃ x124 : Sl, r122 = x124.val ∧
      Trip Try.prog 33 #[.int .i64 8, .int .i64 3, x124.val] w123 fun r125 w126 =>
       ∃ n127 : Int, ∃ n128 : Int, ∃ x129 : Sl, r125 = .agg #[.int .i64 n127, .int .i64 n128, x129.val] ∧
       (GX (Cv ds fs (nth fs f).params) u a R (m + 5000) 5000) (.agg #[.int .i64 n127, .int .i64 n128, x129.val]) w126 := by
  intro n82 n83 x84 w81 u3 m3 hs3 h hm3 he
  refine gs_var (C := (Cv ds fs (nth fs f).params)) h (by omega) (by omega) hpos fun n1 n2 x4 w4 u4 hu4 hs4 h he4 => ⟨hs4, ?_⟩
  have hb4 := hb.mono (hs3.trans hu4)
  refine gs_gen (c_gen 4 (by omega)) hb4.pr (.of hb4.rg) (by omega) (by omega) hr0 hr1 (by omega) h fun n3 n4 x5 w5 u5 hu5 h he5 => ?_
  refine gs_match3 (by omega) (by omega) hp.gd.arm3 h (he4.mono hu5) he5 ((he.mono hu4).mono hu5) rfl rfl (by simp) fun x6 w6 u6 hu6 h he6 => ?_
  exact gx (((hU.trans hs3).trans hu4).trans (hu5.trans hu6)) h he6 (by omega) (by omega)
 have T : ∀ (n82 n83 : Int) (x84 : Sl) (w81 u3 : World) (m3 : Int), Sub u10 u3 → GS u3 a R m3 w81 → m3 ≤ m + 1000 → EV (Cv ds fs ((nth fs f).params ++ [3, 0, 3])) u3 1000 n82 n83 x84 →
                      IxOk y f ∧
                      ∃ n85 : Int, w81.cell? ((elA y f 5).add 1) = some (.int .i64 n85) ∧
                      ((decide (n85 = 3)) = true →
                       ∃ n86 : Int, Wr .i64 ((g.n : Int) + 2) n86 ∧
                       StepT Try.prog (Instr.buildSlice 27 3 #[(0, (.int .i64 3)), (1, (.int .i64 0)), (2, (.int .i64 3))]) w81 fun r87 w88 =>
                        ∃ x89 : Sl, r87 = x89.val ∧
                        Sub w81 w88 ∧
                        Trip Try.prog 36 #[g.val, x89.val] w88 fun r90 w91 =>
                         ∃ x92 : Sl, r90 = x92.val ∧
                         Sub w88 w91 ∧
                         Trip Try.prog 31 #[.pointer (some (a.add 0)), .agg #[x.val, y.val], x92.val, .int .i64 0, .int .i64 4] w91 fun r93 w94 =>
                          ∃ n95 : Int, ∃ n96 : Int, ∃ x97 : Sl, r93 = .agg #[.int .i64 n95, .int .i64 n96, x97.val] ∧
                          Trip Try.prog 35 #[.int .i64 n86] w94 fun r98 w99 =>
                           ∃ n100 : Int, ∃ n101 : Int, ∃ x102 : Sl, r98 = .agg #[.int .i64 n100, .int .i64 n101, x102.val] ∧
                           StepT Try.prog (Instr.buildSlice 28 3 #[(0, (.agg #[.int .i64 9, .int .i64 f, s1.val])), (1, (.agg #[.int .i64 n95, .int .i64 n96, x97.val])), (2, (.agg #[.int .i64 n100, .int .i64 n101, x102.val]))]) w99 fun r103 w104 =>
                            ∃ x105 : Sl, r103 = x105.val ∧
                            Trip Try.prog 33 #[.int .i64 6, .int .i64 3, x105.val] w104 fun r106 w107 =>
                             ∃ n108 : Int, ∃ n109 : Int, ∃ x110 : Sl, r106 = .agg #[.int .i64 n108, .int .i64 n109, x110.val] ∧
                             IxOk y f ∧
                             ∃ n111 : Int, w107.cell? ((elA y f 5).add 1) = some (.int .i64 n111) ∧
                             Trip Try.prog 35 #[.int .i64 0] w107 fun r112 w113 =>
                              ∃ n114 : Int, ∃ n115 : Int, ∃ x116 : Sl, r112 = .agg #[.int .i64 n114, .int .i64 n115, x116.val] ∧
                              Sub w107 w113 ∧
                              Trip Try.prog 31 #[.pointer (some (a.add 0)), .agg #[x.val, y.val], g.val, .int .i64 n111, .int .i64 4] w113 fun r117 w118 =>
                               ∃ n119 : Int, ∃ n120 : Int, ∃ x121 : Sl, r117 = .agg #[.int .i64 n119, .int .i64 n120, x121.val] ∧
                               StepT Try.prog (Instr.buildSlice 28 3 #[(0, (.agg #[.int .i64 n114, .int .i64 n115, x116.val])), (1, (.agg #[.int .i64 n119, .int .i64 n120, x121.val])), (2, (.agg #[.int .i64 n108, .int .i64 n109, x110.val]))]) w118 fun r122 w123 =>
                                ∃ x124 : Sl, r122 = x124.val ∧
                                Trip Try.prog 33 #[.int .i64 8, .int .i64 3, x124.val] w123 fun r125 w126 =>
                                 ∃ n127 : Int, ∃ n128 : Int, ∃ x129 : Sl, r125 = .agg #[.int .i64 n127, .int .i64 n128, x129.val] ∧
                                 (GX (Cv ds fs (nth fs f).params) u a R (m + 5000) 5000) (.agg #[.int .i64 n127, .int .i64 n128, x129.val]) w126) ∧
                      ((decide (n85 = 3)) = false →
                       IxOk y f ∧
                       ∃ n130 : Int, w81.cell? ((elA y f 5).add 1) = some (.int .i64 n130) ∧
                       Trip Try.prog 35 #[.int .i64 0] w81 fun r131 w132 =>
                        ∃ n133 : Int, ∃ n134 : Int, ∃ x135 : Sl, r131 = .agg #[.int .i64 n133, .int .i64 n134, x135.val] ∧
                        Sub w81 w132 ∧
                        Trip Try.prog 31 #[.pointer (some (a.add 0)), .agg #[x.val, y.val], g.val, .int .i64 n130, .int .i64 4] w132 fun r136 w137 =>
                         ∃ n138 : Int, ∃ n139 : Int, ∃ x140 : Sl, r136 = .agg #[.int .i64 n138, .int .i64 n139, x140.val] ∧
                         StepT Try.prog (Instr.buildSlice 28 3 #[(0, (.agg #[.int .i64 n133, .int .i64 n134, x135.val])), (1, (.agg #[.int .i64 n138, .int .i64 n139, x140.val])), (2, (.agg #[.int .i64 n82, .int .i64 n83, x84.val]))]) w137 fun r141 w142 =>
                          ∃ x143 : Sl, r141 = x143.val ∧
                          Trip Try.prog 33 #[.int .i64 8, .int .i64 3, x143.val] w142 fun r144 w145 =>
                           ∃ n146 : Int, ∃ n147 : Int, ∃ x148 : Sl, r144 = .agg #[.int .i64 n146, .int .i64 n147, x148.val] ∧
                           (GX (Cv ds fs (nth fs f).params) u a R (m + 5000) 5000) (.agg #[.int .i64 n146, .int .i64 n147, x148.val]) w145) := by
  intro n82 n83 x84 w81 u3 m3 hs3 h hm3 he
  have hb3 := hb.mono hs3
  refine ⟨hb3.ix h, _, hb3.res h, fun hc => ?_, fun hc => ?_⟩
  ·refine go_wr (by omega) (by omega) ?_
   refine gs_ints h (by (repeat' (first | exact VsOf.nil | apply VsOf.cons | (apply VOf.int; first | assumption | (constructor <;> first | omega | (simp only [List.length_set, List.length_append, List.length_replicate, List.length_cons, List.length_nil, List.length_take, List.length_drop, List.length_map, List.length_singleton] at *; omega))) | exact VOf.bool | exact VOf.str))) rfl (by decide) fun x4 w4 u4 hu4 hs4 h hx4 => ⟨hs4, ?_⟩
   refine gs_extend (hb3.mono hu4).rg hx4 (by simp; omega) h fun x5 w5 u5 hu5 hs5 h hx5 => ⟨hs5, ?_⟩
   have hb5 := (hb3.mono hu4).mono hu5
   refine gs_gen (c_gen 4 (by omega)) hb5.pr (.of hx5) (by simp; omega) (by simp; omega) (by omega) (by omega) (by omega) h fun n3 n4 x6 w6 u6 hu6 h he6 => ?_
   refine gs_var (C := (Cv ds fs ((nth fs f).params ++ [3, 0, 3]))) h (by omega) (by omega) (by simp; omega) fun n5 n6 x7 w7 u7 hu7 hs7 h he7 => ?_
   have hs7' := ((hs3.trans hu4).trans (hu5.trans hu6)).trans hu7
   refine gs_node3 h (heL.mono hs7') (he6.mono hu7) he7 (ok_con (by omega) (by omega)) fun x8 w8 u8 hu8 h he8 => ?_
   have hb8 := hb.mono (hs7'.trans hu8)
   exact ⟨hb8.ix h, _, hb8.res h, last _ _ _ _ _ _ (hs7'.trans hu8) h (by omega) (he8.le (by omega))⟩
  ·exact ⟨hb3.ix h, _, hb3.res h, last _ _ _ _ _ _ hs3 h (by omega) (he.le (by omega))⟩
 have z1 : okS (Cv ds fs ((nth fs f).params ++ [3, 0, 3])) 1 0 2 := ok_zero (by omega) (by omega)
 refine ⟨?_, .refl _, ?_⟩
 ·refine gs_ints h (by (repeat' (first | exact VsOf.nil | apply VsOf.cons | (apply VOf.int; first | assumption | (constructor <;> first | omega | (simp only [List.length_set, List.length_append, List.length_replicate, List.length_cons, List.length_nil, List.length_take, List.length_drop, List.length_map, List.length_singleton] at *; omega))) | exact VOf.bool | exact VOf.str))) rfl (by decide) fun xt w11 u11 hu11 hs11 h hxt => ⟨hs11, ?_, .refl _, ?_⟩
  ·refine gs_extend (hb.mono hu11).rg hxt (by simp; omega) h fun xv w12 u12 hu12 hs12 h hxv => ⟨hs12, ?_, .refl _, ?_⟩
   ·refine gs_gen (c_gen 4 (by omega)) ((hb.mono hu11).mono hu12).pr (.of hxv) (by simp; omega) (by simp; omega) (by omega) (by omega) (by omega) h fun n1 n2 x13 w13 u13 hu13 h he13 => ?_
    have hs13 := (hu11.trans hu12).trans hu13
    refine ⟨?_, .refl _, ?_⟩
    ·refine gs_kids2 h he13 (heR.mono hs13) fun x14 w14 u14 ks hu14 hs14 h hx hc hn hl => ⟨?_, .refl _, ?_⟩
     ·refine gs_nodeL h hx hc hn (by rw [hl]; exact z1) fun he14 => ⟨?_, .refl _, ?_⟩
      ·refine gs_kids2 h (heL.mono (hs13.trans hu14)) he14 fun x15 w15 u15 ks hu15 hs15 h hx hc hn hl => ⟨?_, .refl _, ?_⟩
       ·exact gs_nodeL h hx hc hn (by rw [hl]; exact z1) fun he15 => ⟨.refl _, T _ _ _ _ _ _ (hs13.trans (hu14.trans hu15)) h (by omega) (he15.le (by omega))⟩
       ·exact gs_nodeL h hx hc hn (by rw [hl]; exact z1) fun he15 => T _ _ _ _ _ _ (hs13.trans (hu14.trans hu15)) h (by omega) (he15.le (by omega))
      ·exact gs_node2 h (heL.mono (hs13.trans hu14)) he14 z1 fun x15 w15 u15 hu15 h he15 => T _ _ _ _ _ _ (hs13.trans (hu14.trans hu15)) h (by omega) (he15.le (by omega))
     ·exact gs_nodeL h hx hc hn (by rw [hl]; exact z1) fun he14 => gs_node2 h (heL.mono (hs13.trans hu14)) he14 z1 fun x15 w15 u15 hu15 h he15 => T _ _ _ _ _ _ (hs13.trans (hu14.trans hu15)) h (by omega) (he15.le (by omega))
    ·exact gs_node2 h he13 (heR.mono (hs13)) z1 fun x14 w14 u14 hu14 h he14 => gs_node2 h (heL.mono ((hs13).trans hu14)) he14 z1 fun x15 w15 u15 hu15 h he15 => T _ _ _ _ _ _ ((hs13).trans (hu14.trans hu15)) h (by omega) (he15.le (by omega))
   ·refine gs_gen (c_gen 4 (by omega)) ((hb.mono hu11).mono hu12).pr (.of hxv) (by simp; omega) (by simp; omega) (by omega) (by omega) (by omega) h fun n1 n2 x13 w13 u13 hu13 h he13 => ?_
    have hs13 := (hu11.trans hu12).trans hu13
    exact gs_node2 h he13 (heR.mono (hs13)) z1 fun x14 w14 u14 hu14 h he14 => gs_node2 h (heL.mono ((hs13).trans hu14)) he14 z1 fun x15 w15 u15 hu15 h he15 => T _ _ _ _ _ _ ((hs13).trans (hu14.trans hu15)) h (by omega) (he15.le (by omega))
  ·refine gs_extend (hb.mono hu11).rg hxt (by simp; omega) h fun xv w12 u12 hu12 hs12 h hxv => ⟨hs12, ?_⟩
   refine gs_gen (c_gen 4 (by omega)) ((hb.mono hu11).mono hu12).pr (.of hxv) (by simp; omega) (by simp; omega) (by omega) (by omega) (by omega) h fun n1 n2 x13 w13 u13 hu13 h he13 => ?_
   have hs13 := (hu11.trans hu12).trans hu13
   exact gs_node2 h he13 (heR.mono (hs13)) z1 fun x14 w14 u14 hu14 h he14 => gs_node2 h (heL.mono ((hs13).trans hu14)) he14 z1 fun x15 w15 u15 hu15 h he15 => T _ _ _ _ _ _ ((hs13).trans (hu14.trans hu15)) h (by omega) (he15.le (by omega))
 ·refine gs_ints h (by (repeat' (first | exact VsOf.nil | apply VsOf.cons | (apply VOf.int; first | assumption | (constructor <;> first | omega | (simp only [List.length_set, List.length_append, List.length_replicate, List.length_cons, List.length_nil, List.length_take, List.length_drop, List.length_map, List.length_singleton] at *; omega))) | exact VOf.bool | exact VOf.str))) rfl (by decide) fun xt w11 u11 hu11 hs11 h hxt => ⟨hs11, ?_⟩
  refine gs_extend (hb.mono hu11).rg hxt (by simp; omega) h fun xv w12 u12 hu12 hs12 h hxv => ⟨hs12, ?_⟩
  refine gs_gen (c_gen 4 (by omega)) ((hb.mono hu11).mono hu12).pr (.of hxv) (by simp; omega) (by simp; omega) (by omega) (by omega) (by omega) h fun n1 n2 x13 w13 u13 hu13 h he13 => ?_
  have hs13 := (hu11.trans hu12).trans hu13
  exact gs_node2 h he13 (heR.mono (hs13)) z1 fun x14 w14 u14 hu14 h he14 => gs_node2 h (heL.mono ((hs13).trans hu14)) he14 z1 fun x15 w15 u15 hu15 h he15 => T _ _ _ _ _ _ ((hs13).trans (hu14.trans hu15)) h (by omega) (he15.le (by omega))
end
end Go.Vc

namespace Go.Vc
open Go Go.Proofs Go.RowKit
set_option linter.all false
def idxG (ad : List Int) (x : Int) : Int := if x ∈ ad then (ad.idxOf x : Int) else -1
section
variable {C : CxE} {u u' u0 v w : World} {x y z s tx x1 x2 x3 : Sl} {ds : List DeclD} {fs : List FunD} {a : Addr} {I J L R : Items} {F : Items → Items} {m m' N N' N1 N2 N3 n n1 n2 k1 k2 l1 l2 op num t b f at_ : Int} {l vars types : List Int} {ks : List ExprD} {e : ExprD}
theorem idxG_lt : idxG l n < l.length := by
 unfold idxG
 split
 ·rename_i h
  have := List.idxOf_lt_length_iff.2 h
  omega
 ·omega
theorem c_placeInG (hx : Read v x l) : Fn Try.prog 77 #[x.val, .int .i64 n] v (.int .i64 (idxG l n)) := by
 refine of77 _ _ _ _ ?_
 unfold vc77
 have hn := hx.n
 have hl := hx.le
 refine ⟨fun i w => Sub v w ∧ 0 ≤ i ∧ i ≤ l.length ∧ n ∉ l.take i.toNat, fun i _ => (l.length - i).toNat, ⟨.refl v, by omega, by omega, by simp⟩, ?_⟩
 rintro i w ⟨hs, h0, h1, h2⟩
 dsimp only
 refine ⟨fun hi => ?_, fun hi => ?_⟩
 ·simp only [bls] at hi
  refine go_ix hx h0 (by omega) ?_
  refine ld_int (hx.mono hs) h0 (by omega) ?_
  intro b0 b1
  refine ⟨fun hc => ?_, fun hc => ?_⟩
  ·simp only [bls] at hc
   refine ⟨?_, hs⟩
   have hm : n ∈ l := by rw [← hc]; exact nth_mem h0 (by omega)
   have : l.idxOf n = i.toNat := by
    have e : l = l.take i.toNat ++ n :: l.drop (i.toNat + 1) := by
     have hlt : i.toNat < l.length := by omega
     conv => lhs; rw [← List.take_append_drop i.toNat l, List.drop_eq_getElem_cons hlt]
     rw [nth_of (a := l[i.toNat]) (by simp [List.getElem?_eq_getElem hlt])] at hc
     rw [hc]
    rw [e, List.idxOf_append, if_neg h2, List.idxOf_cons_self, List.length_take]
    omega
   unfold idxG
   rw [if_pos hm, this]
   congr 1
   omega
  ·simp only [bls] at hc
   refine go_wr (by omega) (by omega) ?_
   refine ⟨⟨hs, by omega, by omega, ?_⟩, by omega⟩
   rw [take_nth h0 (by omega)]
   simp only [List.mem_append, List.mem_singleton, not_or]
   exact ⟨h2, fun e => hc e.symm⟩
 ·simp only [bls] at hi
  rw [take_all (by omega)] at h2
  refine ⟨?_, hs⟩
  unfold idxG
  rw [if_neg h2]
theorem c_literal (hm : m + 100 ≤ 999900000) (h : GS u a R m w) : Trip Try.prog 86 #[.pointer (some (a.add 0)), .int .i64 t] w (GX C u a R (m + 50) 50) := by
 refine of86 _ _ _ _ ?_
 unfold vc86
 refine gs_kids (ks := []) h VsOf.nil rfl (by decide) fun x1 w1 u1 hu1 hs1 h hx1 => ?_
 refine gs_nodeL (C := C) (N1 := 0) h hx1 cL_nil (by rw [nodesL_nil]; omega) (ok_con (by omega) (by omega)) fun he1 => ?_
 refine ⟨fun hc => ?_, fun hc => ?_⟩
 ·refine gs_kids (ks := []) h VsOf.nil rfl (by decide) fun x2 w2 u2 hu2 hs2 h hx2 => ?_
  refine gs_nodeL (C := C) (N1 := 0) h hx2 cL_nil (by rw [nodesL_nil]; omega) (ok_con (by omega) (by omega)) fun he2 => ?_
  have z3 : okS C 6 3 3 := ok_con (by omega) (by omega)
  have hU := hu1.trans hu2
  have tail : ∀ (n51 n52 : Int) (x53 : Sl) (w50 u3 : World), Sub u2 u3 → GS u3 a R (m + 1) w50 → EV C u3 10 n51 n52 x53 →
    Trip Try.prog 12 #[.pointer (some (a.add 0)), .int .i64 9] w50 fun r54 w55 =>
     ∃ n56 : Int, r54 = .int .i64 n56 ∧
     Trip Try.prog 34 #[.int .i64 n56] w55 fun r57 w58 =>
      ∃ n59 : Int, ∃ n60 : Int, ∃ x61 : Sl, r57 = .agg #[.int .i64 n59, .int .i64 n60, x61.val] ∧
      StepT Try.prog (Instr.buildSlice 28 3 #[(0, (.agg #[.int .i64 n51, .int .i64 n52, x53.val])), (1, (.agg #[.int .i64 n59, .int .i64 n60, x61.val])), (2, (.agg #[.int .i64 6, .int .i64 2, x2.val]))]) w58 fun r62 w63 =>
       ∃ x64 : Sl, r62 = x64.val ∧
       Trip Try.prog 33 #[.int .i64 6, .int .i64 3, x64.val] w63 fun r65 w66 =>
        ∃ n67 : Int, ∃ n68 : Int, ∃ x69 : Sl, r65 = .agg #[.int .i64 n67, .int .i64 n68, x69.val] ∧
        GX C u a R (m + 50) 50 (.agg #[.int .i64 n67, .int .i64 n68, x69.val]) w66 := by
   intro n51 n52 x53 w50 u3 hu3 h he
   refine gs_pick h (by omega) (by omega) (by omega) fun j w4 h j0 j1 _ => ?_
   refine gs_int (C := C) h (by omega) (by omega) fun n1 n2 x5 w5 u5 hu5 hs5 h he5 => ?_
   refine gs_node3 h (he.mono hu5) he5 (he2.mono (hu3.trans hu5)) z3 fun x6 w6 u6 hu6 h he6 => ?_
   exact gx (hU.trans (hu3.trans (hu5.trans hu6))) h he6 (by omega) (by omega)
  refine ⟨?_, ?_⟩
  ·refine gs_pick h (by omega) (by omega) (by omega) fun j w3 h j0 j1 _ => ⟨?_, ?_⟩
   ·refine gs_int (C := C) h (by omega) (by omega) fun n1 n2 x4 w4 u4 hu4 hs4 h he4 => ⟨?_, ?_⟩
    ·refine gs_kids3 h (he2.mono hu4) he4 (he2.mono hu4) fun x5 w5 u5 ks hu5 hs5 h hx hc hn hl => ⟨?_, ?_⟩
     ·exact gs_nodeL h hx hc hn (by rw [hl]; exact z3) fun he5 => tail _ _ _ _ _ (hu4.trans hu5) h (he5.le (by omega))
     ·exact gs_nodeL h hx hc hn (by rw [hl]; exact z3) fun he5 => tail _ _ _ _ _ (hu4.trans hu5) h (he5.le (by omega))
    ·exact gs_node3 h (he2.mono hu4) he4 (he2.mono hu4) z3 fun x5 w5 u5 hu5 h he5 => tail _ _ _ _ _ (hu4.trans hu5) h (he5.le (by omega))
   ·refine gs_int (C := C) h (by omega) (by omega) fun n1 n2 x4 w4 u4 hu4 hs4 h he4 => ?_
    exact gs_node3 h (he2.mono hu4) he4 (he2.mono hu4) z3 fun x5 w5 u5 hu5 h he5 => tail _ _ _ _ _ (hu4.trans hu5) h (he5.le (by omega))
  ·refine gs_pick h (by omega) (by omega) (by omega) fun j w3 h j0 j1 _ => ?_
   refine gs_int (C := C) h (by omega) (by omega) fun n1 n2 x4 w4 u4 hu4 hs4 h he4 => ?_
   exact gs_node3 h (he2.mono hu4) he4 (he2.mono hu4) z3 fun x5 w5 u5 hu5 h he5 => tail _ _ _ _ _ (hu4.trans hu5) h (he5.le (by omega))
 ·refine gs_pick h (by omega) (by omega) (by omega) fun j w2 h j0 j1 _ => ?_
  refine go_wr (by omega) (by omega) ?_
  refine ⟨fun k n1 n2 s w => ∃ u3, Sub u u3 ∧ GS u3 a R (m + 20 - 4 * k) w ∧ EV C u3 (20 - 4 * k) n1 n2 s ∧ 0 ≤ k ∧ k ≤ 3, fun k _ _ _ _ => k.toNat, ⟨u1, hu1, h.le (by omega), he1.le (by omega), by omega, by omega⟩, ?_⟩
  clear h
  rintro k n1 n2 s w3 ⟨u3, hu3, h, he, k0, k1⟩
  dsimp only
  refine ⟨fun hk => ?_, fun hk => gx hu3 h he (by omega) (by omega)⟩
  simp only [bls] at hk
  refine gs_someInt h (by omega) fun j w4 u4 hu4 h j0 j1 => ?_
  refine gs_int (C := C) h j0 j1 fun n3 n4 x5 w5 u5 hu5 hs5 h he5 => ?_
  refine gs_node2 h he5 (he.mono (hu4.trans hu5)) (ok_con (by omega) (by omega)) fun x6 w6 u6 hu6 h he6 => ?_
  refine go_wr (by omega) (by omega) ?_
  exact ⟨rfl, rfl, rfl, rfl, rfl, rfl, ⟨u6, hu3.trans (hu4.trans (hu5.trans hu6)), h.le (by omega), he6.le (by omega), by omega, by omega⟩, by omega⟩
theorem c_mainBody (hp : PrgG u R x y ds fs) (hm : m + 50000 ≤ 999900000) (h : GS u a R m w) : Trip Try.prog 78 #[.pointer (some (a.add 0)), .agg #[x.val, y.val]] w (GX (Cv ds fs []) u a R (m + 5000) 5000) := by
 refine of78 _ _ _ _ _ ?_
 unfold vc78
 have hP := Pg_mono (b := 16) (by omega)
 refine gs_ints h (by (repeat' (first | exact VsOf.nil | apply VsOf.cons | (apply VOf.int; first | assumption | (constructor <;> first | omega | (simp only [List.length_set, List.length_append, List.length_replicate, List.length_cons, List.length_nil, List.length_take, List.length_drop, List.length_map, List.length_singleton] at *; omega))) | exact VOf.bool | exact VOf.str))) rfl (by decide) fun x1 w1 u1 hu1 hs1 h hx1 => ?_
 refine gs_one h hx1 (by omega) (by simp) (by simp) fun j w2 h hj => ?_
 have hj4 : 0 ≤ j ∧ j ≤ 4 := by simp only [List.mem_cons, List.not_mem_nil, or_false] at hj; omega
 refine gs_ints h (by (repeat' (first | exact VsOf.nil | apply VsOf.cons | (apply VOf.int; first | assumption | (constructor <;> first | omega | (simp only [List.length_set, List.length_append, List.length_replicate, List.length_cons, List.length_nil, List.length_take, List.length_drop, List.length_map, List.length_singleton] at *; omega))) | exact VOf.bool | exact VOf.str))) rfl (by decide) fun x3 w3 u3 hu3 hs3 h hx3 => ?_
 refine gs_gen (c_gen 16 (by omega)) ((hp.mono hu1).mono hu3) (.of hx3) (by simp) (by simp) (by omega) (by omega) (by omega) h fun n1 n2 x4 w4 u4 hu4 h he4 => ?_
 have hU := (hu1.trans hu3).trans hu4
 refine gs_pick h (by omega) (by omega) (by omega) fun k w5 h k0 k1 _ => ⟨fun hc => ?_, fun hc => ?_⟩
 ·refine gs_node1 h he4 (ok_zero (by omega) (by omega)) fun x6 w6 u6 hu6 h he6 => ?_
  refine use_x (c_literal (C := Cv ds fs []) (by omega) h) fun n3 n4 x7 w7 u7 hu7 h he7 => ?_
  refine gs_let h he7 (he6.mono hu7) rfl rfl (Nat.le_refl _) fun x8 w8 u8 hu8 h he8 => ?_
  exact gx (hU.trans (hu6.trans (hu7.trans hu8))) h he8 (by omega) (by omega)
 ·refine use_x (c_literal (C := Cv ds fs []) (by omega) h) fun n3 n4 x7 w7 u7 hu7 h he7 => ?_
  refine gs_let h he7 (he4.mono hu7) rfl rfl (Nat.le_refl _) fun x8 w8 u8 hu8 h he8 => ?_
  exact gx (hU.trans (hu7.trans hu8)) h he8 (by omega) (by omega)
theorem gs_own1 (h : GS u a R m w) (h1 : EV C u N1 n1 n2 x1) {K : Sl → World → Prop} (k : ∀ x w' J ks, GS u a (J ++ R) m w' → Own u x ks J → cL C ks → (nodesL ks : Int) ≤ N1 → ks.length = 1 → K x w') :
  StepT Try.prog (Instr.buildSlice 28 1 #[(0, (.agg #[.int .i64 n1, .int .i64 n2, x1.val]))]) w fun r w1 => ∃ x : Sl, r = x.val ∧ K x w1 := by
 obtain ⟨e1, rfl, rfl, r1, c1, g1⟩ := h1
 obtain ⟨I1, hR1, hS1⟩ := h
 refine St.build (α := ExprD) hS1 (VsOf.cons (vof r1 c1.1) VsOf.nil) rfl (by decide) fun x5 w5 J5 hO5 hS5 hs5 => ⟨x5, rfl, ?_⟩
 exact k x5 w5 J5 _ ⟨I1, hR1, hS5.to⟩ hO5 (cL_cons c1 cL_nil) (by rw [nodesL_cons, nodesL_nil]; omega) rfl
theorem c_downFrom (hp : PrgG u R x y ds fs) (f0 : 0 ≤ f) (f1 : f < fs.length) (hpos : (0 : Int) < (nth fs f).params.length) (hm : m + 50000 ≤ 999900000) (h : GS u a R m w) :
  Trip Try.prog 81 #[.pointer (some (a.add 0)), .agg #[x.val, y.val], .int .i64 f] w (GX (Cv ds fs (nth fs f).params) u a R (m + 5000) 5000) := by
 refine of81 _ _ _ _ _ _ ?_
 unfold vc81
 obtain ⟨g, e1, _, hb⟩ := BdG.of hp h f0 f1
 have hgn := hb.rg.n
 have hpl := hb.pl
 have hfl := hp.gf.2.1
 have hP4 := Pg_at (b := 4) (by omega)
 have hP3 := Pg_at (b := 3) (by omega)
 have hr0 := hb.r0
 have hr1 := hb.r1
 refine ⟨hb.ix h, g, e1, ?_⟩
 refine gs_var (C := (Cv ds fs (nth fs f).params)) h (by omega) (by omega) hpos fun n1 n2 x2 w2 u2 hu2 hs2 h he2 => ?_
 refine gs_int (C := (Cv ds fs (nth fs f).params)) h (by omega) (by omega) fun n3 n4 x3 w3 u3 hu3 hs3 h he3 => ?_
 refine gs_node2 h (he2.mono hu3) he3 (ok_zero (by omega) (by omega)) fun x4 w4 u4 hu4 h he4 => ?_
 have hU4 := hu2.trans (hu3.trans hu4)
 refine gs_own1 h he4 fun x5 w5 J5 ks5 h hO5 hc5 hn5 hl5 => ?_
 refine ⟨fun s i w => ∃ (u8 : World) (J : Items) (ks : List ExprD), Sub u u8 ∧ GS u8 a (J ++ R) (m + 25 * i) w ∧ Own u8 s ks J ∧ cL (Cv ds fs (nth fs f).params) ks ∧ (nodesL ks : Int) ≤ 4 * i ∧ (ks.length : Int) = i ∧ 1 ≤ i ∧ i ≤ 4, fun _ i _ => (4 - i).toNat, ⟨u4, J5, ks5, hU4, h.le (by omega), hO5, hc5, by omega, by omega, by omega, by omega⟩, ?_⟩
 clear h hO5
 rintro s i w8 ⟨u8, J, ks, hu8, h, hO, hck, hnk, hlk, i0, i1⟩
 have hb8 := hb.mono hu8
 dsimp only
 refine ⟨fun hi => ?_, fun hi => ?_⟩
 ·simp only [bls] at hi
  have htt := nn_types hb.pt (i := i) (by omega) (by omega)
  refine go_ix hb8.rg (by omega) (by omega) ?_
  refine ⟨_, ((hb8.rg.mono h.sub).int (by omega) (by omega)).1, ?_⟩
  refine gs_leaf (hb8.app J).pr (.of hb8.rg) (by omega) htt.1 htt.2 (by omega) h fun n5 n6 x9 w9 u9 hu9 h he9 => ?_
  obtain ⟨e9, rfl, rfl, r9, c9, g9⟩ := he9
  refine gs_push h (hO.mono hu9) r9 c9 (by omega) fun x10 w10 J10 h hO10 => ?_
  refine go_wr (by omega) (by omega) ?_
  exact ⟨rfl, rfl, rfl, rfl, rfl, ⟨u9, J10, _, hu8.trans hu9, h.le (by omega), hO10, cL_snoc hck c9, by rw [nodesL_snoc]; omega, by simp; omega, by omega, by omega⟩, by omega⟩
 simp only [bls] at hi
 obtain ⟨u9, hu9, h, hJ⟩ := h.freeze
 have hU := hu8.trans hu9
 replace hb := hb.mono hU
 refine gs_nodeL h (hO.read1 hJ) hck hnk (ok_call f0 (by omega) f1) fun heA => ?_
 have h := h.le (m' := m + 100) (by omega)
 have heA := heA.le (N' := 17) (by omega)
 refine ⟨hb.ix h, _, hb.res h, ?_⟩
 -- the test, and the end
 have tail : ∀ (n57 n58 : Int) (x59 : Sl) (w56 u3 : World) (m3 : Int), Sub u9 u3 → GS u3 a R m3 w56 → m3 ≤ m + 2000 → EV (Cv ds fs (nth fs f).params) u3 1000 n57 n58 x59 →
   Trip Try.prog 34 #[.int .i64 0] w56 fun r60 w61 =>
    ∃ n62 : Int, ∃ n63 : Int, ∃ x64 : Sl, r60 = .agg #[.int .i64 n62, .int .i64 n63, x64.val] ∧
    Trip Try.prog 35 #[.int .i64 0] w61 fun r65 w66 =>
     ∃ n67 : Int, ∃ n68 : Int, ∃ x69 : Sl, r65 = .agg #[.int .i64 n67, .int .i64 n68, x69.val] ∧
     StepT Try.prog (Instr.buildSlice 28 2 #[(0, (.agg #[.int .i64 n62, .int .i64 n63, x64.val])), (1, (.agg #[.int .i64 n67, .int .i64 n68, x69.val]))]) w66 fun r70 w71 =>
      ∃ x72 : Sl, r70 = x72.val ∧
      Trip Try.prog 33 #[.int .i64 4, .int .i64 0, x72.val] w71 fun r73 w74 =>
       ∃ n75 : Int, ∃ n76 : Int, ∃ x77 : Sl, r73 = .agg #[.int .i64 n75, .int .i64 n76, x77.val] ∧
       IxOk y f ∧
       ∃ n78 : Int, w74.cell? ((elA y f 5).add 1) = some (.int .i64 n78) ∧
       Trip Try.prog 31 #[.pointer (some (a.add 0)), .agg #[x.val, y.val], g.val, .int .i64 n78, .int .i64 4] w74 fun r79 w80 =>
        ∃ n81 : Int, ∃ n82 : Int, ∃ x83 : Sl, r79 = .agg #[.int .i64 n81, .int .i64 n82, x83.val] ∧
        StepT Try.prog (Instr.buildSlice 28 3 #[(0, (.agg #[.int .i64 n75, .int .i64 n76, x77.val])), (1, (.agg #[.int .i64 n57, .int .i64 n58, x59.val])), (2, (.agg #[.int .i64 n81, .int .i64 n82, x83.val]))]) w80 fun r84 w85 =>
         ∃ x86 : Sl, r84 = x86.val ∧
         Trip Try.prog 33 #[.int .i64 7, .int .i64 0, x86.val] w85 fun r87 w88 =>
          ∃ n89 : Int, ∃ n90 : Int, ∃ x91 : Sl, r87 = .agg #[.int .i64 n89, .int .i64 n90, x91.val] ∧
          GX (Cv ds fs (nth fs f).params) u a R (m + 5000) 5000 (.agg #[.int .i64 n89, .int .i64 n90, x91.val]) w88 := by
  intro n57 n58 x59 w56 u3 m3 hs3 h hm3 he
  refine gs_int (C := (Cv ds fs (nth fs f).params)) h (by omega) (by omega) fun n1 n2 x4 w4 u4 hu4 hs4 h he4 => ?_
  refine gs_var (C := (Cv ds fs (nth fs f).params)) h (by omega) (by omega) hpos fun n3 n4 x5 w5 u5 hu5 hs5 h he5 => ?_
  refine gs_node2 h (he4.mono hu5) he5 (ok_zero (by omega) (by omega)) fun x6 w6 u6 hu6 h he6 => ?_
  have hs6 := hs3.trans (hu4.trans (hu5.trans hu6))
  have hb6 := hb.mono hs6
  refine ⟨hb6.ix h, _, hb6.res h, ?_⟩
  refine gs_gen (c_gen 4 (by omega)) hb6.pr (.of hb6.rg) (by omega) (by omega) hr0 hr1 (by omega) h fun n5 n6 x7 w7 u7 hu7 h he7 => ?_
  refine gs_node3 h (he6.mono hu7) (he.mono ((hu4.trans (hu5.trans hu6)).trans hu7)) he7 (ok_zero (by omega) (by omega)) fun x8 w8 u8 hu8 h he8 => ?_
  exact gx (hU.trans (hs6.trans (hu7.trans hu8))) h he8 (by omega) (by omega)
 refine ⟨fun hc => ?_, fun hc => ?_⟩
 case refine_2 => exact tail 9 f s w8 u9 _ (.refl _) h (by omega) (heA.le (by omega))
 refine gs_gen (c_gen 3 (by omega)) hb.pr (.of hb.rg) (by omega) (by omega) (by omega) (by omega) (by omega) h fun n5 n6 x7 w7 u7 hu7 h he7 => ?_
 refine gs_node2 h he7 (heA.mono hu7) (ok_con (by omega) (by omega)) fun x8 w8 u8 hu8 h he8 => ?_
 exact tail _ _ _ _ _ _ (hu7.trans hu8) h (by omega) (he8.le (by omega))
end
end Go.Vc

namespace Go.Vc
open Go Go.Proofs Go.RowKit
set_option linter.all false
section
variable {C : CxE} {u u' u0 v w : World} {x y z s tx x1 x2 x3 : Sl} {ds : List DeclD} {fs : List FunD} {a : Addr} {I J L R : Items} {F : Items → Items} {m m' N N' N1 N2 N3 n n1 n2 k1 k2 l1 l2 op num t b f at_ : Int} {l vars types : List Int} {ks : List ExprD} {e : ExprD}
theorem EV.wide {C' : CxE} (h : EV C u N n1 n2 x) (h1 : C.ds = C'.ds) (h2 : C.nf = C'.nf) (h3 : C.V ≤ C'.V) : EV C' u N n1 n2 x := let ⟨e, p1, p2, p3, p4, p5⟩ := h; ⟨e, p1, p2, p3, p4.le h1 h2 h3, p5⟩
theorem gs_pushE (h : GS u a (J ++ R) m w) (hO : Own u x ks J) (h1 : EV C u N1 n1 n2 s) (hc : cL C ks) (hb : ks.length + 1 ≤ 1000000) {K : Sl → World → Prop} (k : ∀ x' w' J' ks', GS u a (J' ++ R) m w' → Own u x' ks' J' → cL C ks' → (nodesL ks' : Int) ≤ nodesL ks + N1 → ks'.length = ks.length + 1 → K x' w') :
  StepT Try.prog (Instr.buildSlice 28 1 #[(0, (.agg #[.int .i64 n1, .int .i64 n2, s.val]))]) w fun r1 w1 => ∃ z : Sl, r1 = z.val ∧ StepT Try.prog (Builtin.append_ #[28, 28] 28 #[(x.val), (z.val)]) w1 fun r2 w2 => ∃ x' : Sl, r2 = x'.val ∧ K x' w2 := by
 obtain ⟨e1, rfl, rfl, r1, c1, g1⟩ := h1
 refine gs_push h hO r1 c1 hb fun x' w' J' h hO => k x' w' J' _ h hO (cL_snoc hc c1) (by rw [nodesL_snoc]; omega) (by simp)
theorem c_overList (hp : PrgG u R x y ds fs) (f0 : 0 ≤ f) (f1 : f < fs.length) (a0 : 0 ≤ at_) (a1 : at_ < (nth fs f).params.length) (hm : m + 50000 ≤ 999900000) (h : GS u a R m w) :
  Trip Try.prog 79 #[.pointer (some (a.add 0)), .agg #[x.val, y.val], .int .i64 f, .int .i64 at_] w (GX (Cv ds fs (nth fs f).params) u a R (m + 5000) 5000) := by
 refine of79 _ _ _ _ _ _ _ ?_
 unfold vc79
 obtain ⟨g, e1, _, hb⟩ := BdG.of hp h f0 f1
 have hgn := hb.rg.n
 have hpl := hb.pl
 have hfl := hp.gf.2.1
 have hP4 := Pg_at (b := 4) (by omega)
 have hr0 := hb.r0
 have hr1 := hb.r1
 refine ⟨hb.ix h, g, e1, ?_⟩
 refine gs_ints h (by (repeat' (first | exact VsOf.nil | apply VsOf.cons | (apply VOf.int; first | assumption | (constructor <;> first | omega | (simp only [List.length_set, List.length_append, List.length_replicate, List.length_cons, List.length_nil, List.length_take, List.length_drop, List.length_map, List.length_singleton] at *; omega))) | exact VOf.bool | exact VOf.str))) rfl (by decide) fun xt w1 u1 hu1 hs1 h hxt => ?_
 refine gs_extend (hb.mono hu1).rg hxt (by simp; omega) h fun xv w2 u2 hu2 hs2 h hxv => ?_
 refine gs_kids0 h fun x3 w3 J3 h hs3 hO => ?_
 have hvl : ((nth fs f).params ++ [0, 1]).length ≤ 5 := by simp; omega
 refine ⟨fun s i w => ∃ (u8 : World) (J : Items) (ks : List ExprD), Sub u2 u8 ∧ GS u8 a (J ++ R) (m + i) w ∧ Own u8 s ks J ∧ cL (Cv ds fs ((nth fs f).params ++ [0, 1])) ks ∧ (nodesL ks : Int) ≤ 3 * i ∧ (ks.length : Int) = i ∧ 0 ≤ i ∧ i ≤ 3, fun _ i _ => (3 - i).toNat, ⟨u2, J3, [], .refl _, h.le (by omega), hO, cL_nil, by rw [nodesL_nil]; omega, rfl, by omega, by omega⟩, ?_⟩
 clear h hO
 rintro s i w8 ⟨u8, J, ks, hu8, h, hO, hck, hnk, hlk, i0, i1⟩
 have hb8 := ((hb.mono hu1).mono hu2).mono hu8
 dsimp only
 refine ⟨fun hi => ?_, fun hi => ?_⟩
 ·simp only [bls] at hi
  refine ⟨fun hc => ?_, fun hc => ?_⟩
  ·refine go_wr (by omega) (by omega) ?_
   refine gs_var (C := (Cv ds fs ((nth fs f).params ++ [0, 1]))) h (by omega) (by omega) (by simp; omega) fun n5 n6 x9 w9 u9 hu9 hs9 h he9 => ?_
   refine gs_pushE h (hO.mono hu9) he9 hck (by omega) fun x10 w10 J10 ks10 h hO10 hc10 hn10 hl10 => ?_
   refine go_wr (by omega) (by omega) ?_
   exact ⟨rfl, rfl, rfl, rfl, rfl, ⟨u9, J10, ks10, hu8.trans hu9, h.le (by omega), hO10, hc10, by omega, by omega, by omega, by omega⟩, by omega⟩
  ·refine go_ix hb8.rg i0 (by omega) ?_
   refine ⟨_, ((hb8.rg.mono h.sub).int i0 (by omega)).1, fun hc2 => ?_, fun hc2 => ?_⟩
   ·refine gs_pick h (by omega) (by omega) (by omega) fun j w9 h _ _ _ => ⟨fun hc3 => ?_, fun hc3 => ?_⟩
    ·refine gs_var (C := (Cv ds fs ((nth fs f).params ++ [0, 1]))) h (by omega) (by omega) (by simp; omega) fun n5 n6 x9 w9 u9 hu9 hs9 h he9 => ?_
     refine gs_var (C := (Cv ds fs ((nth fs f).params ++ [0, 1]))) h (by omega) (by omega) (by simp; omega) fun n7 n8 x10 w10 u10 hu10 hs10 h he10 => ?_
     refine gs_node2 h (he9.mono hu10) he10 (ok_zero (by omega) (by omega)) fun x11 w11 u11 hu11 h he11 => ?_
     refine gs_pushE h (((hO.mono hu9).mono hu10).mono hu11) he11 hck (by omega) fun x12 w12 J12 ks12 h hO12 hc12 hn12 hl12 => ?_
     refine go_wr (by omega) (by omega) ?_
     exact ⟨rfl, rfl, rfl, rfl, rfl, ⟨u11, J12, ks12, ((hu8.trans hu9).trans hu10).trans hu11, h.le (by omega), hO12, hc12, by omega, by omega, by omega, by omega⟩, by omega⟩
    ·refine gs_var (C := (Cv ds fs ((nth fs f).params ++ [0, 1]))) h (by omega) (by omega) (by simp; omega) fun n5 n6 x9 w9 u9 hu9 hs9 h he9 => ?_
     refine gs_pushE h (hO.mono hu9) he9 hck (by omega) fun x10 w10 J10 ks10 h hO10 hc10 hn10 hl10 => ?_
     refine go_wr (by omega) (by omega) ?_
     exact ⟨rfl, rfl, rfl, rfl, rfl, ⟨u9, J10, ks10, hu8.trans hu9, h.le (by omega), hO10, hc10, by omega, by omega, by omega, by omega⟩, by omega⟩
   ·refine gs_var (C := (Cv ds fs ((nth fs f).params ++ [0, 1]))) h (by omega) (by omega) (by simp; omega) fun n5 n6 x9 w9 u9 hu9 hs9 h he9 => ?_
    refine gs_pushE h (hO.mono hu9) he9 hck (by omega) fun x10 w10 J10 ks10 h hO10 hc10 hn10 hl10 => ?_
    refine go_wr (by omega) (by omega) ?_
    exact ⟨rfl, rfl, rfl, rfl, rfl, ⟨u9, J10, ks10, hu8.trans hu9, h.le (by omega), hO10, hc10, by omega, by omega, by omega, by omega⟩, by omega⟩
 simp only [bls] at hi
 obtain ⟨u9, hu9, h, hJ⟩ := h.freeze
 have hU2 := hu1.trans hu2
 have hU := hU2.trans (hu8.trans hu9)
 replace hb := hb.mono hU
 have hxv := hxv.mono (hu8.trans hu9)
 refine gs_nodeL h (hO.read1 hJ) hck hnk (ok_call f0 (by omega) f1) fun heA => ?_
 have h := h.le (m' := m + 100) (by omega)
 have heA := heA.le (N' := 20) (by omega)
 clear hO hJ
 refine ⟨fun n1 n2 s w => ∃ u3, Sub u9 u3 ∧ GS u3 a R (m + 1500) w ∧ EV (Cv ds fs ((nth fs f).params ++ [0, 1])) u3 1500 n1 n2 s, ⟨fun _ w => ∃ u3, Sub u9 u3 ∧ GS u3 a R (m + 200) w, ⟨hb.ix h, _, hb.res h, fun hc => ?_, fun hc => ⟨rfl, rfl, rfl, rfl, rfl, rfl, rfl, rfl, rfl, rfl, rfl, u9, .refl _, h.le (by omega)⟩⟩, ?_⟩, ?_⟩
 ·exact gs_pick h (by omega) (by omega) (by omega) fun j w10 h _ _ _ => ⟨rfl, rfl, rfl, rfl, rfl, rfl, rfl, rfl, rfl, rfl, rfl, u9, .refl _, h.le (by omega)⟩
 ·rintro q w10 ⟨u10, hu10, h⟩
  have hb10 := hb.mono hu10
  refine ⟨fun hq => ?_, fun hq => ⟨hb10.ix h, _, hb10.res h, fun hc => ?_, fun hc => ⟨rfl, rfl, rfl, rfl, rfl, rfl, rfl, rfl, u10, hu10, h.le (by omega), (heA.mono hu10).le (by omega)⟩⟩⟩
  ·refine gs_gen (c_gen 4 (by omega)) hb10.pr (.of (hxv.mono hu10)) (by omega) (by omega) (by omega) (by omega) (by omega) h fun n5 n6 x11 w11 u11 hu11 h he11 => ?_
   have hb11 := hb10.mono hu11
   have hA11 := (heA.mono hu10).mono hu11
   refine ⟨fun hc => hb11.rg.ix (by omega) (by simp only [bls] at hc; omega), nth (nth fs f).params 0, fun hc => ((hb11.rg.mono h.sub).int (by omega) (by simp only [bls] at hc; omega)).1, fun hc => ?_, fun hc => ?_⟩
   ·refine gs_var (C := (Cv ds fs ((nth fs f).params ++ [0, 1]))) h (by omega) (by omega) (by simp; omega) fun n7 n8 x12 w12 u12 hu12 hs12 h he12 => ?_
    refine gs_var (C := (Cv ds fs ((nth fs f).params ++ [0, 1]))) h (by omega) (by omega) (by simp; omega) fun n9 n10 x13 w13 u13 hu13 hs13 h he13 => ?_
    refine gs_node2 h (he12.mono hu13) he13 (ok_zero (by omega) (by omega)) fun x14 w14 u14 hu14 h he14 => ?_
    refine gs_node2 h he14 (hA11.mono ((hu12.trans hu13).trans hu14)) (ok_con (by omega) (by omega)) fun x15 w15 u15 hu15 h he15 => ?_
    exact ⟨rfl, rfl, rfl, rfl, rfl, rfl, rfl, rfl, u15, ((hu10.trans hu11).trans ((hu12.trans hu13).trans hu14)).trans hu15, h.le (by omega), he15.le (by omega)⟩
   ·refine gs_node2 h he11 hA11 (ok_con (by omega) (by omega)) fun x15 w15 u15 hu15 h he15 => ?_
    exact ⟨rfl, rfl, rfl, rfl, rfl, rfl, rfl, rfl, u15, (hu10.trans hu11).trans hu15, h.le (by omega), he15.le (by omega)⟩
  ·refine gs_ints h (by (repeat' (first | exact VsOf.nil | apply VsOf.cons | (apply VOf.int; first | assumption | (constructor <;> first | omega | (simp only [List.length_set, List.length_append, List.length_replicate, List.length_cons, List.length_nil, List.length_take, List.length_drop, List.length_map, List.length_singleton] at *; omega))) | exact VOf.bool | exact VOf.str))) rfl (by decide) fun x11 w11 u11 hu11 hs11 h hx11 => ?_
   refine gs_one h hx11 (by omega) (by simp) (by simp) fun o w12 h ho => ?_
   have hoo : o = 1 ∨ o = 2 := by simp only [List.mem_cons, List.not_mem_nil, or_false] at ho; omega
   refine gs_gen (c_gen 4 (by omega)) (hb10.mono hu11).pr (.of ((hxv.mono hu10).mono hu11)) (by omega) (by omega) (by omega) (by omega) (by omega) h fun n5 n6 x13 w13 u13 hu13 h he13 => ?_
   refine gs_node2 h he13 (heA.mono ((hu10.trans hu11).trans hu13)) (ok_zero (by omega) (by omega)) fun x15 w15 u15 hu15 h he15 => ?_
   exact ⟨rfl, rfl, rfl, rfl, rfl, rfl, rfl, rfl, u15, ((hu10.trans hu11).trans hu13).trans hu15, h.le (by omega), he15.le (by omega)⟩
 rintro n1 n2 xr w10 ⟨u10, hu10, h, her⟩
 have hb10 := hb.mono hu10
 refine ⟨hb10.ix h, _, hb10.res h, ?_⟩
 refine gs_var (C := (Cv ds fs (nth fs f).params)) h a0 (by omega) a1 fun n5 n6 x11 w11 u11 hu11 hs11 h he11 => ⟨hs11, ?_⟩
 refine gs_gen (c_gen 4 (by omega)) (hb10.mono hu11).pr (.of (hb10.mono hu11).rg) (by omega) (by omega) hr0 hr1 (by omega) h fun n7 n8 x12 w12 u12 hu12 h he12 => ?_
 refine gs_match3 (by omega) (by omega) hp.gd.arm1 h (he11.mono hu12) he12 (her.mono (hu11.trans hu12)) rfl rfl (by simp) fun x13 w13 u13 hu13 h he13 => ?_
 exact gx (hU.trans ((hu10.trans hu11).trans (hu12.trans hu13))) h he13 (by omega) (by omega)
theorem c_bodyOf (hp : PrgG u R x y ds fs) (f0 : 0 ≤ f) (f1 : f < fs.length) (hm : m + 200000 ≤ 999900000) (h : GS u a R m w) :
  Trip Try.prog 57 #[.pointer (some (a.add 0)), .agg #[x.val, y.val], .int .i64 f] w (GX (Cv ds fs (nth fs f).params) u a R (m + 100000) 5000) := by
 refine of57 _ _ _ _ _ _ ?_
 unfold vc57
 obtain ⟨g, e1, e2, hb⟩ := BdG.of hp h f0 f1
 have hgn := hb.rg.n
 have hpl := hb.pl
 have hr0 := hb.r0
 have hr1 := hb.r1
 have hil := idxG_lt (l := (nth fs f).params) (n := 1)
 refine ⟨hb.ix h, g, e1, hb.ix h, _, e2, _, c_placeInG (hb.rg.mono h.sub), ?_⟩
 refine gs_int (C := (Cv ds fs (nth fs f).params)) h (by omega) (by omega) fun n1 n2 x1 w1 u1 hu1 hs1 h he1 => ?_
 have hb1 := hb.mono hu1
 refine gs_pick h (by omega) (by omega) (by omega) fun j w2 h _ _ _ => ?_
 refine ⟨fun n1 n2 s w => ∃ u3, Sub u1 u3 ∧ GS u3 a R (m + 44000) w ∧ EV (Cv ds fs (nth fs f).params) u3 5000 n1 n2 s, ⟨fun hc => ?_, fun hc => ⟨fun hc2 => ?_, fun hc2 => ?_⟩⟩, ?_⟩
 ·exact use_x (c_mainBody hb1.pr (by omega) h) fun n5 n6 x3 w3 u3 hu3 h he3 => ⟨rfl, rfl, rfl, rfl, rfl, u3, hu3, h.le (by omega), (he3.le (by omega)).wide rfl rfl (Nat.zero_le _)⟩
 ·simp only [bls] at hc2
  exact use_x (c_overList hb1.pr f0 f1 (by omega) (by omega) (by omega) h) fun n5 n6 x3 w3 u3 hu3 h he3 => ⟨rfl, rfl, rfl, rfl, rfl, u3, hu3, h.le (by omega), he3.le (by omega)⟩
 ·have ix : ∀ q : Bool, (((decide (j < 3)) && (decide ((g.n : Int) > 0))) = true → IxOk g 0) ∧ (((decide (j < 3)) && (decide ((g.n : Int) > 0))) = true → w2.cell? ((elA g 0 1).add 0) = some (.int .i64 (nth (nth fs f).params 0))) := fun _ =>
   ⟨fun hc => hb1.rg.ix (by omega) (by simp only [bls] at hc; omega), fun hc => ((hb1.rg.mono h.sub).int (by omega) (by simp only [bls] at hc; omega)).1⟩
  refine ⟨(ix true).1, _, (ix true).2, fun hc3 => ?_, fun hc3 => ⟨(ix true).1, _, (ix true).2, fun hc4 => ?_, fun hc4 => ?_⟩⟩
  ·exact use_x ((c_overTree hb1.pr f0 f1 (by simp only [bls] at hc3; omega) (by omega) h)) fun n5 n6 x3 w3 u3 hu3 h he3 => ⟨rfl, rfl, rfl, rfl, rfl, u3, hu3, h.le (by omega), he3.le (by omega)⟩
  ·exact use_x ((c_downFrom hb1.pr f0 f1 (by simp only [bls] at hc4; omega) (by omega) h)) fun n5 n6 x3 w3 u3 hu3 h he3 => ⟨rfl, rfl, rfl, rfl, rfl, u3, hu3, h.le (by omega), he3.le (by omega)⟩
  ·exact use_x (c_fitting hb1.pr (.of hb1.rg) (by omega) hr0 hr1 (by omega) (by omega) (by omega) h) fun n5 n6 x3 w3 u3 hu3 h he3 => ⟨rfl, rfl, rfl, rfl, rfl, u3, hu3, h.le (by omega), he3.le (by omega)⟩
 rintro n5 n6 x3 w3 ⟨u3, hu3, h, he⟩
 obtain ⟨q, hq⟩ := he.nodes h.sub
 refine ⟨q, hq, fun hc => ?_, fun hc => gx (hu1.trans hu3) h he (by omega) (by omega)⟩
 refine use_x (c_fitting (hb1.mono hu3).pr (.of (hb1.mono hu3).rg) (by omega) hr0 hr1 (by omega) (by omega) (by omega) h) fun n7 n8 x4 w4 u4 hu4 h he4 => ?_
 exact gx (hu1.trans (hu3.trans hu4)) h he4 (by omega) (by omega)
end
end Go.Vc

namespace Go.Vc
open Go Go.Proofs Go.RowKit
set_option linter.all false
instance slFuncG : SlT Try.prog 24 5 72 [.slice none 0 0, intV 0, intV 0, intV 0, .slice none 0 0] := .of (by kernel_rfl) rfl (by decide)
section
variable {u u' u0 v w : World} {x y z s tx x1 x2 x3 : Sl} {ds : List DeclD} {fs : List FunD} {a : Addr} {I J L R : Items} {F : Items → Items} {m m' N N' N1 N2 N3 n n1 n2 k1 k2 l1 l2 op num t b f at_ : Int} {l vars types : List Int} {ks : List ExprD} {e : ExprD}
/-- a list that is built, read from now on -/
theorem gs_bld {α : Type} [Dat α] {t bytes : Nat} {zc : List Value} [hT : SlT Try.prog t (Dat.sz α) bytes zc] {l : List α} {c : Nat} {ps : Array (Nat × Value)} (h : GS u a R m w) (hv : VsOf u (ps.toList.map (·.2)) l) (hi : ps.toList.map (·.1) = List.range c) (hsz : c * Dat.sz α ≤ 16777216) {K : Sl → World → Prop}
  (k : ∀ x w' u', Sub u u' → Sub w w' → GS u' a R m w' → Read u' x l → K x w') : StepT Try.prog (Instr.buildSlice t c ps) w fun r w' => ∃ x, r = x.val ∧ K x w' := by
 obtain ⟨I, h1, h2⟩ := h
 refine St.build (α := α) h2 hv hi hsz fun x w' J hO hS hs => ⟨x, rfl, ?_⟩
 obtain ⟨u2, hu, hS2, hJ⟩ := hS.freeze J
 exact k x w' u2 hu hs ⟨I, h1.mono hu, hS2⟩ (hO.read1 hJ)
/-- .. and changed later -/
theorem gs_bldO {α : Type} [Dat α] {t bytes : Nat} {zc : List Value} [hT : SlT Try.prog t (Dat.sz α) bytes zc] {l : List α} {c : Nat} {ps : Array (Nat × Value)} (h : GS u a R m w) (hv : VsOf u (ps.toList.map (·.2)) l) (hi : ps.toList.map (·.1) = List.range c) (hsz : c * Dat.sz α ≤ 16777216) {K : Sl → World → Prop}
  (k : ∀ x w' J, Sub w w' → GS u a (J ++ R) m w' → Own u x l J → K x w') : StepT Try.prog (Instr.buildSlice t c ps) w fun r w' => ∃ x, r = x.val ∧ K x w' := by
 obtain ⟨I, h1, h2⟩ := h
 refine St.build (α := α) h2 hv hi hsz fun x w' J hO hS hs => ⟨x, rfl, ?_⟩
 exact k x w' J hs ⟨I, h1, hS.to⟩ hO
/-- one more element -/
theorem gs_pushO {α : Type} [Dat α] {t bytes : Nat} {zc : List Value} [hT : SlT Try.prog t (Dat.sz α) bytes zc] {l : List α} {e : α} {ev : Value} (h : GS u a (J ++ R) m w) (hO : Own u x l J) (hv : VsOf u [ev] [e]) (hb : l.length + 1 ≤ 1000000) (hsz : Dat.sz α ≤ 128) (hby : bytes ≤ 128) {K : Sl → World → Prop} (k : ∀ x' w' J', GS u a (J' ++ R) m w' → Own u x' (l ++ [e]) J' → K x' w') :
  StepT Try.prog (Instr.buildSlice t 1 #[(0, ev)]) w fun r1 w1 => ∃ z : Sl, r1 = z.val ∧ StepT Try.prog (Builtin.append_ #[t, t] t #[(x.val), (z.val)]) w1 fun r2 w2 => ∃ x' : Sl, r2 = x'.val ∧ K x' w2 := by
 obtain ⟨I, h1, h2⟩ := h
 refine St.build (α := α) h2 hv rfl (by omega) fun z w1 J1 hO1 hS hs => ⟨z, rfl, ?_⟩
 refine Own.append hO hS (Own.src hO1 hS) (by simp only [List.length_cons, List.length_nil]; omega) hby fun x' w2 J2 hO2 hS2 => ⟨x', rfl, k x' w2 J2 ⟨I, h1, hS2.to⟩ hO2⟩
theorem vofC (hx : Read u x l) : VOf u (.agg #[x.val]) (⟨l⟩ : ConD) := ⟨rfl, x, rfl, hx⟩
theorem vofD {cs : List ConD} (h1 : InI n1) (h2 : InI n2) (hx : Read u x cs) : VOf u (.agg #[.int .i64 n1, .int .i64 n2, x.val]) (⟨n1, n2, cs⟩ : DeclD) := ⟨rfl, x, rfl, h1, h2, hx⟩
theorem vofD0 (h1 : InI n1) (h2 : InI n2) : VOf u (.agg #[.int .i64 n1, .int .i64 n2, .slice none 0 0]) (⟨n1, n2, []⟩ : DeclD) := ⟨rfl, ⟨none, 0, 0⟩, rfl, h1, h2, ReadB.nil⟩
theorem gs_con {K : Sl → World → Prop} (k : K x w) : Trip Try.prog 65 #[x.val] w fun r w' => ∃ x' : Sl, r = .agg #[x'.val] ∧ K x' w' := by
 refine of65 _ _ _ ?_
 unfold vc65
 exact ⟨x, rfl, k⟩
def in64 (n : Int) : Bool := decide (-9223372036854775808 ≤ n) && decide (n ≤ 9223372036854775807)
theorem in64_in (h : in64 n = true) : InI n := by
 unfold in64 at h
 simp only [Bool.and_eq_true, decide_eq_true_eq] at h
 exact h
theorem c_goodDecls (hm : m + 100 ≤ 999900000) (h : GS u a R m w) :
  Trip Try.prog 55 #[.pointer (some (a.add 0))] w fun r w' => ∃ x : Sl, r = x.val ∧ ∃ u' ds J, Sub u u' ∧ GS u' a (J ++ R) (m + 10) w' ∧ Own u' x ds J ∧ GD ds := by
 refine of55 _ _ _ ?_
 unfold vc55
 have I0 : InI 0 := in64_in rfl
 have I1 : InI 1 := in64_in rfl
 refine gs_ints (l := []) h VsOf.nil rfl (by decide) fun a1 w1 u1 hu1 hs1 h ha1 => gs_con ?_
 refine gs_ints h (by (repeat' (first | exact VsOf.nil | apply VsOf.cons | (apply VOf.int; first | assumption | (constructor <;> first | omega | (simp only [List.length_set, List.length_append, List.length_replicate, List.length_cons, List.length_nil, List.length_take, List.length_drop, List.length_map, List.length_singleton] at *; omega))) | exact VOf.bool | exact VOf.str))) rfl (by decide) fun a2 w2 u2 hu2 hs2 h ha2 => gs_con ?_
 refine gs_bld (α := ConD) (l := [⟨[]⟩, ⟨[0, 1]⟩]) h (by exact VsOf.cons (vofC (ha1.mono hu2)) (VsOf.cons (vofC ha2) VsOf.nil)) rfl (by decide) fun b1 w3 u3 hu3 hs3 h hb1 => ?_
 refine gs_ints (l := []) h VsOf.nil rfl (by decide) fun a3 w4 u4 hu4 hs4 h ha3 => gs_con ?_
 refine gs_ints h (by (repeat' (first | exact VsOf.nil | apply VsOf.cons | (apply VOf.int; first | assumption | (constructor <;> first | omega | (simp only [List.length_set, List.length_append, List.length_replicate, List.length_cons, List.length_nil, List.length_take, List.length_drop, List.length_map, List.length_singleton] at *; omega))) | exact VOf.bool | exact VOf.str))) rfl (by decide) fun a4 w5 u5 hu5 hs5 h ha4 => gs_con ?_
 refine gs_bld (α := ConD) (l := [⟨[]⟩, ⟨[3, 0, 3]⟩]) h (by exact VsOf.cons (vofC (ha3.mono hu5)) (VsOf.cons (vofC ha4) VsOf.nil)) rfl (by decide) fun b2 w6 u6 hu6 hs6 h hb2 => ?_
 refine gs_ints h (by (repeat' (first | exact VsOf.nil | apply VsOf.cons | (apply VOf.int; first | assumption | (constructor <;> first | omega | (simp only [List.length_set, List.length_append, List.length_replicate, List.length_cons, List.length_nil, List.length_take, List.length_drop, List.length_map, List.length_singleton] at *; omega))) | exact VOf.bool | exact VOf.str))) rfl (by decide) fun a5 w7 u7 hu7 hs7 h ha5 => gs_con ?_
 refine gs_bld (α := ConD) (l := [⟨[1, 3]⟩]) h (by exact VsOf.cons (vofC ha5) VsOf.nil) rfl (by decide) fun b3 w8 u8 hu8 hs8 h hb3 => ?_
 refine gs_ints h (by (repeat' (first | exact VsOf.nil | apply VsOf.cons | (apply VOf.int; first | assumption | (constructor <;> first | omega | (simp only [List.length_set, List.length_append, List.length_replicate, List.length_cons, List.length_nil, List.length_take, List.length_drop, List.length_map, List.length_singleton] at *; omega))) | exact VOf.bool | exact VOf.str))) rfl (by decide) fun a6 w9 u9 hu9 hs9 h ha6 => gs_con ?_
 refine gs_ints h (by (repeat' (first | exact VsOf.nil | apply VsOf.cons | (apply VOf.int; first | assumption | (constructor <;> first | omega | (simp only [List.length_set, List.length_append, List.length_replicate, List.length_cons, List.length_nil, List.length_take, List.length_drop, List.length_map, List.length_singleton] at *; omega))) | exact VOf.bool | exact VOf.str))) rfl (by decide) fun a7 w10 u10 hu10 hs10 h ha7 => gs_con ?_
 refine gs_ints h (by (repeat' (first | exact VsOf.nil | apply VsOf.cons | (apply VOf.int; first | assumption | (constructor <;> first | omega | (simp only [List.length_set, List.length_append, List.length_replicate, List.length_cons, List.length_nil, List.length_take, List.length_drop, List.length_map, List.length_singleton] at *; omega))) | exact VOf.bool | exact VOf.str))) rfl (by decide) fun a8 w11 u11 hu11 hs11 h ha8 => gs_con ?_
 refine gs_bld (α := ConD) (l := [⟨[1, 1, 0]⟩, ⟨[0]⟩, ⟨[3]⟩]) h (by exact VsOf.cons (vofC ((ha6.mono hu10).mono hu11)) (VsOf.cons (vofC (ha7.mono hu11)) (VsOf.cons (vofC ha8) VsOf.nil))) rfl (by decide) fun b4 w12 u12 hu12 hs12 h hb4 => ?_
 have h9 := ((hu9.trans hu10).trans hu11).trans hu12
 refine gs_bld (α := DeclD) (l := lastG) h (by exact VsOf.cons (vofD I0 I0 (hb3.mono h9)) (VsOf.cons (vofD0 I1 I0) (VsOf.cons (vofD I0 I0 hb4) (VsOf.cons (vofD0 I0 I1) VsOf.nil)))) rfl (by decide) fun xl w13 u13 hu13 hs13 h hxl => ?_
 have h4 := ((hu4.trans hu5).trans hu6).trans ((hu7.trans hu8).trans (h9.trans hu13))
 refine gs_bldO (α := DeclD) (l := [dLi, dAr, dTr]) h (by exact VsOf.cons (vofD I0 I0 (hb1.mono h4)) (VsOf.cons (vofD0 I0 I0) (VsOf.cons (vofD I0 I0 (hb2.mono ((hu7.trans hu8).trans (h9.trans hu13)))) VsOf.nil))) rfl (by decide) fun xo w14 J hs14 h hO => ?_
 have hU : Sub u u13 := ((hu1.trans hu2).trans hu3).trans h4
 refine gs_pick h (by omega) (by omega) (by omega) fun j w15 h j0 j1 _ => ⟨fun hc => ?_, fun hc => ⟨xo, rfl, u13, _, J, hU, h.le (by omega), hO, .inl rfl⟩⟩
 simp only [bls] at hc
 have hll : ((lastG.length : Nat) : Int) = 4 := rfl
 refine go_ix hxl j0 (by omega) ?_
 obtain ⟨fc, e1, e2, e3, i1, i2, rc⟩ := (hxl.src (.refl u13)).ofDeclD j0 (by omega)
 refine ⟨_, _, fc, ⟨cell_sub h.sub e1, cell_sub h.sub e2, cell_sub h.sub e3⟩, ?_⟩
 refine gs_pushO h hO (by exact VsOf.cons (vofD i1 i2 rc) VsOf.nil) (by decide) (by decide) (by decide) fun x' w16 J' h hO => ?_
 refine ⟨x', rfl, u13, _, J', hU, h.le (by omega), hO, .inr ⟨nth lastG j, nth_mem j0 (by omega), ?_⟩⟩
 rfl
/-- a function without a body -/
def FOz (f : FunD) : Prop := (f.params, f.result) ∈ sigsG ∧ f.body = default
/-- a function that the generator may use, in a program of so many functions -/
def FOk (ds : List DeclD) (nf : Int) (f : FunD) : Prop := (f.params, f.result) ∈ sigsG ∧ cE ⟨ds, nf, f.params.length⟩ f.body ∧ nodesE f.body ≤ 5000
theorem FOz.zero {p : List Int} {r : Int} (h : (p, r) ∈ sigsG) : FOz ⟨p, r, default⟩ := ⟨h, rfl⟩
theorem FOz.ok {f : FunD} {nf : Int} (h : FOz f) : FOk ds nf f := by
 refine ⟨h.1, ?_, ?_⟩
 ·rw [h.2]
  exact cE.node (C := ⟨ds, nf, f.params.length⟩) (op := 0) (num := 0) (ks := []) cL_nil ⟨by decide, by decide, by decide, by decide, by omega, by omega⟩
 ·rw [h.2]
  show nodesE ⟨0, 0, []⟩ ≤ 5000
  rw [nodesE_eq]
  show 1 + nodesL [] ≤ 5000
  rw [nodesL_nil]
  omega
theorem vofF {r : Int} (hx : Read u x l) (hr : InI r) : VOf u (.agg #[x.val, .int .i64 r, .int .i64 0, .int .i64 0, .slice none 0 0]) (⟨l, r, default⟩ : FunD) :=
 ⟨rfl, x, ⟨none, 0, 0⟩, rfl, hr, in64_in rfl, in64_in rfl, hx, ReadB.nil⟩
theorem vofN {f : FunD} (i1 : InI f.result) (i2 : InI f.body.op) (i3 : InI f.body.num) (r1 : Read u x f.params) (r2 : Read u y f.body.kids) : VOf u (.agg #[x.val, .int .i64 f.result, .int .i64 f.body.op, .int .i64 f.body.num, y.val]) f :=
 ⟨rfl, x, y, rfl, i1, i2, i3, r1, r2⟩
theorem gs_sig {r : Int} {K : Sl → Int → Int → Int → Sl → World → Prop} (k : K x r 0 0 ⟨none, 0, 0⟩ w) : Trip Try.prog 56 #[x.val, .int .i64 r] w fun v w' => ∃ (x' : Sl) (n1 n2 n3 : Int) (y' : Sl), v = .agg #[x'.val, .int .i64 n1, .int .i64 n2, .int .i64 n3, y'.val] ∧ K x' n1 n2 n3 y' w' := by
 refine of56 _ _ _ _ ?_
 unfold vc56
 exact ⟨x, r, 0, 0, ⟨none, 0, 0⟩, rfl, k⟩
/-- the row of a function, at whatever world behind the base -/
theorem funRow {l : List FunD} (hx : Read u x l) : ∃ F : Int → Sl × Sl, ∀ j : Int, 0 ≤ j → j < l.length → (∀ {m : Int} {w : World}, GS u a R m w → (w.cell? ((elA x j 5).add 0) = some (F j).1.val ∧ w.cell? ((elA x j 5).add 1) = some (.int .i64 (nth l j).result) ∧ w.cell? ((elA x j 5).add 2) = some (.int .i64 (nth l j).body.op) ∧ w.cell? ((elA x j 5).add 3) = some (.int .i64 (nth l j).body.num) ∧ w.cell? ((elA x j 5).add 4) = some (F j).2.val)) ∧
  VOf u (.agg #[(F j).1.val, .int .i64 (nth l j).result, .int .i64 (nth l j).body.op, .int .i64 (nth l j).body.num, (F j).2.val]) (nth l j) := by
 have key : ∀ j : Int, ∃ p : Sl × Sl, 0 ≤ j → j < l.length → (∀ {m : Int} {w : World}, GS u a R m w → (w.cell? ((elA x j 5).add 0) = some p.1.val ∧ w.cell? ((elA x j 5).add 1) = some (.int .i64 (nth l j).result) ∧ w.cell? ((elA x j 5).add 2) = some (.int .i64 (nth l j).body.op) ∧ w.cell? ((elA x j 5).add 3) = some (.int .i64 (nth l j).body.num) ∧ w.cell? ((elA x j 5).add 4) = some p.2.val)) ∧
   VOf u (.agg #[p.1.val, .int .i64 (nth l j).result, .int .i64 (nth l j).body.op, .int .i64 (nth l j).body.num, p.2.val]) (nth l j) := by
  intro j
  by_cases hj : 0 ≤ j ∧ j < l.length
  ·obtain ⟨f, k, e1, e2, e3, e4, e5, i1, i2, i3, r1, r2⟩ := (hx.src (.refl u)).ofFunD hj.1 hj.2
   exact ⟨(f, k), fun _ _ => ⟨fun h => ⟨cell_sub h.sub e1, cell_sub h.sub e2, cell_sub h.sub e3, cell_sub h.sub e4, cell_sub h.sub e5⟩, vofN i1 i2 i3 r1 r2⟩⟩
  ·exact ⟨(⟨none, 0, 0⟩, ⟨none, 0, 0⟩), fun h0 h1 => absurd ⟨h0, h1⟩ hj⟩
 exact Classical.axiomOfChoice key
theorem Own.cutOk {α : Type} [Dat α] {l : List α} {I : Items} (h : Own u x l I) (h0 : 0 ≤ n) (h1 : n ≤ l.length) : CutOk x 0 n := by
 obtain ⟨rows, k1, k2, _⟩ := h
 refine ⟨Int.le_refl _, h0, ?_⟩
 have := k2.1
 cases k1 with
 | nil => simp at this; omega
 | blk g o c' c cur e _ hn hc hm hs hr => simp only [] at *; omega
set_option maxRecDepth 20000 in
theorem c_goodProgram (hm : m + 2000000 ≤ 999900000) (h : GS u a R m w) :
  Trip Try.prog 30 #[.pointer (some (a.add 0))] w fun r w' => ∃ x y : Sl, r = .agg #[x.val, y.val] ∧ ∃ u' ds fs J, Sub u u' ∧ GS u' a (J ++ R) (m + 1000000) w' ∧ Read u' x ds ∧ Own u' y fs J ∧ GD ds ∧ 1 ≤ fs.length ∧ fs.length ≤ 4 ∧ ∀ f ∈ fs, FOk ds fs.length f := by
 refine of30 _ _ _ ?_
 unfold vc30
 have I0 : InI 0 := in64_in rfl
 have I1 : InI 1 := in64_in rfl
 have I3 : InI 3 := in64_in rfl
 refine (c_goodDecls (by omega) h).mono' ?_
 rintro _ w1 ⟨x, rfl, u1, ds, J1, hu1, h, hO, hgd⟩
 obtain ⟨u2, hu2, h, hJ⟩ := h.freeze
 have hx := hO.read1 hJ
 have hU2 := hu1.trans hu2
 clear hO hJ
 refine ⟨x, rfl, ?_⟩
 -- the three lists of signatures
 refine ⟨fun s w => ∃ u3 l, Sub u2 u3 ∧ GS u3 a R (m + 10) w ∧ Read u3 s l ∧ l.length = 6 ∧ ∀ f ∈ l, FOz f, ?_, ?_⟩
 ·refine gs_ints h (by (repeat' (first | exact VsOf.nil | apply VsOf.cons | (apply VOf.int; first | assumption | (constructor <;> first | omega | (simp only [List.length_set, List.length_append, List.length_replicate, List.length_cons, List.length_nil, List.length_take, List.length_drop, List.length_map, List.length_singleton] at *; omega))) | exact VOf.bool | exact VOf.str))) rfl (by decide) fun a1 w1 u3 hu3 hs1 h ha1 => gs_sig ?_
  refine gs_ints h (by (repeat' (first | exact VsOf.nil | apply VsOf.cons | (apply VOf.int; first | assumption | (constructor <;> first | omega | (simp only [List.length_set, List.length_append, List.length_replicate, List.length_cons, List.length_nil, List.length_take, List.length_drop, List.length_map, List.length_singleton] at *; omega))) | exact VOf.bool | exact VOf.str))) rfl (by decide) fun a2 w1 u4 hu4 hs1 h ha2 => gs_sig ?_
  refine gs_ints h (by (repeat' (first | exact VsOf.nil | apply VsOf.cons | (apply VOf.int; first | assumption | (constructor <;> first | omega | (simp only [List.length_set, List.length_append, List.length_replicate, List.length_cons, List.length_nil, List.length_take, List.length_drop, List.length_map, List.length_singleton] at *; omega))) | exact VOf.bool | exact VOf.str))) rfl (by decide) fun a3 w1 u5 hu5 hs1 h ha3 => gs_sig ?_
  refine gs_ints h (by (repeat' (first | exact VsOf.nil | apply VsOf.cons | (apply VOf.int; first | assumption | (constructor <;> first | omega | (simp only [List.length_set, List.length_append, List.length_replicate, List.length_cons, List.length_nil, List.length_take, List.length_drop, List.length_map, List.length_singleton] at *; omega))) | exact VOf.bool | exact VOf.str))) rfl (by decide) fun a4 w1 u6 hu6 hs1 h ha4 => gs_sig ?_
  refine gs_ints h (by (repeat' (first | exact VsOf.nil | apply VsOf.cons | (apply VOf.int; first | assumption | (constructor <;> first | omega | (simp only [List.length_set, List.length_append, List.length_replicate, List.length_cons, List.length_nil, List.length_take, List.length_drop, List.length_map, List.length_singleton] at *; omega))) | exact VOf.bool | exact VOf.str))) rfl (by decide) fun a5 w1 u7 hu7 hs1 h ha5 => gs_sig ?_
  refine gs_ints h (by (repeat' (first | exact VsOf.nil | apply VsOf.cons | (apply VOf.int; first | assumption | (constructor <;> first | omega | (simp only [List.length_set, List.length_append, List.length_replicate, List.length_cons, List.length_nil, List.length_take, List.length_drop, List.length_map, List.length_singleton] at *; omega))) | exact VOf.bool | exact VOf.str))) rfl (by decide) fun a6 w1 u8 hu8 hs1 h ha6 => gs_sig ?_
  have s7 := hu8
  have s6 := hu7.trans s7
  have s5 := hu6.trans s6
  have s4 := hu5.trans s5
  have s3 := hu4.trans s4
  refine gs_bld (α := FunD) (l := [⟨[1], 0, default⟩, ⟨[1, 1], 1, default⟩, ⟨[1], 1, default⟩, ⟨[1, 0], 1, default⟩, ⟨[2, 1], 1, default⟩, ⟨[1, 1], 0, default⟩]) h (by exact VsOf.cons (vofF (ha1.mono s3) I0) (VsOf.cons (vofF (ha2.mono s4) I1) (VsOf.cons (vofF (ha3.mono s5) I1) (VsOf.cons (vofF (ha4.mono s6) I1) (VsOf.cons (vofF (ha5.mono s7) I1) (VsOf.cons (vofF ha6 I0) VsOf.nil)))))) rfl (by decide) fun b1 w2 u9 hu9 hs9 h hb1 => ?_
  refine ⟨rfl, rfl, rfl, rfl, u9, _, (hu3.trans s3).trans hu9, h, hb1, rfl, ?_⟩
  intro f hf
  simp only [List.mem_cons, List.not_mem_nil, or_false] at hf
  rcases hf with rfl | rfl | rfl | rfl | rfl | rfl <;> exact FOz.zero (by decide)
 rintro x1 w3 ⟨u3, one, hu3, h, hx1, hl1, ho1⟩
 refine ⟨fun s w => ∃ u4 l, Sub u3 u4 ∧ GS u4 a R (m + 10) w ∧ Read u4 s l ∧ l.length = 6 ∧ ∀ f ∈ l, FOz f, ?_, ?_⟩
 ·refine gs_ints h (by (repeat' (first | exact VsOf.nil | apply VsOf.cons | (apply VOf.int; first | assumption | (constructor <;> first | omega | (simp only [List.length_set, List.length_append, List.length_replicate, List.length_cons, List.length_nil, List.length_take, List.length_drop, List.length_map, List.length_singleton] at *; omega))) | exact VOf.bool | exact VOf.str))) rfl (by decide) fun a1 w1 u3 hu3 hs1 h ha1 => gs_sig ?_
  refine gs_ints h (by (repeat' (first | exact VsOf.nil | apply VsOf.cons | (apply VOf.int; first | assumption | (constructor <;> first | omega | (simp only [List.length_set, List.length_append, List.length_replicate, List.length_cons, List.length_nil, List.length_take, List.length_drop, List.length_map, List.length_singleton] at *; omega))) | exact VOf.bool | exact VOf.str))) rfl (by decide) fun a2 w1 u4 hu4 hs1 h ha2 => gs_sig ?_
  refine gs_ints h (by (repeat' (first | exact VsOf.nil | apply VsOf.cons | (apply VOf.int; first | assumption | (constructor <;> first | omega | (simp only [List.length_set, List.length_append, List.length_replicate, List.length_cons, List.length_nil, List.length_take, List.length_drop, List.length_map, List.length_singleton] at *; omega))) | exact VOf.bool | exact VOf.str))) rfl (by decide) fun a3 w1 u5 hu5 hs1 h ha3 => gs_sig ?_
  refine gs_ints h (by (repeat' (first | exact VsOf.nil | apply VsOf.cons | (apply VOf.int; first | assumption | (constructor <;> first | omega | (simp only [List.length_set, List.length_append, List.length_replicate, List.length_cons, List.length_nil, List.length_take, List.length_drop, List.length_map, List.length_singleton] at *; omega))) | exact VOf.bool | exact VOf.str))) rfl (by decide) fun a4 w1 u6 hu6 hs1 h ha4 => gs_sig ?_
  refine gs_ints h (by (repeat' (first | exact VsOf.nil | apply VsOf.cons | (apply VOf.int; first | assumption | (constructor <;> first | omega | (simp only [List.length_set, List.length_append, List.length_replicate, List.length_cons, List.length_nil, List.length_take, List.length_drop, List.length_map, List.length_singleton] at *; omega))) | exact VOf.bool | exact VOf.str))) rfl (by decide) fun a5 w1 u7 hu7 hs1 h ha5 => gs_sig ?_
  refine gs_ints h (by (repeat' (first | exact VsOf.nil | apply VsOf.cons | (apply VOf.int; first | assumption | (constructor <;> first | omega | (simp only [List.length_set, List.length_append, List.length_replicate, List.length_cons, List.length_nil, List.length_take, List.length_drop, List.length_map, List.length_singleton] at *; omega))) | exact VOf.bool | exact VOf.str))) rfl (by decide) fun a6 w1 u8 hu8 hs1 h ha6 => gs_sig ?_
  have s7 := hu8
  have s6 := hu7.trans s7
  have s5 := hu6.trans s6
  have s4 := hu5.trans s5
  have s3 := hu4.trans s4
  refine gs_bld (α := FunD) (l := [⟨[3], 0, default⟩, ⟨[0], 1, default⟩, ⟨[0, 1], 1, default⟩, ⟨[3, 0], 3, default⟩, ⟨[3], 1, default⟩, ⟨[1, 3, 0], 0, default⟩]) h (by exact VsOf.cons (vofF (ha1.mono s3) I0) (VsOf.cons (vofF (ha2.mono s4) I1) (VsOf.cons (vofF (ha3.mono s5) I1) (VsOf.cons (vofF (ha4.mono s6) I3) (VsOf.cons (vofF (ha5.mono s7) I1) (VsOf.cons (vofF ha6 I0) VsOf.nil)))))) rfl (by decide) fun b1 w2 u9 hu9 hs9 h hb1 => ?_
  refine ⟨rfl, rfl, rfl, rfl, u9, _, (hu3.trans s3).trans hu9, h, hb1, rfl, ?_⟩
  intro f hf
  simp only [List.mem_cons, List.not_mem_nil, or_false] at hf
  rcases hf with rfl | rfl | rfl | rfl | rfl | rfl <;> exact FOz.zero (by decide)
 rintro x2 w4 ⟨u4, two, hu4, h, hx2, hl2, ho2⟩
 refine ⟨fun s w => ∃ u5 l, Sub u4 u5 ∧ GS u5 a R (m + 10) w ∧ Read u5 s l ∧ l.length = 4 ∧ ∀ f ∈ l, FOz f, ?_, ?_⟩
 ·refine gs_ints h (by (repeat' (first | exact VsOf.nil | apply VsOf.cons | (apply VOf.int; first | assumption | (constructor <;> first | omega | (simp only [List.length_set, List.length_append, List.length_replicate, List.length_cons, List.length_nil, List.length_take, List.length_drop, List.length_map, List.length_singleton] at *; omega))) | exact VOf.bool | exact VOf.str))) rfl (by decide) fun a1 w1 u3 hu3 hs1 h ha1 => gs_sig ?_
  refine gs_ints h (by (repeat' (first | exact VsOf.nil | apply VsOf.cons | (apply VOf.int; first | assumption | (constructor <;> first | omega | (simp only [List.length_set, List.length_append, List.length_replicate, List.length_cons, List.length_nil, List.length_take, List.length_drop, List.length_map, List.length_singleton] at *; omega))) | exact VOf.bool | exact VOf.str))) rfl (by decide) fun a2 w1 u4 hu4 hs1 h ha2 => gs_sig ?_
  refine gs_ints h (by (repeat' (first | exact VsOf.nil | apply VsOf.cons | (apply VOf.int; first | assumption | (constructor <;> first | omega | (simp only [List.length_set, List.length_append, List.length_replicate, List.length_cons, List.length_nil, List.length_take, List.length_drop, List.length_map, List.length_singleton] at *; omega))) | exact VOf.bool | exact VOf.str))) rfl (by decide) fun a3 w1 u5 hu5 hs1 h ha3 => gs_sig ?_
  refine gs_ints h (by (repeat' (first | exact VsOf.nil | apply VsOf.cons | (apply VOf.int; first | assumption | (constructor <;> first | omega | (simp only [List.length_set, List.length_append, List.length_replicate, List.length_cons, List.length_nil, List.length_take, List.length_drop, List.length_map, List.length_singleton] at *; omega))) | exact VOf.bool | exact VOf.str))) rfl (by decide) fun a4 w1 u6 hu6 hs1 h ha4 => gs_sig ?_
  have s5 := hu6
  have s4 := hu5.trans s5
  have s3 := hu4.trans s4
  refine gs_bld (α := FunD) (l := [⟨[0], 0, default⟩, ⟨[0, 0], 0, default⟩, ⟨[1, 0], 0, default⟩, ⟨[0], 1, default⟩]) h (by exact VsOf.cons (vofF (ha1.mono s3) I0) (VsOf.cons (vofF (ha2.mono s4) I0) (VsOf.cons (vofF (ha3.mono s5) I0) (VsOf.cons (vofF ha4 I1) VsOf.nil)))) rfl (by decide) fun b1 w2 u9 hu9 hs9 h hb1 => ?_
  refine ⟨rfl, rfl, rfl, rfl, u9, _, (hu3.trans s3).trans hu9, h, hb1, rfl, ?_⟩
  intro f hf
  simp only [List.mem_cons, List.not_mem_nil, or_false] at hf
  rcases hf with rfl | rfl | rfl | rfl <;> exact FOz.zero (by decide)
 rintro x3 w5 ⟨u5, three, hu5, h, hx3, hl3, ho3⟩
 -- the functions
 refine ⟨fun s w => ∃ u6 fs J, Sub u5 u6 ∧ GS u6 a (J ++ R) (m + 20) w ∧ Own u6 s fs J ∧ fs.length = 4 ∧ ∀ f ∈ fs, FOz f, ?_, ?_⟩
 ·have hn1 := (hx1.n).trans hl1
  have hn2 := (hx2.n).trans hl2
  have hn3 := (hx3.n).trans hl3
  refine gs_ints (l := []) h VsOf.nil rfl (by decide) fun a1 w6 u6 hu6 hs6 h ha1 => ⟨hs6, gs_sig ⟨.refl _, ?_⟩⟩
  replace hx1 := (hx1.mono hu4).mono (hu5.trans hu6)
  replace hx2 := hx2.mono (hu5.trans hu6)
  replace hx3 := hx3.mono hu6
  obtain ⟨F1, c1⟩ := funRow (a := a) (R := R) hx1
  obtain ⟨F2, c2⟩ := funRow (a := a) (R := R) hx2
  obtain ⟨F3, c3⟩ := funRow (a := a) (R := R) hx3
  have fin : ∀ {j1 j2 j3 : Int} {w7 : World}, 0 ≤ j1 → j1 < one.length → 0 ≤ j2 → j2 < two.length → 0 ≤ j3 → j3 < three.length → GS u6 a R (m + 10 + 1 + 1 + 1) w7 →
    StepT Try.prog (Instr.buildSlice 24 4 #[(0, (.agg #[a1.val, .int .i64 0, .int .i64 0, .int .i64 0, (Sl.mk none 0 0).val])), (1, (.agg #[(F1 j1).1.val, .int .i64 (nth one j1).result, .int .i64 (nth one j1).body.op, .int .i64 (nth one j1).body.num, (F1 j1).2.val])), (2, (.agg #[(F2 j2).1.val, .int .i64 (nth two j2).result, .int .i64 (nth two j2).body.op, .int .i64 (nth two j2).body.num, (F2 j2).2.val])), (3, (.agg #[(F3 j3).1.val, .int .i64 (nth three j3).result, .int .i64 (nth three j3).body.op, .int .i64 (nth three j3).body.num, (F3 j3).2.val]))]) w7 fun r217 w218 =>
     ∃ x219 : Sl, r217 = x219.val ∧ ((.sl (Sl.mk none 0 0) : SV) = .sl (Sl.mk none 0 0)) ∧ ((.sl (Sl.mk none 0 0) : SV) = .sl (Sl.mk none 0 0)) ∧ ((.sl x : SV) = .sl x) ∧
      ∃ u6 fs J, Sub u5 u6 ∧ GS u6 a (J ++ R) (m + 20) w218 ∧ Own u6 x219 fs J ∧ fs.length = 4 ∧ ∀ f ∈ fs, FOz f := by
   intro j1 j2 j3 w7 p0 p1 q0 q1 r0 r1 h
   refine gs_bldO (α := FunD) (l := [⟨[], 0, default⟩, nth one j1, nth two j2, nth three j3]) h (by exact VsOf.cons (vofF ha1 I0) (VsOf.cons (c1 j1 p0 p1).2 (VsOf.cons (c2 j2 q0 q1).2 (VsOf.cons (c3 j3 r0 r1).2 VsOf.nil)))) rfl (by decide) fun xo w8 J hs8 h hO => ?_
   refine ⟨rfl, rfl, rfl, u6, _, J, hu6, h.le (by omega), hO, rfl, ?_⟩
   intro f hf
   simp only [List.mem_cons, List.not_mem_nil, or_false] at hf
   rcases hf with rfl | rfl | rfl | rfl
   ·exact FOz.zero (by decide)
   ·exact ho1 _ (nth_mem p0 p1)
   ·exact ho2 _ (nth_mem q0 q1)
   ·exact ho3 _ (nth_mem r0 r1)
  refine gs_pick (n := x1.n) h (by omega) (by omega) (by omega) fun j1 w7 h p0 p1 _ => ?_
  have p1 : j1 < one.length := by omega
  have i1 := hx1.ix p0 p1
  repeat' (first
   | (with_reducible refine And.intro i1 ?_)
   | (with_reducible refine And.intro i2 ?_)
   | (with_reducible refine And.intro i3 ?_)
   | (with_reducible refine Exists.intro _ (Exists.intro _ (Exists.intro _ (Exists.intro _ (Exists.intro _ (And.intro ((c1 j1 p0 p1).1 h) ?_))))))
   | (with_reducible refine Exists.intro _ (Exists.intro _ (Exists.intro _ (Exists.intro _ (Exists.intro _ (And.intro ((c2 j2 q0 q1).1 h) ?_))))))
   | (with_reducible refine Exists.intro _ (Exists.intro _ (Exists.intro _ (Exists.intro _ (Exists.intro _ (And.intro ((c3 j3 r0 r1).1 h) ?_))))))
   | (with_reducible refine And.intro ?_ ?_)
   | (with_reducible exact fin p0 p1 q0 q1 r0 r1 h)
   | ((with_reducible show Trip _ _ #[_, .int .i64 (x2.n : Int)] _ _); refine gs_pick (n := x2.n) h (by omega) (by omega) (by omega) fun j2 w8 h q0 q1 _ => ?_; have q1 : j2 < two.length := (by omega); have i2 := hx2.ix q0 q1)
   | ((with_reducible show Trip _ _ #[_, .int .i64 (x3.n : Int)] _ _); refine gs_pick (n := x3.n) h (by omega) (by omega) (by omega) fun j3 w9 h r0 r1 _ => ?_; have r1 : j3 < three.length := (by omega); have i3 := hx3.ix r0 r1))
 rintro y w6 ⟨u6, fs, J, hu6, h, hO, hfl, hfo⟩
 have hU : Sub u u6 := hU2.trans (((hu3.trans hu4).trans hu5).trans hu6)
 replace hx : Read u6 x ds := hx.mono (((hu3.trans hu4).trans hu5).trans hu6)
 refine gs_ints h (by (repeat' (first | exact VsOf.nil | apply VsOf.cons | (apply VOf.int; first | assumption | (constructor <;> first | omega | (simp only [List.length_set, List.length_append, List.length_replicate, List.length_cons, List.length_nil, List.length_take, List.length_drop, List.length_map, List.length_singleton] at *; omega))) | exact VOf.bool | exact VOf.str))) rfl (by decide) fun x7 w7 u7 hu7 hs7 h hx7 => ?_
 refine gs_one h hx7 (by omega) (by simp) (by simp) fun k w8 h hk => ?_
 have hk4 : 2 ≤ k ∧ k ≤ 4 := by simp only [List.mem_cons, List.not_mem_nil, or_false] at hk; omega
 refine ⟨hO.cutOk (by omega) (by omega), ?_⟩
 have hO2 : Own u7 (y.cut 0 k 5) (fs.take k.toNat) J := by
  have this : Own u7 (y.cut 0 k 5) ((fs.take k.toNat).drop (0 : Int).toNat) J := (hO.mono hu7).cut (lo := 0) (hi := k) (by omega) (by omega) (by omega)
  simpa using this
 refine go_wr (by omega) (by omega) ?_
 have hlk : ((fs.take k.toNat).length : Int) = k := by rw [List.length_take]; omega
 have hok : ∀ f ∈ fs.take k.toNat, FOk ds k f := fun f hf => (hfo f (List.mem_of_mem_take hf)).ok
 generalize fs.take k.toNat = gs at hO2 hlk hok
 generalize y.cut 0 k 5 = z at hO2
 refine ⟨fun i w => ∃ (u8 : World) (J : Items) (gs : List FunD), Sub u7 u8 ∧ GS u8 a (J ++ R) (m + 30 + 100000 * (4 - i)) w ∧ Own u8 z gs J ∧ (gs.length : Int) = k ∧ (∀ f ∈ gs, FOk ds k f) ∧ -1 ≤ i ∧ i < k, fun i _ => (i + 1).toNat, ⟨u7, J, gs, .refl _, h.le (by omega), hO2, hlk, hok, by omega, by omega⟩, ?_⟩
 clear h hO hO2 hlk hok
 rintro i w9 ⟨u8, J8, gs8, hu8, h, hO, hlk, hok, i0, i1⟩
 dsimp only
 refine ⟨fun hi => ?_, fun hi => ⟨x, z, rfl, u8, ds, gs8, J8, hU.trans (hu7.trans hu8), h.le (by omega), (hx.mono hu7).mono hu8, hO, hgd, by omega, by omega, by rw [hlk]; exact hok⟩⟩
 simp only [bls] at hi
 have hil : i < gs8.length := by omega
 have hp : PrgG u8 (J8 ++ R) x z ds gs8 := ⟨hgd, ⟨by omega, by omega, fun f hf => (hok f hf).1⟩, (hx.mono hu7).mono hu8, fun u9 w9 I9 hu9 hS9 => (hO.mono hu9).src hS9⟩
 refine use_x (c_bodyOf hp hi hil (by omega) h) fun n1 n2 s w10 u10 hu10 h he => ?_
 have hp10 := hp.mono hu10
 have hO10 := hO.mono hu10
 have hix := (hp10.fsr h).ix hi hil
 obtain ⟨g, g2, e1, e2, _, _, _, j1, _, _, r1, _⟩ := (hp10.src h).ofFunD hi hil
 obtain ⟨e, rfl, rfl, re, ce, ne⟩ := he
 refine ⟨hix, g, e1, hix, _, e2, hix, ?_⟩
 obtain ⟨I10, hR10, hS10⟩ := h
 have hfi := hok _ (nth_mem hi hil)
 refine hO10.store hS10 hi hil (⟨(nth gs8 i).params, (nth gs8 i).result, e⟩ : FunD) (Nat.le_of_ble_eq_true rfl) (fun r hr => ?_) fun w11 J11 hO11 hS11 => ?_
 ·obtain ⟨f', k', rfl, _⟩ := hr
  exact ⟨g, s, rfl, j1, (can_in ce.1).1, (can_in ce.1).2, r1, re⟩
 ·refine go_wr (by omega) (by omega) ?_
  refine ⟨rfl, rfl, rfl, rfl, ⟨u10, J11, _, hu8.trans hu10, ⟨I10, hR10.le (by omega), hS11.to⟩, hO11, by simp; omega, ?_, by omega, by omega⟩, by omega⟩
  intro f hf
  rcases List.mem_or_eq_of_mem_set hf with hf | rfl
  ·exact hok f hf
  ·exact ⟨hfi.1, by rw [← hlk]; exact ce, by show nodesE e ≤ 5000; omega⟩
end
end Go.Vc
