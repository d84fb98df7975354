/- Part of the proofs about the heaps and memories: a law is joined in the text whose name ends in W and the law. -/
import Derived.Test.YtelgbndeeccblaaGreatDoorEG1
namespace Go.Vc
open Go Go.Proofs Go.RowKit
set_option linter.all false
section
variable {u u' u0 v w : World} {x y z s tx x1 x2 x3 : Sl} {ds : List DeclD} {fs : List FunD} {a : Addr} {I J L R : Items} {F : Items → Items} {m m' N N' N1 N2 N3 n n1 n2 k1 k2 l1 l2 op num t b f : Int} {l vars types : List Int} {ks : List ExprD} {e : ExprD}
/-- what a body's making needs to know of its function -/
structure BdG (u : World) (R : Items) (x y : Sl) (ds : List DeclD) (fs : List FunD) (f : Int) (g : Sl) : Prop where
 pr : PrgG u R x y ds fs
 f0 : 0 ≤ f
 f1 : f < fs.length
 rg : Read u g (nth fs f).params
 pl : (nth fs f).params.length ≤ 3
 pt : ∀ t ∈ (nth fs f).params, 0 ≤ t ∧ t ≤ 4
 r0 : 0 ≤ (nth fs f).result
 r1 : (nth fs f).result ≤ 4
theorem BdG.mono {g : Sl} (h : BdG u R x y ds fs f g) (hs : Sub u u') : BdG u' R x y ds fs f g := ⟨h.pr.mono hs, h.f0, h.f1, h.rg.mono hs, h.pl, h.pt, h.r0, h.r1⟩
theorem BdG.app {g : Sl} (h : BdG u R x y ds fs f g) (J : Items) : BdG u (J ++ R) x y ds fs f g := ⟨h.pr.app J, h.f0, h.f1, h.rg, h.pl, h.pt, h.r0, h.r1⟩
theorem BdG.of (hp : PrgG u R x y ds fs) (h : GS u a R m w) (h0 : 0 ≤ f) (h1 : f < fs.length) : ∃ g : Sl, w.cell? ((elA y f 5).add 0) = some g.val ∧ w.cell? ((elA y f 5).add 1) = some (.int .i64 (nth fs f).result) ∧ BdG u R x y ds fs f g := by
 obtain ⟨g, g2, e1, e2, _, _, _, _, _, _, r1, _⟩ := (hp.src h).ofFunD h0 h1
 have hsf := sig_facts (hp.gf.mem h0 h1)
 refine ⟨g, e1, e2, hp, h0, h1, r1, hsf.1, fun t ht => ?_, hsf.2.2.1, ?_⟩
 ·have := hsf.2.1 t ht
  omega
 ·have h4 : (nth fs f).result ≤ 3 := hsf.2.2.2.1
  omega
theorem BdG.ix {g : Sl} (hb : BdG u R x y ds fs f g) (h : GS u a R m w) : IxOk y f := (hb.pr.fsr h).ix hb.f0 hb.f1
theorem BdG.res {g : Sl} (hb : BdG u R x y ds fs f g) (h : GS u a R m w) : w.cell? ((elA y f 5).add 1) = some (.int .i64 (nth fs f).result) := by
 obtain ⟨_, _, e2, _⟩ := BdG.of hb.pr h hb.f0 hb.f1
 exact e2
theorem BdG.cell {g : Sl} (hb : BdG u R x y ds fs f g) (h : GS u a R m w) (hg : ∀ (u' w' : World) (I' : Items), Sub u u' → St u' w' (I' ++ R) → w'.cell? ((elA y f 5).add 0) = some g.val) : w.cell? ((elA y f 5).add 0) = some g.val := let ⟨I, _, h2⟩ := h; hg u w I (.refl u) h2
end
end Go.Vc

namespace Go.Vc
open Go Go.Proofs Go.RowKit
set_option linter.all false
section
variable {u u' u0 v w : World} {x y z s tx x1 x2 x3 : Sl} {ds : List DeclD} {fs : List FunD} {a : Addr} {I J L R : Items} {F : Items → Items} {m m' N N' N1 N2 N3 n n1 n2 k1 k2 l1 l2 op num t b f at_ : Int} {l vars types : List Int} {ks : List ExprD} {e : ExprD}
end
end Go.Vc

namespace Go.Vc
open Go Go.Proofs Go.RowKit
set_option linter.all false
section
variable {u u' u0 v w : World} {x y z s tx x1 x2 x3 : Sl} {ds : List DeclD} {fs : List FunD} {a : Addr} {I J L R : Items} {F : Items → Items} {m m' N N' N1 N2 N3 n n1 n2 k1 k2 l1 l2 op num t b f at_ : Int} {l vars types : List Int} {ks : List ExprD} {e : ExprD}
end
end Go.Vc

namespace Go.Vc
open Go Go.Proofs Go.RowKit
set_option linter.all false
instance slFuncG : SlT Tryz.prog 29 5 72 [.slice none 0 0, intV 0, intV 0, intV 0, .slice none 0 0] := .of (by kernel_rfl) rfl (by decide)
section
variable {u u' u0 v w : World} {x y z s tx x1 x2 x3 : Sl} {ds : List DeclD} {fs : List FunD} {a : Addr} {I J L R : Items} {F : Items → Items} {m m' N N' N1 N2 N3 n n1 n2 k1 k2 l1 l2 op num t b f at_ : Int} {l vars types : List Int} {ks : List ExprD} {e : ExprD}
/-- a function that the generator may use -/
def FOk (f : FunD) : Prop := (f.params, f.result) ∈ sigsG ∧ canE f.body = true ∧ nodesE f.body ≤ 5000
theorem FOk.zero {p : List Int} {r : Int} (h : (p, r) ∈ sigsG) : FOk ⟨p, r, default⟩ := ⟨h, by show canE ⟨0, 0, []⟩ = true; rw [canE_eq]; show (okN 0 0 0 && canL []) = true; rw [canL_nil]; rfl, by show nodesE ⟨0, 0, []⟩ ≤ 5000; rw [nodesE_eq]; show 1 + nodesL [] ≤ 5000; rw [nodesL_nil]; omega⟩
end
end Go.Vc
