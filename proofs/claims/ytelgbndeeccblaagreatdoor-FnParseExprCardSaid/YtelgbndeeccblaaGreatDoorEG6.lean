/- Part of the proofs about the heaps and memories: a law is joined in the text whose name ends in W and the law. -/
import Derived.Test.YtelgbndeeccblaaGreatDoorEG4
namespace Go.Vc
open Go Go.Proofs Go.RowKit
set_option linter.all false
theorem VOf.mono {α : Type} [Dat α] {u u' : World} {v : Value} {e : α} (h : VOf u v e) (hs : Sub u u') : VOf u' v e := ⟨h.1, Dat.mono hs h.2⟩
section
variable {u u' u0 v w : World} {x y z s tx x1 x2 x3 : Sl} {ds : List DeclD} {fs : List FunD} {a : Addr} {I J L R : Items} {F : Items → Items} {m m' N N' N1 N2 N3 n n1 n2 k1 k2 l1 l2 op num t b f at_ : Int} {vars types : List Int} {ks : List ExprD} {e : ExprD}
/-- what is owned to the leaves: the list itself one's own, the rest read from now on -/
theorem GS.split {α : Type} [DatO α] {l : List α} (h : GS u a (J ++ R) m w) (hO : OwnD x l J) : ∃ u' J0, Sub u u' ∧ GS u' a (J0 ++ R) m w ∧ Own u' x l J0 := by
 obtain ⟨rows, I0, Is, E, h1, h2, h3, h4, h5, h6⟩ := hO
 obtain ⟨I, hR, hS⟩ := h
 have hS : St u w ((Is.flatten ++ E) ++ (I ++ (I0 ++ R))) := hS.perm (by
  classical
  exact List.perm_iff_count.2 fun a => by have := h5.count_eq a; simp only [List.count_append] at *; omega)
 obtain ⟨u2, hu, hS2, hJ⟩ := hS.freeze (Is.flatten ++ E)
 refine ⟨u2, I0, hu, ⟨I, hR.mono hu, hS2⟩, rows, h1, ⟨h2, fun i r b hr hb => ?_⟩, h6⟩
 have hlt : i < Is.length := by
  have := (List.getElem?_eq_some_iff.1 hr).1
  omega
 have hI := List.getElem?_eq_getElem hlt
 refine DatO.read (h4 i r b _ hr hb hI) fun p hp => hJ.at_ p ?_
 exact List.mem_append_left _ (List.mem_flatten.2 ⟨_, List.getElem_mem hlt, hp⟩)
/-- an expression, whatever it is -/
def EW (u : World) (n1 n2 : Int) (x : Sl) : Prop := ∃ e : ExprD, n1 = e.op ∧ n2 = e.num ∧ Read u x e.kids ∧ InI e.op ∧ InI e.num
theorem EW.mono (h : EW u n1 n2 x) (hs : Sub u u') : EW u' n1 n2 x := let ⟨e, h1, h2, h3, h4⟩ := h; ⟨e, h1, h2, h3.mono hs, h4⟩
theorem EW.mk (h1 : InI op) (h2 : InI num) (hx : Read u x ks) : EW u op num x := ⟨⟨op, num, ks⟩, rfl, rfl, hx, h1, h2⟩
/-- a program and the number of one of its functions -/
theorem c_someBody (hm : m + 2000000 ≤ 999900000) (h : GS u a R m w) :
  Trip Tryz.prog 60 #[.pointer (some (a.add 0))] w fun r w' => ∃ (x y : Sl) (k : Int), r = .tuple #[.agg #[x.val, y.val], .int .i64 k] ∧ ∃ u' ds fs J, Sub u u' ∧ GS u' a (J ++ R) (m + 1000001) w' ∧ Read u' x ds ∧ Own u' y fs J ∧ GD ds ∧ 1 ≤ fs.length ∧ fs.length ≤ 4 ∧ (∀ f ∈ fs, FOk f) ∧ 0 ≤ k ∧ k < fs.length := by
 refine of60 _ _ _ ?_
 unfold vc60
 refine (c_goodProgram (by omega) h).mono' ?_
 rintro _ w1 ⟨x, y, rfl, u1, ds, fs, J, hu1, h, hx, hO, hgd, hl1, hl4, hok⟩
 have hyn := hO.n
 refine ⟨_, _, rfl, ?_⟩
 refine gs_pick h (by omega) (by omega) (by omega) fun k w2 h k0 k1 _ => ?_
 exact ⟨x, y, k, rfl, u1, ds, fs, J, hu1, h.le (by omega), hx, hO, hgd, hl1, hl4, hok, k0, by omega⟩
end
end Go.Vc

namespace Go.Vc
open Go Go.Proofs Go.RowKit
set_option linter.all false
section
variable {u u' v w : World} {x y z s x1 : Sl} {a : Addr} {I J L R : Items} {m n n1 n2 op num : Int} {bs : List UInt8} {ks : List ExprD} {e : ExprD}
theorem GS.start {code : List UInt8} {K : Addr → World → Prop} (hx : Read v x code) (k : ∀ a w', GS v a [] 0 w' → K a w') : Trip Tryz.prog 54 #[x.val] v fun r w' => ∃ a : Addr, r = .pointer (some (a.add 0)) ∧ K a w' := by
 refine Mk.use (c_newReader hx) (.refl v) ?_
 rintro _ w1 J1 ⟨a, rfl, hR⟩ hS _
 exact ⟨a, rfl, k a w1 ⟨J1, hR, hS⟩⟩
end
end Go.Vc
