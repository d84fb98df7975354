/- Part of the proofs about the heaps and memories: a law is joined in the text whose name ends in W and the law. -/
import Derived.Test.YtelgbndeeccblaaGreatDoorEP1
import Derived.Test.YtelgbndeeccblaaGreatDoorEV1
namespace Go.Vc
open Go Go.Proofs Go.RowKit
set_option linter.all false
/-- the declarations and the signatures that the generator makes -/
def dLi : DeclD := ⟨0, 0, [⟨[]⟩, ⟨[0, 1]⟩]⟩
def dAr : DeclD := ⟨0, 0, []⟩
def dTr : DeclD := ⟨0, 0, [⟨[]⟩, ⟨[3, 0, 3]⟩]⟩
def lastG : List DeclD := [⟨0, 0, [⟨[1, 3]⟩]⟩, ⟨1, 0, []⟩, ⟨0, 0, [⟨[1, 1, 0]⟩, ⟨[0]⟩, ⟨[3]⟩]⟩, ⟨0, 1, []⟩]
def GD (ds : List DeclD) : Prop := ds = [dLi, dAr, dTr] ∨ ∃ d ∈ lastG, ds = [dLi, dAr, dTr, d]
def sigsG : List (List Int × Int) := [([], 0), ([1], 0), ([1, 1], 1), ([1], 1), ([1, 0], 1), ([2, 1], 1), ([1, 1], 0), ([3], 0), ([0], 1), ([0, 1], 1), ([3, 0], 3), ([3], 1), ([1, 3, 0], 0), ([0], 0), ([0, 0], 0), ([1, 0], 0)]
def GF (fs : List FunD) : Prop := 1 ≤ fs.length ∧ fs.length ≤ 4 ∧ ∀ f ∈ fs, (f.params, f.result) ∈ sigsG
theorem GD.cases {ds : List DeclD} (h : GD ds) : ds = [dLi, dAr, dTr] ∨ ds = [dLi, dAr, dTr, ⟨0, 0, [⟨[1, 3]⟩]⟩] ∨ ds = [dLi, dAr, dTr, ⟨1, 0, []⟩] ∨ ds = [dLi, dAr, dTr, ⟨0, 0, [⟨[1, 1, 0]⟩, ⟨[0]⟩, ⟨[3]⟩]⟩] ∨ ds = [dLi, dAr, dTr, ⟨0, 1, []⟩] := by
  rcases h with h | ⟨d, hd, h⟩
  · exact .inl h
  · simp only [lastG, List.mem_cons, List.not_mem_nil, or_false] at hd
    rcases hd with rfl | rfl | rfl | rfl
    · exact .inr (.inl h)
    · exact .inr (.inr (.inl h))
    · exact .inr (.inr (.inr (.inl h)))
    · exact .inr (.inr (.inr (.inr h)))
theorem GD.len {ds : List DeclD} (h : GD ds) : 3 ≤ ds.length ∧ ds.length ≤ 4 := by
  rcases h.cases with rfl | rfl | rfl | rfl | rfl <;> exact ⟨by decide, by decide⟩
theorem GD.nth0 {ds : List DeclD} (h : GD ds) : nth ds 0 = dLi ∧ nth ds 1 = dAr ∧ nth ds 2 = dTr := by
  rcases h.cases with rfl | rfl | rfl | rfl | rfl <;> exact ⟨rfl, rfl, rfl⟩
theorem int4 {i : Int} (h0 : 0 ≤ i) (h1 : i < 4) : i = 0 ∨ i = 1 ∨ i = 2 ∨ i = 3 := by omega
theorem GD.types {ds : List DeclD} (h : GD ds) : typesOk ds := by
  refine ⟨h.len.2, fun i h0 h1 => ?_⟩
  rcases h.cases with rfl | rfl | rfl | rfl | rfl <;> rcases int4 h0 (by simp at h1; omega) with rfl | rfl | rfl | rfl <;> first
    | (simp at h1; done)
    | (unfold declOk
       first
       | (rw [if_pos (by decide)]
          refine ⟨by decide, rfl, rfl, ?_⟩
          intro c hc
          simp [nth, dLi, dTr] at hc
          first
          | (rcases hc with rfl | rfl | rfl <;> exact ⟨by decide, by decide⟩)
          | (rcases hc with rfl | rfl <;> exact ⟨by decide, by decide⟩)
          | (rcases hc with rfl <;> exact ⟨by decide, by decide⟩))
       | (rw [if_neg (by decide)]
          refine ⟨?_, by decide, by decide⟩
          intro j j0 j1
          first
          | omega
          | (have hj : j = 0 ∨ j = 1 ∨ j = 2 := by omega
             rcases hj with rfl | rfl | rfl <;> first | omega | decide)))
theorem GF.mem {fs : List FunD} (h : GF fs) {i : Int} (h0 : 0 ≤ i) (h1 : i < fs.length) : ((nth fs i).params, (nth fs i).result) ∈ sigsG := h.2.2 _ (nth_mem h0 h1)
theorem sig_facts {p : List Int × Int} (h : p ∈ sigsG) : p.1.length ≤ 3 ∧ (∀ t ∈ p.1, 0 ≤ t ∧ t ≤ 3) ∧ 0 ≤ p.2 ∧ p.2 ≤ 3 ∧ (∀ t ∈ p.1.dropLast, t = 0 ∨ t = 1 ∨ t = 3 ∨ (p.1.getLast? = some 1 ∧ p.2 = 1)) := by
  have : ∀ q ∈ sigsG, q.1.length ≤ 3 ∧ (∀ t ∈ q.1, 0 ≤ t ∧ t ≤ 3) ∧ 0 ≤ q.2 ∧ q.2 ≤ 3 ∧ (∀ t ∈ q.1.dropLast, t = 0 ∨ t = 1 ∨ t = 3 ∨ (q.1.getLast? = some 1 ∧ q.2 = 1)) := by decide
  exact this p h
theorem conF_at {ds : List DeclD} {t k : Int} (t0 : 1 ≤ t) (t1 : t ≤ ds.length) (k0 : 0 ≤ k) (k1 : k < (nth ds (t - 1)).cons.length) : conF ds (firstC ds (t - 1).toNat + k) = (nth (nth ds (t - 1)).cons k).fields := by
  have hs : conI ds (firstC ds (t - 1).toNat + k) = t - 1 := by
    refine conI_some (by omega) (by omega) ⟨by omega, by omega⟩ fun j j0 j1 hj => ?_
    have h1 := firstC_succ (ds := ds) (i := j) j0 (by omega)
    have h2 := firstC_mono (ds := ds) (a := (j + 1).toNat) (b := (t - 1).toNat) (by omega)
    obtain ⟨q1, q2⟩ := hj
    omega
  unfold conF
  rw [hs, if_neg (by omega)]
  congr 2
  omega
theorem consL_nth {ds : List DeclD} {t k : Int} (t0 : 1 ≤ t) (t1 : t ≤ ds.length) (k0 : 0 ≤ k) (k1 : k < (nth ds (t - 1)).cons.length) : nth (consL ds t) k = firstC ds (t - 1).toNat + k := by
  unfold consL
  rw [if_pos ⟨t0, t1⟩]
  refine nth_of ?_
  rw [List.getElem?_map, List.getElem?_range (by omega)]
  simp only [Option.map_some, Option.some.injEq]
  omega
theorem consL_length {ds : List DeclD} {t : Int} (t0 : 1 ≤ t) (t1 : t ≤ ds.length) : (consL ds t).length = (nth ds (t - 1)).cons.length := by
  unfold consL
  rw [if_pos ⟨t0, t1⟩]
  simp
theorem conF_nth {ds : List DeclD} {t k : Int} (t0 : 1 ≤ t) (t1 : t ≤ ds.length) (k0 : 0 ≤ k) (k1 : k < (nth ds (t - 1)).cons.length) : conF ds (nth (consL ds t) k) = (nth (nth ds (t - 1)).cons k).fields := by rw [consL_nth t0 t1 k0 k1, conF_at t0 t1 k0 k1]
theorem consL_none {ds : List DeclD} {t : Int} (h : ¬ (1 ≤ t ∧ t ≤ ds.length)) : consL ds t = [] := by
  unfold consL
  rw [if_neg h]
/-- of a type of lists or trees the first constructor has no fields, the second contains the type -/
theorem GD.low {ds : List DeclD} (h : GD ds) {t : Int} (ht : t = 1 ∨ t = 3) : (consL ds t).length = 2 ∧ conF ds (nth (consL ds t) 0) = [] ∧ t ∈ conF ds (nth (consL ds t) 1) := by
  obtain ⟨e0, e1, e2⟩ := h.nth0
  have hl := h.len.1
  rcases ht with rfl | rfl
  · have e : nth ds (1 - 1) = dLi := e0
    refine ⟨by rw [consL_length (by omega) (by omega), e]; rfl, ?_, ?_⟩
    · rw [conF_nth (by omega) (by omega) (by omega) (by rw [e]; decide), e]; rfl
    · rw [conF_nth (by omega) (by omega) (by omega) (by rw [e]; decide), e]; decide
  · have e : nth ds (3 - 1) = dTr := e2
    refine ⟨by rw [consL_length (by omega) (by omega), e]; rfl, ?_, ?_⟩
    · rw [conF_nth (by omega) (by omega) (by omega) (by rw [e]; decide), e]; rfl
    · rw [conF_nth (by omega) (by omega) (by omega) (by rw [e]; decide), e]; decide
/-- a type of which expressions are made at once -/
def lowT (t : Int) : Prop := t = 0 ∨ t = 1 ∨ t = 3
theorem GD.high {ds : List DeclD} (h : GD ds) {t c : Int} (ht : ¬ lowT t) (hc : c ∈ consL ds t) : ∀ p ∈ conF ds c, lowT p := by
  have hl := h.len
  by_cases h4 : 1 ≤ t ∧ t ≤ ds.length
  · obtain ⟨k, hk, rfl⟩ := List.getElem_of_mem hc
    have hk' : (k : Int) < (nth ds (t - 1)).cons.length := by rw [← consL_length h4.1 h4.2]; omega
    have e := conF_nth h4.1 h4.2 (k := k) (by omega) hk'
    rw [nth_of (a := (consL ds t)[k]) (by simp [List.getElem?_eq_getElem hk])] at e
    rw [e]
    unfold lowT at ht
    have : t = 2 ∨ t = 4 := by omega
    rcases this with rfl | rfl
    · have e1 : nth ds (2 - 1) = dAr := h.nth0.2.1
      rw [e1] at hk'
      simp [dAr] at hk'
      omega
    · rcases h.cases with rfl | rfl | rfl | rfl | rfl
      · simp at h4
      · have hk2 : (k : Int) < 1 := hk'
        have : k = 0 := by omega
        subst this
        intro p hp
        simp [nth] at hp
        unfold lowT; omega
      · have hk2 : (k : Int) < 0 := hk'
        omega
      · have hk2 : (k : Int) < 3 := hk'
        have : k = 0 ∨ k = 1 ∨ k = 2 := by omega
        rcases this with rfl | rfl | rfl <;> intro p hp <;> simp [nth] at hp <;> unfold lowT <;> omega
      · have hk2 : (k : Int) < 0 := hk'
        omega
  · rw [consL_none h4] at hc
    cases hc
end Go.Vc

namespace Go.Vc
open Go Go.Proofs Go.RowKit
set_option linter.all false
/-- the program that the generator reads: declarations at the base, functions in blocks of R -/
structure PrgG (u : World) (R : Items) (x y : Sl) (ds : List DeclD) (fs : List FunD) : Prop where
  gd : GD ds
  gf : GF fs
  rx : Read u x ds
  ry : ∀ (u' w' : World) (I' : Items), Sub u u' → St u' w' (I' ++ R) → Src u' w' y fs
/-- the reader, and nothing else that changes -/
def GS (u : World) (a : Addr) (R : Items) (m : Int) (w : World) : Prop := ∃ I, Rdr u a m I ∧ St u w (I ++ R)
/-- an expression that has been made -/
def EV (u : World) (N : Int) (n1 n2 : Int) (x : Sl) : Prop := ∃ e : ExprD, n1 = e.op ∧ n2 = e.num ∧ Read u x e.kids ∧ canE e = true ∧ (nodesE e : Int) ≤ N
def GQ (u : World) (a : Addr) (R : Items) (m N : Int) (n1 n2 : Int) (x : Sl) (w : World) : Prop := ∃ u', Sub u u' ∧ GS u' a R m w ∧ EV u' N n1 n2 x
section
variable {u u' v w : World} {x y z s : Sl} {ds : List DeclD} {fs : List FunD} {a : Addr} {I J L R : Items} {F : Items → Items} {m m' N N' n n1 n2 op num t b : Int} {l vars : List Int} {ks : List ExprD} {e : ExprD}
theorem PrgG.mono (h : PrgG u R x y ds fs) (hs : Sub u u') : PrgG u' R x y ds fs := ⟨h.gd, h.gf, h.rx.mono hs, fun u2 w2 I2 h1 => h.ry u2 w2 I2 (hs.trans h1)⟩
theorem PrgG.app (h : PrgG u R x y ds fs) (J : Items) : PrgG u (J ++ R) x y ds fs := ⟨h.gd, h.gf, h.rx, fun u2 w2 I2 h1 h2 => h.ry u2 w2 (I2 ++ J) h1 (by rw [List.append_assoc]; exact h2)⟩
theorem Src.rd {α : Type} [Dat α] {l : List α} (h : Src u w y l) (hs : Sub u w) : Read w y l := let ⟨rows, h1, h2, h3⟩ := h; ⟨rows, h1, h2.mono hs, h3⟩
theorem GS.sub (h : GS u a R m w) : Sub u w := let ⟨_, _, h2⟩ := h; h2.sub
theorem GS.le (h : GS u a R m w) (hm : m ≤ m') : GS u a R m' w := let ⟨I, h1, h2⟩ := h; ⟨I, h1.le hm, h2⟩
theorem PrgG.fsr (hp : PrgG u R x y ds fs) (h : GS u a R m w) : Read w y fs := let ⟨I, _, h2⟩ := h; (hp.ry u w I (.refl u) h2).rd h2.sub
theorem PrgG.src (hp : PrgG u R x y ds fs) (h : GS u a R m w) : Src u w y fs := let ⟨I, _, h2⟩ := h; hp.ry u w I (.refl u) h2
theorem EV.mono (h : EV u N n1 n2 x) (hs : Sub u u') : EV u' N n1 n2 x := let ⟨e, h1, h2, h3, h4⟩ := h; ⟨e, h1, h2, h3.mono hs, h4⟩
theorem EV.le (h : EV u N n1 n2 x) (hs : N ≤ N') : EV u N' n1 n2 x := let ⟨e, h1, h2, h3, h4, h5⟩ := h; ⟨e, h1, h2, h3, h4, by omega⟩
theorem GQ.le (h : GQ u' a R m N n1 n2 x w) (hs : Sub u u') (hm : m ≤ m') (hN : N ≤ N') : GQ u a R m' N' n1 n2 x w := let ⟨u2, h1, h2, h3⟩ := h; ⟨u2, hs.trans h1, h2.le hm, h3.le hN⟩
theorem EV.mk (hx : Read u x ks) (hc : canL ks = true) (hok : okN op num ks.length = true) (hN : 1 + (nodesL ks : Int) ≤ N) : EV u N op num x :=
  ⟨⟨op, num, ks⟩, rfl, rfl, hx, by rw [canE_eq]; show (okN op num ks.length && canL ks) = true; rw [hok, hc]; rfl, by rw [nodesE_eq]; show ((1 + nodesL ks : Nat) : Int) ≤ N; omega⟩
/-- what has been made is read from now on -/
theorem GS.freeze (h : GS u a (J ++ R) m w) : ∃ u', Sub u u' ∧ GS u' a R m w ∧ St u u' J := by
  obtain ⟨I, h1, h2⟩ := h
  obtain ⟨u2, hu, hS, hJ⟩ := h2.freeze J
  exact ⟨u2, hu, ⟨I, h1.mono hu, hS⟩, hJ⟩
end
end Go.Vc

namespace Go.Vc
open Go Go.Proofs Go.RowKit
set_option linter.all false
section
variable {u u' v w : World} {x y z s : Sl} {ds : List DeclD} {fs : List FunD} {a : Addr} {I J L R : Items} {F : Items → Items} {m m' N N' n n1 n2 op num t b : Int} {l vars : List Int} {ks : List ExprD} {e : ExprD}
end
end Go.Vc

namespace Go.Vc
open Go Go.Proofs Go.RowKit
set_option linter.all false
section
variable {u u' v w : World} {x y z s : Sl} {ds : List DeclD} {fs : List FunD} {a : Addr} {I J L R : Items} {F : Items → Items} {m m' N N' n n1 n2 op num t b : Int} {l vars types : List Int} {ks : List ExprD} {e : ExprD}
end
end Go.Vc

namespace Go.Vc
open Go Go.Proofs Go.RowKit
set_option linter.all false
section
variable {u u' v w : World} {x y z s tx : Sl} {ds : List DeclD} {fs : List FunD} {a : Addr} {I J L R : Items} {F : Items → Items} {m m' N N' n n1 n2 op num t b : Int} {l vars types : List Int} {ks : List ExprD} {e : ExprD}
end
end Go.Vc

namespace Go.Vc
open Go Go.Proofs Go.RowKit
set_option linter.all false
section
variable {u u' u0 v w : World} {x y z s tx x1 x2 x3 : Sl} {ds : List DeclD} {fs : List FunD} {a : Addr} {I J L R : Items} {F : Items → Items} {m m' N N' N1 N2 N3 n n1 n2 k1 k2 l1 l2 op num t b : Int} {l vars types : List Int} {ks : List ExprD} {e : ExprD}
end
end Go.Vc
