/- Part of the proofs about the heaps and memories: a law is joined in the text whose name ends in W and the law. -/
import Derived.Test.YtelgbndeeccblaaDoorEV1
namespace Go.Vc
open Go Go.Proofs Go.RowKit
set_option linter.all false
section
variable {u w : World} {v v' : VwD} {a : Addr} {r t n i o e_ at_ f m : Int} {k k' : RegK} {x y z ax jx px lx cx : Sl} {I R L : Items} {N B B' : Nat} {ds : List DeclD} {ss : List SigD} {ps : List ProcD} {c : InstrD} {ts : List Int}
theorem arrI_some (h0 : 0 ≤ i) (h1 : i < ds.length) (h : arrP ds f t i) (hm : ∀ j : Int, 0 ≤ j → j < i → ¬ arrP ds f t j) : arrI ds f t = i + 1 := by
  have hex : ∃ k : Nat, k < ds.length ∧ arrP ds f t k := ⟨i.toNat, by omega, by rw [show ((i.toNat : Nat) : Int) = i from by omega]; exact h⟩
  unfold arrI
  rw [if_pos hex]
  have h2 := leastM_spec hex
  have h3 := leastM_le (p := fun k : Nat => k < ds.length ∧ arrP ds f t k) (k := i.toNat) ⟨by omega, by rw [show ((i.toNat : Nat) : Int) = i from by omega]; exact h⟩
  have h4 : ¬ (leastM (fun k : Nat => k < ds.length ∧ arrP ds f t k) : Int) < i := fun hh => hm _ (by omega) hh h2.2
  omega
theorem arrI_none (h : ∀ j : Int, 0 ≤ j → j < ds.length → ¬ arrP ds f t j) : arrI ds f t = -1 := by
  unfold arrI
  rw [if_neg]
  rintro ⟨k, hk, hp⟩
  exact h k (by omega) (by omega) hp
theorem c_arrowOf {v : World} (hx : Read v x ds) (hl : ds.length ≤ 4) : Fn Tryd.prog 142 #[x.val, .int .i64 f, .int .i64 t] v (.int .i64 (arrI ds f t)) := by
  refine of142 _ _ _ _ _ ?_
  unfold vc142
  have hn := hx.n
  refine ⟨fun i w => v = w ∧ 0 ≤ i ∧ i ≤ ds.length ∧ ∀ j : Int, 0 ≤ j → j < i → ¬ arrP ds f t j, fun i _ => (ds.length - i).toNat, ⟨rfl, by omega, by omega, fun j j0 j1 => by omega⟩, ?_⟩
  rintro i _ ⟨rfl, i0, i1, hj⟩
  refine ⟨fun hi => ?_, fun hi => ?_⟩
  · simp only [bls] at hi
    have hil : i < ds.length := by omega
    obtain ⟨f_cons, e1, e2, e3, j1, j2, r1⟩ := (hx.src (.refl v)).ofDeclD i0 hil
    have hcn := r1.n
    refine go_ix hx i0 hil ?_
    refine ⟨f_cons, e3, ?_⟩
    refine go_ixg hx (fun _ => ⟨i0, hil⟩) ?_
    refine ⟨_, fun _ => e1, ?_⟩
    refine go_ixg hx (fun _ => ⟨i0, hil⟩) ?_
    refine ⟨_, fun _ => e2, ?_⟩
    refine ⟨fun hq => ?_, fun hq => ?_⟩
    · simp only [bls] at hq
      refine go_wr (by omega) (by omega) ?_
      exact ⟨by rw [arrI_some i0 hil ⟨by omega, hq.1.2, hq.2⟩ hj], .refl _⟩
    · refine go_wr (by omega) (by omega) ?_
      refine ⟨⟨rfl, by omega, by omega, fun j j0 j1 => ?_⟩, by dsimp only; omega⟩
      by_cases e : j = i
      · subst e
        rintro ⟨q1, q2, q3⟩
        have : f_cons.n = 0 := by omega
        simp [this, q2, q3] at hq
      · exact hj j j0 (by omega)
  · simp only [bls] at hi
    exact ⟨by rw [arrI_none fun j j0 j1 => hj j j0 (by omega)], .refl _⟩
theorem c_isArrow {v : World} (hx : Read v x ds) (hl : ds.length ≤ 4) : ∃ q, (q = true ↔ isArr ds n) ∧ Fn Tryd.prog 135 #[x.val, .int .i64 n] v (.bool q) := by
  classical
  refine ⟨decide (isArr ds n), by simp, ?_⟩
  refine of135 _ _ _ _ ?_
  unfold vc135
  have hn := hx.n
  refine ⟨_, c_inRange, ?_⟩
  have hg : (decide (1 ≤ n) && decide (n ≤ (x.n : Int))) = true → 1 ≤ n ∧ n ≤ ds.length := fun h => by simp only [bls] at h; omega
  refine go_wrg (fun h => by have := hg h; omega) ?_
  refine go_ixg hx (fun h => by have := hg h; omega) ?_
  refine ldg_decl_cons (hx.src (.refl v)) (fun h => by have := hg h; omega) ?_
  intro g hr
  refine ⟨?_, .refl _⟩
  congr 1
  rw [Bool.eq_iff_iff]
  simp only [Bool.and_eq_true, decide_eq_true_eq]
  constructor
  · intro h
    have := (hr (by simp only [Bool.and_eq_true, decide_eq_true_eq]; exact h.1)).n
    exact ⟨h.1.1, by omega, by omega⟩
  · rintro ⟨q1, q2, q3⟩
    have := (hr (by simp only [Bool.and_eq_true, decide_eq_true_eq]; omega)).n
    exact ⟨⟨q1, by omega⟩, by omega⟩
end
end Go.Vc

namespace Go.Vc
open Go Go.Proofs Go.RowKit
set_option linter.all false
section
variable {u w : World} {v v' : VwD} {a : Addr} {r t n i o e_ at_ f m : Int} {k k' : RegK} {x y z ax jx px lx cx : Sl} {I R L : Items} {N B B' : Nat} {ds : List DeclD} {ss : List SigD} {ps : List ProcD} {c : InstrD} {ts : List Int}
end
end Go.Vc

namespace Go.Vc
open Go Go.Proofs Go.RowKit
set_option linter.all false
/-- an instruction of a valid image -/
structure InP (ds : List DeclD) (ss : List SigD) (N : Nat) (e_ at_ : Int) (c : InstrD) : Prop where
  sg : sigSigs ds ss
  ok : instrOk ds ss N e_ at_ c
  hN : N ≤ 2000
section
variable {u w : World} {v v' : VwD} {a : Addr} {r t n i o e_ at_ f m rr : Int} {k k' : RegK} {x y z ax jx px lx cx : Sl} {I R L : Items} {N B B' : Nat} {ds : List DeclD} {ss : List SigD} {ps : List ProcD} {c : InstrD} {ts : List Int} {F F' : List (Option VwD)}
theorem InD.P (h : InD u x y ax jx ds ps N e_ at_ c) : InP ds (ps.map sigOf) N e_ at_ c := ⟨h.sg, h.ok, h.hN⟩
theorem InP.args (h : InP ds ss N e_ at_ c) : ∀ k : Int, 0 ≤ k → k < c.args.length → 0 ≤ nth c.args k ∧ nth c.args k < N := fun k k0 k1 => by
  have := List.all_eq_true.1 h.ok.2.1 _ (nth_mem k0 k1)
  unfold laterB at this
  simp only [Bool.and_eq_true, decide_eq_true_eq] at this
  omega
theorem InP.dst (h : InP ds ss N e_ at_ c) : 0 ≤ c.dst ∧ c.dst < N := h.ok.2.2.1
/-! ### joins -/
/-- all that is known is well-formed -/
def WfF (N B : Nat) (F : List (Option VwD)) : Prop := ∀ (i : Int) (v : VwD), nth F i = some v → Wf N B v
theorem WfF.mono (h : WfF N B F) (hb : B ≤ B') : WfF N B' F := fun i v hv => (h i v hv).mono hb
theorem WfF.set (h : WfF N B F) (hv : Wf N B v) (h0 : 0 ≤ i) (h1 : i < F.length) : WfF N B (F.set i.toNat (some v)) := by
  intro j v2 hj
  by_cases j0 : 0 ≤ j
  · rw [nth_set _ _ _ _ h0 h1 j0] at hj
    split at hj
    · cases hj; exact hv
    · exact h j v2 hj
  · have e : nth (F.set i.toNat (some v)) j = nth (F.set i.toNat (some v)) 0 := by unfold nth; rw [show j.toNat = (0 : Int).toNat from by omega]
    rw [e, nth_set _ _ _ _ h0 h1 (Int.le_refl 0)] at hj
    split at hj
    · cases hj; exact hv
    · exact h 0 v2 hj
end
end Go.Vc

namespace Go.Vc
open Go Go.Proofs Go.RowKit
set_option linter.all false
section
variable {u v w : World} {x y z : Sl} {l m : List Int}
end
section
variable {u w : World} {v v' o : VwD} {a a1 : Addr} {r t n i e_ at_ f m rr : Int} {k k' : RegK} {x y z ax jx px lx cx : Sl} {I R L : Items} {N B B' : Nat} {ds : List DeclD} {ss : List SigD} {ps : List ProcD} {c : InstrD} {ts : List Int} {F F' : List (Option VwD)} {g : RegK → Int}
end
end Go.Vc
