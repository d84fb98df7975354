/- Part of the proofs about the heaps and memories: a law is joined in the text whose name ends in W and the law. -/
import Derived.Test.YtgabmgfbolhbbaaGreatEV6
namespace Go.Vc
open Go Go.Proofs Go.RowKit
set_option linter.all false
/-- a procedure is verified -/
def procV (ds : List DeclD) (ps : List ProcD) (f : Int) : Prop := imOk ds ps ∧ 0 ≤ f ∧ f < ps.length ∧ (verifyV ds (ps.map sigOf) (nth ps f)).isSome = true
section
variable {u u1 v w : World} {a a0 a1 : Addr} {r t n i m f : Int} {x y z s px lx cx : Sl} {I J R L : Items} {N B : Nat} {ds : List DeclD} {ss : List SigD} {ps : List ProcD}
theorem c_verS (hx : Read v x ds) (hy : Read v y ps) (him : imOk ds ps) (h0 : 0 ≤ f) (h1 : f < ps.length) (hpx : Read v px (nth ps f).params) (hlx : Read v lx (nth ps f).lent) (hcx : Read v cx (nth ps f).code) :
    Mk Tryz.prog 26 #[.agg #[x.val, y.val], .agg #[px.val, lx.val, .int .i64 (nth ps f).result, .int .i64 (nth ps f).regs, cx.val]] v fun r J => ∃ (a : Addr) (q : Bool), r = .tuple #[.pointer (some (a.add 0)), .bool q] ∧ match verifyV ds (ps.map sigOf) (nth ps f) with
      | none => q = false
      | some F => q = true ∧ Fst a F J := by
  obtain ⟨N, hpN, hN0, hNl, hpl, hcl0, hcl, hlast, hinst, hrr, hpt⟩ := him.proc h0 h1
  exact c_verifyS ⟨hx, hy, hcx, him.1, hNl, hcl, hlast, hinst⟩ hpx hlx hpl hpN hN0 hcl0 hrr hpt
theorem c_specVerifiedProc (hx : Read v x ds) (hy : Read v y ps) : Fn Tryz.prog 8 #[.agg #[x.val, y.val], .int .i64 f] v (.bool (pB (procV ds ps f))) := by
  refine of8 _ _ _ _ _ ?_
  unfold vc8
  have hyn := hy.n
  have hyl := hy.le
  refine ⟨_, c_validImage hx hy, ?_⟩
  rw [hyn]
  refine go_wrg (fun _ => ⟨by omega, by omega⟩) ?_
  refine ⟨_, fun _ => c_inRange, fun hc => ?_, fun hc => ?_⟩
  · refine ⟨?_, .refl v⟩
    rw [pB_f]
    rintro ⟨q1, q2, q3, _⟩
    rw [pB_t q1] at hc
    simp only [bls] at hc
    omega
  simp only [bls] at hc
  obtain ⟨hc1, hc2⟩ := hc
  have him := pB_iff.1 hc1
  have h0 : 0 ≤ f := by omega
  have h1 : f < ps.length := by omega
  obtain ⟨px, lx, cx, e1, e2, e3, e4, e5, i1, i2, r1, r2, r3⟩ := (hy.src (.refl v)).ofProcD h0 h1
  refine ⟨hy.ix h0 h1, px, lx, _, _, cx, ⟨e1, e2, e3, e4, e5⟩, ?_⟩
  refine Mk.use (c_verS hx hy him h0 h1 r1 r2 r3) (.refl v) ?_
  rintro _ w1 J ⟨a, q, rfl, hm⟩ hS hs
  refine ⟨a, q, rfl, ?_, hs⟩
  congr 1
  refine pB_eq ⟨fun hq => ⟨him, h0, h1, ?_⟩, fun hq => ?_⟩
  · cases hv : verifyV ds (ps.map sigOf) (nth ps f) with
    | none => rw [hv] at hm; rw [hm] at hq; cases hq
    | some F => rfl
  · have := hq.2.2.2
    cases hv : verifyV ds (ps.map sigOf) (nth ps f) with
    | none => rw [hv] at this; cases this
    | some F => rw [hv] at hm; exact hm.1
theorem c_implVerifiedProc (hx : Read v x ds) (hy : Read v y ps) : Fn Tryz.prog 10 #[.agg #[x.val, y.val], .int .i64 f] v (.bool (pB (procV ds ps f))) := by
  refine of10 _ _ _ _ _ ?_
  unfold vc10
  have hyn := hy.n
  refine ⟨_, c_implValidImage hx hy, ?_⟩
  rw [hyn]
  refine ⟨fun hc => ?_, fun hc => ?_⟩
  · refine ⟨?_, .refl v⟩
    rw [pB_f]
    rintro ⟨q1, q2, q3, _⟩
    rw [pB_t q1] at hc
    simp only [bls] at hc
    omega
  simp only [bls] at hc
  have him := pB_iff.1 hc.1.1
  have h0 : 0 ≤ f := by omega
  have h1 : f < ps.length := by omega
  refine Mk.use (c_verifyK hx hy him h0 h1) (.refl v) ?_
  rintro _ w1 J ⟨a, q, rfl, hm⟩ hS hs
  refine ⟨a, q, rfl, ?_, hs⟩
  congr 1
  refine pB_eq ⟨fun hq => ⟨him, h0, h1, ?_⟩, fun hq => ?_⟩
  · cases hv : verifyV ds (ps.map sigOf) (nth ps f) with
    | none => rw [hv] at hm; rw [hm] at hq; cases hq
    | some F => rfl
  · have := hq.2.2.2
    cases hv : verifyV ds (ps.map sigOf) (nth ps f) with
    | none => rw [hv] at this; cases this
    | some F => rw [hv] at hm; exact hm.1
theorem l_ExactVerifiedProc (hx : ReadB BM v x ds) (hy : ReadB BM v y ps) :
    Trip Tryz.prog 3 #[.agg #[x.val, y.val], .int .i64 f] v fun r v' => r = .bool true ∧ Sub v v' := by
  refine of3 _ _ _ _ _ ?_
  unfold vc3
  refine ⟨_, c_szImage (b := 1048576) hx hy (by omega) (by omega), fun hc => ⟨rfl, .refl v⟩, fun hc => ?_⟩
  simp only [bls] at hc
  obtain ⟨b1, b2⟩ := szI_le hc
  replace hx : Read v x ds := hx.shr (by omega)
  replace hy : Read v y ps := hy.shr (by omega)
  refine Mk.use (c_toImage hx hy) (.refl v) ?_
  rintro _ w1 _ ⟨x1, y1, J1, J2, rfl, h1, h2, rfl⟩ hS _
  replace hS : St v w1 (J1 ++ (J2 ++ [])) := hS.perm (by
    classical
    exact List.perm_iff_count.2 fun a => by (try simp only [List.count_append, List.count_nil]) <;> omega)
  refine ⟨_, _, rfl, ?_⟩
  refine Fn.use (c_specVerifiedProc (h1.read hS) (h2.read hS)) hS ?_
  intro w2 hS _
  refine ⟨_, rfl, ?_⟩
  refine Mk.use (c_toImage hx hy) hS ?_
  rintro _ w3 _ ⟨x2, y2, J3, J4, rfl, h3, h4, rfl⟩ hS _
  replace hS : St v w3 (J3 ++ (J4 ++ (J1 ++ (J2 ++ [])))) := hS.perm (by
    classical
    exact List.perm_iff_count.2 fun a => by (try simp only [List.count_append, List.count_nil]) <;> omega)
  refine ⟨_, _, rfl, ?_⟩
  refine Fn.use (c_implVerifiedProc (h3.read hS) (h4.read hS)) hS ?_
  intro w4 hS _
  refine ⟨_, rfl, fun hc => by simp at hc, fun _ => ?_⟩
  refine Mk.use (c_toImage hx hy) hS ?_
  rintro _ w5 _ ⟨x3, y3, J5, J6, rfl, h5, h6, rfl⟩ hS hsub
  replace hS : St v w5 (J3 ++ (J4 ++ (J5 ++ (J6 ++ (J1 ++ (J2 ++ [])))))) := hS.perm (by
    classical
    exact List.perm_iff_count.2 fun a => by (try simp only [List.count_append, List.count_nil]) <;> omega)
  refine ⟨_, _, rfl, hsub, _, c_eqImage (h3.read hS) (h4.read hS) (h5.read hS) (h6.read hS), fun hc => ?_, fun _ => ⟨rfl, hS.sub⟩⟩
  simp at hc
end
end Go.Vc
