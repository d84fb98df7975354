/- Part of the proofs about the heaps and memories: a law is joined in the text whose name ends in W and the law. -/
import Derived.Test.YtgabmgfbolhbbaaGreatEV6
namespace Go.Vc
open Go Go.Proofs Go.RowKit
set_option linter.all false
/-- an image is verified -/
def imV (ds : List DeclD) (ps : List ProcD) : Prop := imOk ds ps ∧ ∀ f : Int, 0 ≤ f → f < ps.length → (verifyV ds (ps.map sigOf) (nth ps f)).isSome = true
section
variable {u u1 v w : World} {a a0 a1 : Addr} {r t n i m f : Int} {x y z s px lx cx : Sl} {I J R L : Items} {N B : Nat} {ds : List DeclD} {ss : List SigD} {ps : List ProcD}
theorem c_verS (hx : Read v x ds) (hy : Read v y ps) (him : imOk ds ps) (h0 : 0 ≤ f) (h1 : f < ps.length) (hpx : Read v px (nth ps f).params) (hlx : Read v lx (nth ps f).lent) (hcx : Read v cx (nth ps f).code) :
    Mk Tryz.prog 26 #[.agg #[x.val, y.val], .agg #[px.val, lx.val, .int .i64 (nth ps f).result, .int .i64 (nth ps f).regs, cx.val]] v fun r J => ∃ (a : Addr) (q : Bool), r = .tuple #[.pointer (some (a.add 0)), .bool q] ∧ match verifyV ds (ps.map sigOf) (nth ps f) with
      | none => q = false
      | some F => q = true ∧ Fst a F J := by
  obtain ⟨N, hpN, hN0, hNl, hpl, hcl0, hcl, hlast, hinst, hrr, hpt⟩ := him.proc h0 h1
  exact c_verifyS ⟨hx, hy, hcx, him.1, hNl, hcl, hlast, hinst⟩ hpx hlx hpl hpN hN0 hcl0 hrr hpt
theorem c_specVerified0 (hx : Read v x ds) (hy : Read v y ps) : Fn Tryz.prog 33 #[.agg #[x.val, y.val]] v (.bool (pB (imV ds ps))) := by
  refine of33 _ _ _ _ ?_
  unfold vc33
  have hyn := hy.n
  have hyl := hy.le
  refine ⟨_, c_validImage hx hy, fun hc => ?_, fun hc => ?_⟩
  · refine ⟨?_, .refl v⟩
    rw [pB_f]
    rintro ⟨q1, _⟩
    rw [pB_t q1] at hc
    simp at hc
  simp only [bls] at hc
  have him := pB_iff.1 hc
  rw [hyn]
  refine ⟨fun k w' => Sub v w' ∧ 0 ≤ k ∧ k ≤ ps.length ∧ ∀ j : Int, 0 ≤ j → j < k → (verifyV ds (ps.map sigOf) (nth ps j)).isSome = true, fun k _ => (ps.length - k).toNat, ⟨.refl v, by omega, by omega, fun j j0 j1 => by omega⟩, ?_⟩
  rintro k w ⟨hs, k0, k1, hj⟩
  dsimp only
  refine ⟨fun hi => ?_, fun hi => ?_⟩
  · simp only [bls] at hi
    obtain ⟨px, lx, cx, e1, e2, e3, e4, e5, i1, i2, r1, r2, r3⟩ := ((hy.mono hs).src (.refl w)).ofProcD k0 (by omega)
    refine ⟨hy.ix k0 (by omega), px, lx, _, _, cx, ⟨e1, e2, e3, e4, e5⟩, ?_⟩
    refine Mk.use (c_verS (hx.mono hs) (hy.mono hs) him k0 (by omega) r1 r2 r3) (.refl w) ?_
    rintro _ w1 J ⟨a, q, rfl, hm⟩ hS hs2
    refine ⟨a, q, rfl, fun hq => ?_, fun hq => ?_⟩
    · refine ⟨?_, hs.trans hs2⟩
      rw [pB_f]
      rintro ⟨_, q1⟩
      have := q1 k k0 (by omega)
      cases hv : verifyV ds (ps.map sigOf) (nth ps k) with
      | none => rw [hv] at this; cases this
      | some F => rw [hv] at hm; rw [hm.1] at hq; cases hq
    · refine go_wr (by omega) (by omega) ?_
      repeat refine go_rf ?_
      refine ⟨⟨hs.trans hs2, by omega, by omega, fun j j0 j1 => ?_⟩, by omega⟩
      by_cases e : j = k
      · subst e
        cases hv : verifyV ds (ps.map sigOf) (nth ps j) with
        | none => rw [hv] at hm; rw [hm] at hq; cases hq
        | some F => rfl
      · exact hj j j0 (by omega)
  · simp only [bls] at hi
    refine ⟨?_, hs⟩
    rw [pB_t ⟨him, fun j j0 j1 => hj j j0 (by omega)⟩]
theorem c_specVerified (hx : Read v x ds) (hy : Read v y ps) : Fn Tryz.prog 12 #[.agg #[x.val, y.val]] v (.bool (pB (imV ds ps))) := by
  refine of12 _ _ _ _ ?_
  unfold vc12
  refine Trip.mono' (c_specVerified0 hx hy) ?_
  rintro _ w ⟨rfl, hs⟩
  exact ⟨_, rfl, rfl, hs⟩
theorem c_implVerified (hx : Read v x ds) (hy : Read v y ps) : Fn Tryz.prog 13 #[.agg #[x.val, y.val]] v (.bool (pB (imV ds ps))) := by
  refine of13 _ _ _ _ ?_
  unfold vc13
  have hyn := hy.n
  have hyl := hy.le
  refine ⟨_, c_implValidImage hx hy, fun hc => ?_, fun hc => ?_⟩
  · refine ⟨?_, .refl v⟩
    rw [pB_f]
    rintro ⟨q1, _⟩
    rw [pB_t q1] at hc
    simp at hc
  simp only [bls] at hc
  have him := pB_iff.1 hc
  rw [hyn]
  refine ⟨fun k w' => Sub v w' ∧ 0 ≤ k ∧ k ≤ ps.length ∧ ∀ j : Int, 0 ≤ j → j < k → (verifyV ds (ps.map sigOf) (nth ps j)).isSome = true, fun k _ => (ps.length - k).toNat, ⟨.refl v, by omega, by omega, fun j j0 j1 => by omega⟩, ?_⟩
  rintro k w ⟨hs, k0, k1, hj⟩
  dsimp only
  refine ⟨fun hi => ?_, fun hi => ?_⟩
  · simp only [bls] at hi
    refine Mk.use (c_verifyK (hx.mono hs) (hy.mono hs) him k0 (by omega)) (.refl w) ?_
    rintro _ w1 J ⟨a, q, rfl, hm⟩ hS hs2
    refine ⟨a, q, rfl, fun hq => ?_, fun hq => ?_⟩
    · refine ⟨?_, hs.trans hs2⟩
      rw [pB_f]
      rintro ⟨_, q1⟩
      have := q1 k k0 (by omega)
      cases hv : verifyV ds (ps.map sigOf) (nth ps k) with
      | none => rw [hv] at this; cases this
      | some F => rw [hv] at hm; rw [hm.1] at hq; cases hq
    · refine go_wr (by omega) (by omega) ?_
      repeat refine go_rf ?_
      refine ⟨⟨hs.trans hs2, by omega, by omega, fun j j0 j1 => ?_⟩, by omega⟩
      by_cases e : j = k
      · subst e
        cases hv : verifyV ds (ps.map sigOf) (nth ps j) with
        | none => rw [hv] at hm; rw [hm] at hq; cases hq
        | some F => rfl
      · exact hj j j0 (by omega)
  · simp only [bls] at hi
    refine ⟨?_, hs⟩
    rw [pB_t ⟨him, fun j j0 j1 => hj j j0 (by omega)⟩]
theorem l_ExactVerified (hx : ReadB BM v x ds) (hy : ReadB BM v y ps) :
    Trip Tryz.prog 4 #[.agg #[x.val, y.val]] v fun r v' => r = .bool true ∧ Sub v v' := by
  refine of4 _ _ _ _ ?_
  unfold vc4
  refine ⟨_, c_szImage (b := 1048576) hx hy (by omega) (by omega), fun hc => ⟨rfl, .refl v⟩, fun hc => ?_⟩
  simp only [bls] at hc
  obtain ⟨b1, b2⟩ := szI_le hc
  replace hx : Read v x ds := hx.shr (by omega)
  replace hy : Read v y ps := hy.shr (by omega)
  refine Mk.use (c_toImage hx hy) (.refl v) ?_
  rintro _ w1 _ ⟨x1, y1, J1, J2, rfl, h1, h2, rfl⟩ hS _
  replace hS : St v w1 (J1 ++ (J2 ++ [])) := hS.perm (by
    classical
    exact List.perm_iff_count.2 fun a => by (try simp only [List.count_append, List.count_nil]) <;> omega)
  refine ⟨_, _, rfl, ?_⟩
  refine Fn.use (c_specVerified (h1.read hS) (h2.read hS)) hS ?_
  intro w2 hS _
  refine ⟨_, rfl, ?_⟩
  refine Mk.use (c_toImage hx hy) hS ?_
  rintro _ w3 _ ⟨x2, y2, J3, J4, rfl, h3, h4, rfl⟩ hS _
  replace hS : St v w3 (J3 ++ (J4 ++ (J1 ++ (J2 ++ [])))) := hS.perm (by
    classical
    exact List.perm_iff_count.2 fun a => by (try simp only [List.count_append, List.count_nil]) <;> omega)
  refine ⟨_, _, rfl, ?_⟩
  refine Fn.use (c_implVerified (h3.read hS) (h4.read hS)) hS ?_
  intro w4 hS _
  refine ⟨_, rfl, fun hc => by simp at hc, fun _ => ?_⟩
  refine Mk.use (c_toImage hx hy) hS ?_
  rintro _ w5 _ ⟨x3, y3, J5, J6, rfl, h5, h6, rfl⟩ hS hsub
  replace hS : St v w5 (J3 ++ (J4 ++ (J5 ++ (J6 ++ (J1 ++ (J2 ++ [])))))) := hS.perm (by
    classical
    exact List.perm_iff_count.2 fun a => by (try simp only [List.count_append, List.count_nil]) <;> omega)
  refine ⟨_, _, rfl, hsub, _, c_eqImage (h3.read hS) (h4.read hS) (h5.read hS) (h6.read hS), fun hc => ?_, fun _ => ⟨rfl, hS.sub⟩⟩
  simp at hc
end
end Go.Vc
