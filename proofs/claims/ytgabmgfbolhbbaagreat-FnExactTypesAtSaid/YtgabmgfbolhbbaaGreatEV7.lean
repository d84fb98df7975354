/- Part of the proofs about the heaps and memories: a law is joined in the text whose name ends in W and the law. -/
import Derived.Test.YtgabmgfbolhbbaaGreatEV6
namespace Go.Vc
open Go Go.Proofs Go.RowKit
set_option linter.all false
/-- an image is verified -/
def imV (ds : List DeclD) (ps : List ProcD) : Prop := imOk ds ps ∧ ∀ f : Int, 0 ≤ f → f < ps.length → (verifyV ds (ps.map sigOf) (nth ps f)).isSome = true
section
variable {u u1 v w : World} {a a0 a1 : Addr} {r t n i m f : Int} {x y z s px lx cx : Sl} {I J R L : Items} {N B : Nat} {ds : List DeclD} {ss : List SigD} {ps : List ProcD}
theorem c_verS (hx : Read v x ds) (hy : Read v y ps) (him : imOk ds ps) (h0 : 0 ≤ f) (h1 : f < ps.length) (hpx : Read v px (nth ps f).params) (hlx : Read v lx (nth ps f).lent) (hcx : Read v cx (nth ps f).code) :
    Mk Tryz.prog 26 #[.agg #[x.val, y.val], .agg #[px.val, lx.val, .int .i64 (nth ps f).result, .int .i64 (nth ps f).regs, cx.val]] v fun r J => ∃ (a : Addr) (q : Bool), r = .tuple #[.pointer (some (a.add 0)), .bool q] ∧ match verifyV ds (ps.map sigOf) (nth ps f) with
      | none => q = false
      | some F => q = true ∧ Fst a F J := by
  obtain ⟨N, hpN, hN0, hNl, hpl, hcl0, hcl, hlast, hinst, hrr, hpt⟩ := him.proc h0 h1
  exact c_verifyS ⟨hx, hy, hcx, him.1, hNl, hcl, hlast, hinst⟩ hpx hlx hpl hpN hN0 hcl0 hrr hpt
theorem c_specVerified0 (hx : Read v x ds) (hy : Read v y ps) : Fn Tryz.prog 33 #[.agg #[x.val, y.val]] v (.bool (pB (imV ds ps))) := by
  refine of33 _ _ _ _ ?_
  unfold vc33
  have hyn := hy.n
  have hyl := hy.le
  refine ⟨_, c_validImage hx hy, fun hc => ?_, fun hc => ?_⟩
  · refine ⟨?_, .refl v⟩
    rw [pB_f]
    rintro ⟨q1, _⟩
    rw [pB_t q1] at hc
    simp at hc
  simp only [bls] at hc
  have him := pB_iff.1 hc
  rw [hyn]
  refine ⟨fun k w' => Sub v w' ∧ 0 ≤ k ∧ k ≤ ps.length ∧ ∀ j : Int, 0 ≤ j → j < k → (verifyV ds (ps.map sigOf) (nth ps j)).isSome = true, fun k _ => (ps.length - k).toNat, ⟨.refl v, by omega, by omega, fun j j0 j1 => by omega⟩, ?_⟩
  rintro k w ⟨hs, k0, k1, hj⟩
  dsimp only
  refine ⟨fun hi => ?_, fun hi => ?_⟩
  · simp only [bls] at hi
    obtain ⟨px, lx, cx, e1, e2, e3, e4, e5, i1, i2, r1, r2, r3⟩ := ((hy.mono hs).src (.refl w)).ofProcD k0 (by omega)
    refine ⟨hy.ix k0 (by omega), px, lx, _, _, cx, ⟨e1, e2, e3, e4, e5⟩, ?_⟩
    refine Mk.use (c_verS (hx.mono hs) (hy.mono hs) him k0 (by omega) r1 r2 r3) (.refl w) ?_
    rintro _ w1 J ⟨a, q, rfl, hm⟩ hS hs2
    refine ⟨a, q, rfl, fun hq => ?_, fun hq => ?_⟩
    · refine ⟨?_, hs.trans hs2⟩
      rw [pB_f]
      rintro ⟨_, q1⟩
      have := q1 k k0 (by omega)
      cases hv : verifyV ds (ps.map sigOf) (nth ps k) with
      | none => rw [hv] at this; cases this
      | some F => rw [hv] at hm; rw [hm.1] at hq; cases hq
    · refine go_wr (by omega) (by omega) ?_
      repeat refine go_rf ?_
      refine ⟨⟨hs.trans hs2, by omega, by omega, fun j j0 j1 => ?_⟩, by omega⟩
      by_cases e : j = k
      · subst e
        cases hv : verifyV ds (ps.map sigOf) (nth ps j) with
        | none => rw [hv] at hm; rw [hm] at hq; cases hq
        | some F => rfl
      · exact hj j j0 (by omega)
  · simp only [bls] at hi
    refine ⟨?_, hs⟩
    rw [pB_t ⟨him, fun j j0 j1 => hj j j0 (by omega)⟩]
theorem c_implVerified (hx : Read v x ds) (hy : Read v y ps) : Fn Tryz.prog 13 #[.agg #[x.val, y.val]] v (.bool (pB (imV ds ps))) := by
  refine of13 _ _ _ _ ?_
  unfold vc13
  have hyn := hy.n
  have hyl := hy.le
  refine ⟨_, c_implValidImage hx hy, fun hc => ?_, fun hc => ?_⟩
  · refine ⟨?_, .refl v⟩
    rw [pB_f]
    rintro ⟨q1, _⟩
    rw [pB_t q1] at hc
    simp at hc
  simp only [bls] at hc
  have him := pB_iff.1 hc
  rw [hyn]
  refine ⟨fun k w' => Sub v w' ∧ 0 ≤ k ∧ k ≤ ps.length ∧ ∀ j : Int, 0 ≤ j → j < k → (verifyV ds (ps.map sigOf) (nth ps j)).isSome = true, fun k _ => (ps.length - k).toNat, ⟨.refl v, by omega, by omega, fun j j0 j1 => by omega⟩, ?_⟩
  rintro k w ⟨hs, k0, k1, hj⟩
  dsimp only
  refine ⟨fun hi => ?_, fun hi => ?_⟩
  · simp only [bls] at hi
    refine Mk.use (c_verifyK (hx.mono hs) (hy.mono hs) him k0 (by omega)) (.refl w) ?_
    rintro _ w1 J ⟨a, q, rfl, hm⟩ hS hs2
    refine ⟨a, q, rfl, fun hq => ?_, fun hq => ?_⟩
    · refine ⟨?_, hs.trans hs2⟩
      rw [pB_f]
      rintro ⟨_, q1⟩
      have := q1 k k0 (by omega)
      cases hv : verifyV ds (ps.map sigOf) (nth ps k) with
      | none => rw [hv] at this; cases this
      | some F => rw [hv] at hm; rw [hm.1] at hq; cases hq
    · refine go_wr (by omega) (by omega) ?_
      repeat refine go_rf ?_
      refine ⟨⟨hs.trans hs2, by omega, by omega, fun j j0 j1 => ?_⟩, by omega⟩
      by_cases e : j = k
      · subst e
        cases hv : verifyV ds (ps.map sigOf) (nth ps j) with
        | none => rw [hv] at hm; rw [hm] at hq; cases hq
        | some F => rfl
      · exact hj j j0 (by omega)
  · simp only [bls] at hi
    refine ⟨?_, hs⟩
    rw [pB_t ⟨him, fun j j0 j1 => hj j j0 (by omega)⟩]
end
end Go.Vc

namespace Go.Vc
open Go Go.Proofs Go.RowKit
set_option linter.all false
open Classical in
/-- what is known before an instruction of a verified image -/
noncomputable def knownV (ds : List DeclD) (ps : List ProcD) (f at_ : Int) : Option VwD :=
  if imV ds ps ∧ 0 ≤ f ∧ f < ps.length ∧ 0 ≤ at_ ∧ at_ < (nth ps f).code.length then (verifyV ds (ps.map sigOf) (nth ps f)).bind fun F => nth F at_ else none
/-- one column of it -/
def colV (g : RegK → Int) (o : Option VwD) : List Int := match o with
  | none => []
  | some v => v.regs.map g
section
variable {u u1 v w : World} {a a0 a1 : Addr} {r t n i m f at_ : Int} {x y z s px lx cx : Sl} {I J R L : Items} {N B : Nat} {ds : List DeclD} {ss : List SigD} {ps : List ProcD} {F : List (Option VwD)} {vw : VwD} {p : ProcD} {ρ : Rep}
theorem PV.atI (h : OwnD x (F.map PV.mk : List (PV ρ)) I) (h0 : 0 ≤ i) (h1 : i < F.length) (hn : nth F i = some vw) : ∃ a : Addr, (∀ w, AtAll w I → w.cell? ((elA x i 1).add 0) = some (.pointer (some (a.add 0)))) ∧ ∀ w, AtAll w I → ρ.rd w a vw := by
  obtain ⟨a, K, Rest, k1, k2, k3, k4⟩ := PV.borrow h h0 h1 hn
  exact ⟨a, fun w hA => k3 w fun p hp => hA p (k2.symm.subset (List.mem_append_right _ hp)), fun w hA => ρ.get k1 fun p hp => hA p (k2.symm.subset (List.mem_append_left _ hp))⟩
theorem bringsV_len {l : List Int} : ∀ {F F' : List (Option VwD)}, bringsV vw l F = some F' → F'.length = F.length := by
  induction l with
  | nil => intro F F' h; cases h; rfl
  | cons t r ih =>
    intro F F' h
    obtain ⟨F1, h1, h⟩ := Option.bind_eq_some_iff.1 h
    have h2 := ih h
    rw [h2]
    unfold bringV at h1
    split at h1
    · cases h1; simp
    · obtain ⟨v1, _, rfl⟩ := Option.map_eq_some_iff.1 h1; simp
theorem bringV_len {F F' : List (Option VwD)} (h1 : bringV F t vw = some F') : F'.length = F.length := by
  unfold bringV at h1
  split at h1
  · cases h1; simp
  · obtain ⟨v1, _, rfl⟩ := Option.map_eq_some_iff.1 h1; simp
theorem leaveV_len {c : InstrD} {F F' : List (Option VwD)} (h : leaveV ds c i vw F = some F') : F'.length = F.length := by
  unfold leaveV at h
  split at h
  · have key : ∀ (j : Nat) {F' : List (Option VwD)}, switchV c (consL ds c.num) vw j F = some F' → F'.length = F.length := by
      intro j
      induction j with
      | zero => intro F' h; cases h; rfl
      | succ j ih =>
        intro F' h
        obtain ⟨F1, h1, h⟩ := Option.bind_eq_some_iff.1 h
        split at h
        · exact (bringV_len h).trans (ih h1)
        · cases h; exact ih h1
    exact key _ h
  · exact bringsV_len h
theorem flowV_len : ∀ (n : Nat) {F F' : List (Option VwD)}, flowV ds ss p n F = some F' → F'.length = F.length
  | 0, F, F', h => by cases h; rfl
  | n + 1, F, F', h => by
    unfold flowV at h
    obtain ⟨F1, h1, h⟩ := Option.bind_eq_some_iff.1 h
    have ih := flowV_len n h1
    split at h
    · cases h; exact ih
    · obtain ⟨v', _, h⟩ := Option.bind_eq_some_iff.1 h
      exact (leaveV_len h).trans ih
theorem verifyV_len (h : verifyV ds ss p = some F) : F.length = p.code.length := by
  have := flowV_len _ h
  rw [this]
  unfold start0
  simp
theorem c_knownAt (hx : Read v x ds) (hy : Read v y ps) : Mk Tryz.prog 36 #[.agg #[x.val, y.val], .int .i64 f, .int .i64 at_] v fun r J => match knownV ds ps f at_ with
    | none => r = .pointer none
    | some vw => ∃ a : Addr, r = .pointer (some (a.add 0)) ∧ ∀ w, AtAll w J → KRd w a vw := by
  refine of36 _ _ _ _ _ _ ?_
  unfold vc36
  have hyn := hy.n
  refine Trip.mono' (c_implVerified hx hy) ?_
  rintro _ w2 ⟨rfl, hs⟩
  refine ⟨_, rfl, ?_⟩
  rw [hyn]
  have hg : ((((!pB (imV ds ps)) || decide (f < 0)) || decide (f ≥ (ps.length : Int))) || decide (at_ < 0)) = false → imV ds ps ∧ 0 ≤ f ∧ f < ps.length ∧ 0 ≤ at_ := fun h => by
    simp only [bls] at h
    exact ⟨pB_iff.1 h.1.1.1, by omega, by omega, by omega⟩
  refine go_ixg hy (fun h => by have := hg h; omega) ?_
  refine ldg_proc_code (hy.src hs) (fun h => by have := hg h; omega) ?_
  intro cx hcx
  refine ⟨fun hc => ?_, fun hc => ?_⟩
  · have hno : knownV ds ps f at_ = none := by
      unfold knownV
      rw [if_neg]
      rintro ⟨q1, q2, q3, q4, q5⟩
      rw [pB_t q1] at hc
      have hg2 : ((((!true) || decide (f < 0)) || decide (f ≥ (ps.length : Int))) || decide (at_ < 0)) = false := by
        simp only [Bool.not_true, Bool.false_or, Bool.or_eq_false_iff, decide_eq_false_iff_not]
        omega
      rw [pB_t q1] at hcx
      have hcn := (hcx hg2).n
      rw [hg2, Bool.false_or, decide_eq_true_eq] at hc
      omega
    rw [hno]
    exact ⟨[], ⟨hs, by simp, by simp, by simp [AtAll]⟩, rfl⟩
  · have hc1 := hc
    simp only [Bool.or_eq_false_iff] at hc1
    have hgg := hg (by simp only [Bool.or_eq_false_iff]; exact hc1.1)
    have hcn := (hcx (by simp only [Bool.or_eq_false_iff]; exact hc1.1)).n
    have hat : at_ < (nth ps f).code.length := by
      have := hc1.2
      simp only [decide_eq_false_iff_not] at this
      omega
    obtain ⟨g1, g2, g3, g4⟩ := hgg
    have hsome := g1.2 f g2 g3
    refine Mk.use (c_verifyK (hx.mono hs) (hy.mono hs) g1.1 g2 g3) (St.refl w2) ?_
    rintro _ w6 J ⟨z, q, rfl, hm⟩ hS hs2
    cases hv : verifyV ds (ps.map sigOf) (nth ps f) with
    | none => rw [hv] at hsome; cases hsome
    | some F =>
      rw [hv] at hm
      obtain ⟨rfl, hO⟩ := hm
      have hl := verifyV_len hv
      have hkn : knownV ds ps f at_ = nth F at_ := by
        unfold knownV
        rw [if_pos ⟨g1, g2, g3, g4, hat⟩, hv, Option.bind_some]
      have hSv : St v w6 J := by have := hS.weakU hs; simpa using this
      refine ⟨z, true, rfl, hO.ix g4 (by simp; omega), ?_⟩
      rw [hkn]
      cases hn : nth F at_ with
      | none => exact ⟨⟨_, rfl⟩, PV.none_at hO g4 (by omega) hn hSv.at_, J, hSv, rfl⟩
      | some vw =>
        obtain ⟨a, h1, h2⟩ := PV.atI hO g4 (by omega) hn
        exact ⟨⟨_, rfl⟩, h1 w6 hSv.at_, J, hSv, a, rfl, h2⟩
theorem c_viewAt (hx : Read v x ds) (hy : Read v y ps) : Mk Tryz.prog 34 #[.agg #[x.val, y.val], .int .i64 f, .int .i64 at_] v fun r J => match knownV ds ps f at_ with
    | none => ∃ p : Option Addr, r = .tuple #[.pointer p, .bool false]
    | some vw => ∃ a : Addr, r = .tuple #[.pointer (some (a.add 0)), .bool true] ∧ ∀ w, AtAll w J → VRd w a vw := by
  refine of34 _ _ _ _ _ _ ?_
  unfold vc34
  have hyn := hy.n
  have hyl := hy.le
  refine Trip.mono' (c_specVerified0 hx hy) ?_
  rintro _ w2 ⟨rfl, hs⟩
  refine ⟨_, rfl, ?_⟩
  rw [hyn]
  refine go_wrg (fun _ => ⟨by omega, by omega⟩) ?_
  refine ⟨_, fun _ => c_inRange, ?_⟩
  have hg : ((!pB (imV ds ps)) || (!(decide (0 ≤ f) && decide (f ≤ (ps.length : Int) - 1)))) = false → imV ds ps ∧ 0 ≤ f ∧ f < ps.length := fun h => by
    simp only [bls] at h
    exact ⟨pB_iff.1 h.1, by omega, by omega⟩
  refine go_ixg hy (fun h => by have := hg h; omega) ?_
  refine ldg_proc_code (hy.src hs) (fun h => by have := hg h; omega) ?_
  intro cx hcx
  refine go_wrg (fun h => by have := (hcx h).n; have := (hcx h).le; omega) ?_
  refine ⟨_, fun _ => c_inRange, ?_⟩
  refine ⟨fun hc => ?_, fun hc => ?_⟩
  · have hno : knownV ds ps f at_ = none := by
      unfold knownV
      rw [if_neg]
      rintro ⟨q1, q2, q3, q4, q5⟩
      rw [pB_t q1] at hc hcx
      have hg2 : ((!true) || (!(decide (0 ≤ f) && decide (f ≤ (ps.length : Int) - 1)))) = false := by
        simp only [Bool.not_true, Bool.false_or, Bool.not_eq_false', Bool.and_eq_true, decide_eq_true_eq]
        omega
      have hcn := (hcx hg2).n
      rw [hg2, Bool.false_or] at hc
      simp only [Bool.not_eq_true', Bool.and_eq_false_iff, decide_eq_false_iff_not] at hc
      omega
    rw [hno]
    refine St.box (vals := [.slice none 0 0, .slice none 0 0, .slice none 0 0, .slice none 0 0, .slice none 0 0, .slice none 0 0, .slice none 0 0]) (St.refl w2) ?_
    intro a w3 I hC hS hs3
    exact ⟨[], ⟨hs.trans hs3, by simp, by simp, by simp [AtAll]⟩, _, rfl⟩
  · have hc1 := hc
    rw [Bool.or_eq_false_iff] at hc1
    obtain ⟨g1, g2, g3⟩ := hg hc1.1
    have hcn := (hcx hc1.1).n
    have hat : 0 ≤ at_ ∧ at_ < (nth ps f).code.length := by
      have := hc1.2
      simp only [Bool.not_eq_false', Bool.and_eq_true, decide_eq_true_eq] at this
      omega
    have hsome := g1.2 f g2 g3
    obtain ⟨px, lx, cx2, e1, e2, e3, e4, e5, i1, i2, r1, r2, r3⟩ := ((hy.mono hs).src (.refl w2)).ofProcD g2 g3
    refine ⟨hy.ix g2 g3, px, lx, _, _, cx2, ⟨e1, e2, e3, e4, e5⟩, ?_⟩
    refine Mk.use (c_verS (hx.mono hs) (hy.mono hs) g1.1 g2 g3 r1 r2 r3) (St.refl w2) ?_
    rintro _ w6 J ⟨a, q, rfl, hm⟩ hS hs2
    cases hv : verifyV ds (ps.map sigOf) (nth ps f) with
    | none => rw [hv] at hsome; cases hsome
    | some F =>
      rw [hv] at hm
      obtain ⟨rfl, hF⟩ := hm
      have hl := verifyV_len hv
      have hkn : knownV ds ps f at_ = nth F at_ := by
        unfold knownV
        rw [if_pos ⟨g1, g2, g3, hat.1, hat.2⟩, hv, Option.bind_some]
      obtain ⟨xx, yy, K0, K1, K2, hC, hX, hY, rfl⟩ := hF
      have hSv : St v w6 (K0 ++ (K1 ++ (K2 ++ []))) := by have := hS.weakU hs; simpa [List.append_assoc] using this
      have hYr := (hY v).read hSv
      have hA1 : ∀ {w : World}, AtAll w (K0 ++ (K1 ++ K2)) → AtAll w K1 := fun hA p hp => hA p (by simp [hp])
      have hAll : AtAll w6 (K0 ++ (K1 ++ K2)) := fun p hp => hSv.at_ p (by simpa using hp)
      refine ⟨a, true, rfl, xx, hC.load hSv rfl, hX.ix hat.1 (by simp; omega), ?_⟩
      rw [hkn]
      cases hn : nth F at_ with
      | none =>
        refine ⟨⟨_, rfl⟩, PV.none_at hX hat.1 (by omega) hn (hA1 hAll), yy, hC.load hSv rfl, ?_⟩
        refine go_ix hYr hat.1 (by simp; omega) ?_
        refine ld_bool hYr hat.1 (by simp; omega) ?_
        rw [nth_some, hn]
        exact ⟨_, by simpa using hSv, _, rfl⟩
      | some vw =>
        obtain ⟨a', h1, h2⟩ := PV.atI hX hat.1 (by omega) hn
        refine ⟨⟨_, rfl⟩, h1 w6 (hA1 hAll), yy, hC.load hSv rfl, ?_⟩
        refine go_ix hYr hat.1 (by simp; omega) ?_
        refine ld_bool hYr hat.1 (by simp; omega) ?_
        rw [nth_some, hn]
        exact ⟨K0 ++ (K1 ++ K2), by simpa using hSv, a', rfl, fun w hA => h2 w (hA1 hA)⟩
theorem c_specTypesAt (hx : Read v x ds) (hy : Read v y ps) : Mk Tryz.prog 20 #[.agg #[x.val, y.val], .int .i64 f, .int .i64 at_] v fun r J => ∃ z, r = z.val ∧ OwnI z (colV RegK.typ (knownV ds ps f at_)) J := by
  refine of20 _ _ _ _ _ _ ?_
  unfold vc20
  refine Mk.use (c_viewAt hx hy) (.refl v) ?_
  intro r w2 J hr hS hs
  cases hk : knownV ds ps f at_ with
  | none =>
    rw [hk] at hr
    obtain ⟨p, rfl⟩ := hr
    exact ⟨⟨_, rfl⟩, false, rfl, fun _ => ⟨[], ⟨hs, by simp, by simp, by simp [AtAll]⟩, ⟨none, 0, 0⟩, rfl, fun u => Own.nil u⟩, fun h => by cases h⟩
  | some vw =>
    rw [hk] at hr
    obtain ⟨a, rfl, hA⟩ := hr
    obtain ⟨x2, e2, r2⟩ := (hA w2 (fun p hp => hS.at_ p (by simp [hp]))).k1
    refine ⟨⟨_, rfl⟩, true, rfl, (fun h => by cases h), fun _ => ⟨a.add 0, rfl, x2, e2, ?_⟩⟩
    refine Mk.usew (c_copyInts r2) hS ?_
    rintro _ w3 J3 ⟨z, rfl, hZ⟩ hS hs3
    exact ⟨_, rfl, J3, hS.left, z, rfl, hZ.toI⟩
theorem c_implTypesAt (hx : Read v x ds) (hy : Read v y ps) : Mk Tryz.prog 21 #[.agg #[x.val, y.val], .int .i64 f, .int .i64 at_] v fun r J => ∃ z, r = z.val ∧ OwnI z (colV RegK.typ (knownV ds ps f at_)) J := by
  refine of21 _ _ _ _ _ _ ?_
  unfold vc21
  refine Mk.use (c_knownAt hx hy) (.refl v) ?_
  intro r w2 J hr hS hs
  cases hk : knownV ds ps f at_ with
  | none =>
    rw [hk] at hr
    subst hr
    refine ⟨⟨_, rfl⟩, rfl, ?_⟩
    refine go_ptrE knownPtr ⟨fun _ => ?_, (fun h => by cases h)⟩
    exact ⟨[], ⟨hs, by simp, by simp, by simp [AtAll]⟩, ⟨none, 0, 0⟩, rfl, fun u => Own.nil u⟩
  | some vw =>
    rw [hk] at hr
    obtain ⟨a, rfl, hA⟩ := hr
    refine ⟨⟨_, rfl⟩, rfl, ?_⟩
    refine go_ptrE knownPtr ⟨(fun h => by cases h), fun _ => ?_⟩
    obtain ⟨u1, hs1, hS1, hJ⟩ := hS.freeze J
    obtain ⟨x1, x2, e1, e2, r1, r2⟩ := hA u1 hJ.at_
    clear hS
    have hn := r1.n
    have hle := r1.le
    refine ⟨a.add 0, rfl, x1, cell_sub hS1.sub e1, ?_⟩
    rw [hn]
    refine St.makeInts hS1 (by omega) (by omega) (by decide) ?_
    intro z w3 K hO hS hs3
    refine ⟨_, rfl, a.add 0, rfl, x1, cell_sub hS.sub e1, ?_⟩
    rw [hn]
    refine ⟨fun k w' => ∃ (T : List Int) (K : Items), Own u1 z T K ∧ T.length = vw.regs.length ∧ (∀ j : Int, 0 ≤ j → j < k → nth T j = (vw.reg j).typ) ∧ St u1 w' (K ++ []) ∧ 0 ≤ k ∧ k ≤ vw.regs.length, fun k _ => (vw.regs.length - k).toNat, ⟨_, K, hO, by simp, (fun j j0 j1 => by omega), hS, by omega, by omega⟩, ?_⟩
    clear hO hS hs3
    rintro k w ⟨T, K, hO, hTl, hTt, hS, k0, k1⟩
    dsimp only
    refine ⟨fun hi => ?_, fun hi => ?_⟩
    · simp only [bls] at hi
      have hbd : InI (vw.reg k).typ := by
        obtain ⟨row, ⟨_, b1, b2, _⟩, _⟩ := (r1.mono hS.sub).row k0 hi
        exact b1
      obtain ⟨c1, c2, c3, c4, c5, c6⟩ := rk (r1.mono hS.sub) k0 hi
      refine ⟨r1.ix k0 hi, _, _, _, _, _, _, ⟨c1, c2, c3, c4, c5, c6⟩, hO.ix k0 (by omega), ?_⟩
      refine st_int hO hS k0 (by omega) hbd ?_
      intro w4 K4 hO hS
      refine go_wr (by omega) (by omega) ?_
      repeat refine go_rf ?_
      refine ⟨⟨_, K4, hO, by simpa using hTl, fun j j0 j1 => ?_, hS, by omega, by omega⟩, by omega⟩
      · rw [nth_set _ _ _ _ k0 (by omega) j0]
        split
        · rename_i e; rw [e]
        · exact hTt j j0 (by omega)
    · simp only [bls] at hi
      refine ⟨K, hS.left.weakU hs1, z, rfl, ?_⟩
      have : T = vw.regs.map RegK.typ := by
        refine List.ext_getElem (by simpa using hTl) fun j j1 j2 => ?_
        have := hTt j (by omega) (by omega)
        rw [nth_of (i := j) (l := T) (a := T[j]) (by simp [j1])] at this
        rw [this, List.getElem_map]
        unfold VwD.reg
        rw [nth_of (i := j) (l := vw.regs) (a := vw.regs[j]) (by simp)]
      show OwnI z (vw.regs.map RegK.typ) K
      rw [← this]
      exact hO.toI
end
end Go.Vc

namespace Go.Vc
open Go Go.Proofs Go.RowKit
set_option linter.all false
theorem c_specTypesAtI {v : World} {x y : Sl} {m : ImD} {f at_ : Int} (hx : Read v x m.decls) (hy : Read v y m.procs) : Mk Tryz.prog 20 #[.agg #[x.val, y.val], .int .i64 f, .int .i64 at_] v fun r J => ∃ z, r = z.val ∧ OwnI z (colV RegK.typ (knownV m.decls m.procs f at_)) J := c_specTypesAt hx hy
theorem c_implTypesAtI {v : World} {x y : Sl} {m : ImD} {f at_ : Int} (hx : Read v x m.decls) (hy : Read v y m.procs) : Mk Tryz.prog 21 #[.agg #[x.val, y.val], .int .i64 f, .int .i64 at_] v fun r J => ∃ z, r = z.val ∧ OwnI z (colV RegK.typ (knownV m.decls m.procs f at_)) J := c_implTypesAt hx hy
theorem l_ExactTypesAt {v : World} {x y : Sl} {m : ImD} {f at_ : Int} (hx : ReadB BM v x m.decls) (hy : ReadB BM v y m.procs) :
    Trip Tryz.prog 6 #[.agg #[x.val, y.val], .int .i64 f, .int .i64 at_] v fun r v' => r = .bool true ∧ Sub v v' := by
  refine of6 _ _ _ _ _ _ ?_
  unfold vc6
  refine ⟨_, c_szImage (b := 1048576) hx hy (by omega) (by omega), fun hc => ⟨rfl, .refl v⟩, fun hc => ?_⟩
  simp only [bls] at hc
  obtain ⟨b1, b2⟩ := szI_le hc
  replace hx : Read v x m.decls := hx.shr (by omega)
  replace hy : Read v y m.procs := hy.shr (by omega)
  have hendA : endIm m ≤ 100000000 := endIm_le (by omega)
  have hendA2 : 1 ≤ endIm m := endIm_pos m
  refine Mk.use (c_toImageM hx hy) (.refl v) ?_
  rintro _ w1 _ ⟨x2, x3, J4, J5, rfl, h6, h7, rfl⟩ hS hsub
  replace hS : St v w1 (J4 ++ (J5 ++ [])) := hS.perm (by
    classical
    exact List.perm_iff_count.2 fun a => by (try simp only [List.count_append, List.count_nil]) <;> omega)
  refine ⟨_, _, rfl, ?_⟩
  replace hS : St v w1 ((J4 ++ (J5 ++ [])) ++ ([])) := hS.perm (by
    classical
    exact List.perm_iff_count.2 fun a => by (try simp only [List.count_append, List.count_nil]) <;> omega)
  obtain ⟨u8, hsu8, hS, hJ⟩ := hS.freeze (J4 ++ (J5 ++ []))
  have r9 : Read u8 x2 (m.decls) := OwnD.read1 h6 (hJ.to : St v u8 (J4 ++ [])).left
  have r10 : Read u8 x3 (m.procs) := OwnD.read1 h7 (hJ.to : St v u8 (J5 ++ [])).left
  clear hJ
  refine Mk.use (c_specTypesAtI (m := m) r9 r10 ) hS ?_
  rintro _ w14 J13 ⟨x11, rfl, h12⟩ hS hsub
  replace hS : St u8 w14 (J13 ++ []) := hS.perm (by
    classical
    exact List.perm_iff_count.2 fun a => by (try simp only [List.count_append, List.count_nil]) <;> omega)
  replace hS : St u8 w14 ((J13 ++ []) ++ ([])) := hS.perm (by
    classical
    exact List.perm_iff_count.2 fun a => by (try simp only [List.count_append, List.count_nil]) <;> omega)
  obtain ⟨u15, hsu15, hS, hJ⟩ := hS.freeze (J13 ++ [])
  have r16 : Read u15 x11 ((colV RegK.typ (knownV m.decls m.procs f at_))) := OwnI.read1 (u := u8) h12 (hJ.to : St u8 u15 (J13 ++ [])).left
  clear hJ
  have hvu : Sub v u15 := hsu8.trans hsu15
  replace hx := hx.mono hvu
  replace hy := hy.mono hvu
  refine ⟨_, rfl, ?_⟩
  refine Mk.use (c_toImageM hx hy) hS ?_
  rintro _ w17 _ ⟨x18, x19, J20, J21, rfl, h22, h23, rfl⟩ hS hsub
  replace hS : St u15 w17 (J20 ++ (J21 ++ [])) := hS.perm (by
    classical
    exact List.perm_iff_count.2 fun a => by (try simp only [List.count_append, List.count_nil]) <;> omega)
  refine ⟨_, _, rfl, ?_⟩
  refine Mk.usew (c_implTypesAtI (m := m) (OwnD.read h22 hS) (OwnD.read h23 hS) ) hS ?_
  rintro _ w27 J26 ⟨x24, rfl, h25⟩ hS hsub
  replace hS : St u15 w27 (J26 ++ (J20 ++ (J21 ++ []))) := hS.perm (by
    classical
    exact List.perm_iff_count.2 fun a => by (try simp only [List.count_append, List.count_nil]) <;> omega)
  refine ⟨_, rfl, _, c_eqIntS (l := (colV RegK.typ (knownV m.decls m.procs f at_))) (ws := (colV RegK.typ (knownV m.decls m.procs f at_))) (OwnI.read h25 hS) (r16.mono hS.sub), fun hc => ?_, fun _ => ?_⟩
  · simp at hc
  refine Mk.use (c_toImageM hx hy) hS ?_
  rintro _ w28 _ ⟨x29, x30, J31, J32, rfl, h33, h34, rfl⟩ hS hsub
  replace hS : St u15 w28 (J31 ++ (J32 ++ (J26 ++ (J20 ++ (J21 ++ []))))) := hS.perm (by
    classical
    exact List.perm_iff_count.2 fun a => by (try simp only [List.count_append, List.count_nil]) <;> omega)
  refine ⟨_, _, rfl, hsub, _, c_eqImageM (m := m) (m' := m) (OwnD.read h22 hS) (OwnD.read h23 hS) (OwnD.read h33 hS) (OwnD.read h34 hS), fun hc => ?_, fun _ => ?_⟩
  · simp at hc
  replace hS : St u15 w28 (J26 ++ (J20 ++ (J21 ++ []))) := hS.to
  replace hS : St u15 w28 (J20 ++ (J21 ++ (J26 ++ []))) := hS.perm (by
    classical
    exact List.perm_iff_count.2 fun a => by (try simp only [List.count_append, List.count_nil]) <;> omega)
  refine Trip.mono' (c_markImageM (m := m) h22 h23 hS (by omega)) ?_
  rintro _ w39 ⟨J35, J36, rfl, h37, h38, hS⟩
  refine ⟨_, rfl, _, fun _ => c_eqIntS (l := (colV RegK.typ (knownV m.decls m.procs f at_))) (ws := (colV RegK.typ (knownV m.decls m.procs f at_))) (OwnI.read h25 hS) (r16.mono hS.sub), fun hc => ?_, fun _ => ?_⟩
  · simp at hc
    omega
  replace hS : St u15 w39 (J26 ++ []) := hS.to
  replace hS : St u15 w39 (J26 ++ []) := hS.perm (by
    classical
    exact List.perm_iff_count.2 fun a => by (try simp only [List.count_append, List.count_nil]) <;> omega)
  refine Trip.mono' (c_markIntSI (l := (colV RegK.typ (knownV m.decls m.procs f at_))) h25 hS (by omega) (by omega)) ?_
  rintro _ w42 ⟨J40, rfl, h41, hS⟩
  refine ⟨_, rfl, _, c_heldIntS (OwnI.read h41 hS) (by omega) (by omega), fun hc => ?_, fun _ => ⟨fun hc => ?_, fun _ => ?_⟩⟩
  · simp only [bls] at hc; omega
  · simp at hc
  refine Mk.use (c_toImageM hx hy) hS ?_
  rintro _ w43 _ ⟨x44, x45, J46, J47, rfl, h48, h49, rfl⟩ hS hsub
  replace hS : St u15 w43 (J46 ++ (J47 ++ (J40 ++ []))) := hS.perm (by
    classical
    exact List.perm_iff_count.2 fun a => by (try simp only [List.count_append, List.count_nil]) <;> omega)
  refine ⟨_, _, rfl, ?_⟩
  refine Mk.usew (c_implTypesAtI (m := m) (OwnD.read h48 hS) (OwnD.read h49 hS) ) hS ?_
  rintro _ w53 J52 ⟨x50, rfl, h51⟩ hS hsub
  replace hS : St u15 w53 (J52 ++ (J46 ++ (J47 ++ (J40 ++ [])))) := hS.perm (by
    classical
    exact List.perm_iff_count.2 fun a => by (try simp only [List.count_append, List.count_nil]) <;> omega)
  refine ⟨_, rfl, _, c_eqIntS (l := (colV RegK.typ (knownV m.decls m.procs f at_))) (ws := (colV RegK.typ (knownV m.decls m.procs f at_))) (OwnI.read h51 hS) (r16.mono hS.sub), fun hc => ?_, fun _ => ?_⟩
  · simp at hc
  refine ⟨_, c_heldIntS (OwnI.read h41 hS) (by omega) (by omega), fun hc => ?_, fun _ => ⟨fun hc => ?_, fun _ => ⟨rfl, hvu.trans hS.sub⟩⟩⟩
  · simp only [bls] at hc; omega
  · simp at hc
end Go.Vc
