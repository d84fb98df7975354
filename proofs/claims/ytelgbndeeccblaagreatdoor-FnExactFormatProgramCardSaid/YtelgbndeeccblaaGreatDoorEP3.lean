/- Part of the proofs about the heaps and memories: a law is joined in the text whose name ends in W and the law. -/
import Derived.Test.YtelgbndeeccblaaGreatDoorEP2
import Derived.Test.YtelgbndeeccblaaGreatDoorEP0
namespace Go.Vc
open Go Go.Proofs Go.RowKit
set_option linter.all false
/-- declarations and signatures in memory, all valid, nothing lent -/
structure SgI (v : World) (x s : Sl) (ds : List DeclD) (ss : List SigD) : Prop where
  hx : Read v x ds
  hs : Read v s ss
  sg : sigSigs ds ss
  le : ∀ i : Int, (nth ss i).lent.length = 0
theorem SgI.mono {v w : World} {x s : Sl} {ds : List DeclD} {ss : List SigD} (h : SgI v x s ds ss) (hs : Sub v w) : SgI w x s ds ss := ⟨h.hx.mono hs, h.hs.mono hs, h.sg, h.le⟩
theorem SgI.sm {v : World} {x s : Sl} {ds : List DeclD} {ss : List SigD} (h : SgI v x s ds ss) : SmDs ds := h.sg.1.sm
def TyI (ds : List DeclD) (ss : List SigD) (e : ExprD) : Prop := ∀ (u w : World) (x s z f : Sl) (vars : List Int) (I R : Items), SgI u x s ds ss → Own u z vars I → St u w (I ++ R) → nonneg vars → Read u f e.kids → InI e.num → vars.length + 4 * nodesE e ≤ 10000 →
  Trip Tryz.prog 125 #[.agg #[x.val, s.val], z.val, .agg #[.int .i64 e.op, .int .i64 e.num, f.val]] w fun r w' => r = .int .i64 (gD (tyX ds ss e vars)) ∧ ∃ I', Own u z vars I' ∧ St u w' (I' ++ R)
section
variable {u v w : World} {x y z s f kx fx tx : Sl} {vars T W : List Int} {ds : List DeclD} {fs : List FunD} {ss : List SigD} {e : ExprD} {kids : List ExprD} {ff : List (List Int)} {n num op t : Int} {I J L R : Items}
theorem c_fieldsOfE (hx : Read v x ds) (hd : SmDs ds) (hn : InI n) : ∃ z : Sl, Read v z (conF ds n) ∧ Fn Tryz.prog 173 #[x.val, .int .i64 n] v z.val := by
  obtain ⟨z, hz, h⟩ := c_conAtA hx hd hn
  refine ⟨z, hz, ?_⟩
  refine of173 _ _ _ _ ?_
  unfold vc173
  exact ⟨_, z, h, rfl, .refl v⟩
theorem arm_nth {i : Int} (h0 : 0 ≤ i) (h1 : i < kids.length) (hl : kids.length = ff.length) : (armT vars ff (kids.map (tyX ds ss)))[i.toNat]? = some (tyX ds ss (nth kids i) (vars ++ nth ff i)) := by
  unfold armT
  rw [List.getElem?_zipWith, nth_get h0 (by omega), List.getElem?_map, nth_get h0 h1]
  rfl
theorem c_oneTypeI (H : ∀ k ∈ kids, TyI ds ss k) (hg : SgI u x s ds ss) (hO : Own u z vars I) (hF : Own u fx ff J) (hS : St u w (J ++ (I ++ R))) (hv : nonneg vars) (hk : Read u kx kids) (hfl : kids.length = ff.length) (hfn : ∀ i : Int, nonneg (nth ff i) ∧ (nth ff i).length ≤ 3) (hb : vars.length + 3 + 4 * nodesL kids ≤ 10000) :
    Trip Tryz.prog 171 #[.agg #[x.val, s.val], z.val, kx.val, fx.val] w fun r w' => r = .int .i64 (gD (same1 (armT vars ff (kids.map (tyX ds ss))))) ∧ ∃ I', Own u z vars I' ∧ St u w' (J ++ (I' ++ R)) := by
  refine of171 _ _ _ _ _ _ _ ?_
  unfold vc171
  have hkn := hk.n
  have hkl := hk.le
  refine ⟨fun t i w => (∃ I', Own u z vars I' ∧ St u w (J ++ (I' ++ R))) ∧ 0 ≤ i ∧ i ≤ kids.length ∧ (i = 0 → t = -1) ∧ ∀ j : Int, 0 ≤ j → j < i → tyX ds ss (nth kids j) (vars ++ nth ff j) = some t, fun _ i _ => (kids.length - i).toNat, ⟨⟨I, hO, hS⟩, by omega, by omega, fun _ => rfl, fun j j0 j1 => by omega⟩, ?_⟩
  clear hO hS
  rintro t i w ⟨⟨I, hO, hS⟩, i0, i1, ht, hj⟩
  dsimp only
  refine ⟨fun hi => ?_, fun hi => ?_⟩
  · simp only [bls] at hi
    have hil : i < kids.length := by omega
    have hmem := nth_mem (l := kids) i0 hil
    have hnm := nodes_mem hmem
    obtain ⟨g, e1, e2, e3, j1, j2, rg⟩ := (hk.src hS.sub).ofExprD i0 hil
    have hfr := hF.read hS
    obtain ⟨row, ⟨gf, rfl, hgf⟩, hc⟩ := hfr.row (i := i) i0 (by omega)
    have hfi := hfn i
    have hvn : nonneg (vars ++ nth ff i) := hv.app hfi.1
    refine go_ix hk i0 hil ?_
    refine ⟨_, _, g, ⟨e1, e2, e3⟩, ?_⟩
    refine go_ix hfr i0 (by omega) ?_
    refine ⟨gf, hc 0 _ rfl, ?_⟩
    refine St.build (α := List Int) (l := [vars, nth ff i]) (St.refl w) (.cons (.list (hO.read hS)) (.cons (.list hgf) .nil)) rfl (by decide) ?_
    intro z2 w2 I2 hO2 hS2 hs2
    refine ⟨_, rfl, hs2, ?_⟩
    have hSj := hS.join hS2.left
    refine Mk.usew (c_concat2 (hO2.read hS2) (by omega) (by omega)) hSj ?_
    rintro _ w3 J3 ⟨z3, rfl, hO3⟩ hS3 hs3
    refine ⟨_, rfl, hs3, ?_⟩
    refine (H _ hmem u w3 x s z3 g _ J3 _ hg (hO3.ofInts (u' := u)) hS3 hvn rg j2 (by rw [List.length_append]; omega)).mono' ?_
    rintro _ w4 ⟨rfl, I4, hO4, hS4⟩
    have hS5 : St u w4 (J ++ (I ++ R)) := hS4.to
    refine ⟨_, rfl, fun hq => ⟨?_, I, hO, hS5⟩, fun hq => ?_⟩
    · simp only [bls] at hq
      cases hs : same1 (armT vars ff (kids.map (tyX ds ss))) with
      | none => rfl
      | some t' =>
        exfalso
        have h1 := same1_some hs _ (List.mem_of_getElem? (arm_nth (i := i) i0 hil hfl))
        rw [h1, gD_some] at hq
        have hnn := tyX_nn hg.sg _ _ _ hvn h1
        rcases hq with hq | ⟨hq, hq2⟩
        · omega
        · have h2 := hj 0 (by omega) (by omega)
          have h3 := same1_some hs _ (List.mem_of_getElem? (arm_nth (i := 0) (by omega) (by omega) hfl))
          rw [h2] at h3
          cases h3
          exact hq2 rfl
    · simp only [bls] at hq
      refine go_wr (by omega) (by omega) ?_
      refine ⟨rfl, rfl, ⟨⟨I, hO, hS5⟩, by omega, by omega, fun h => by omega, fun j j0 j1 => ?_⟩, by omega⟩
      by_cases e : j = i
      · subst e; exact gD_eq (by omega)
      · have h2 := hj j j0 (by omega)
        rcases hq.2 with h3 | h3
        · omega
        · rw [h3]; exact h2
  · simp only [bls] at hi
    refine ⟨?_, I, hO, hS⟩
    congr 1
    by_cases hk0 : kids.length = 0
    · have hke : kids = [] := List.eq_nil_of_length_eq_zero hk0
      subst hke
      rw [ht (by omega)]
      unfold armT
      simp
      rfl
    · have hlen : (armT vars ff (kids.map (tyX ds ss))).length = kids.length := by unfold armT; simp; omega
      rw [same1_of (t := t) ?_ ?_]
      · rfl
      · intro q hq
        obtain ⟨k, hk1, rfl⟩ := List.getElem_of_mem hq
        have h1 := arm_nth (ds := ds) (ss := ss) (vars := vars) (i := (k : Int)) (by omega) (by omega) hfl
        rw [Int.toNat_natCast, List.getElem?_eq_getElem hk1] at h1
        rw [Option.some.inj h1]
        exact hj k (by omega) (by omega)
      · intro h
        rw [h] at hlen
        simp at hlen
        omega
end
end Go.Vc

namespace Go.Vc
open Go Go.Proofs Go.RowKit
set_option linter.all false
section
variable {u v w : World} {x y z s f kx fx tx : Sl} {vars T W : List Int} {ds : List DeclD} {fs : List FunD} {ss : List SigD} {e : ExprD} {kids : List ExprD} {ff : List (List Int)} {n num op t : Int} {I J L R : Items}
/-- append(vars, t), with the way back -/
theorem app_back {x10 : Sl} {K : Value → World → Prop} {ty : TypeId} (hO : Own u z vars I) (hO1 : Own u x10 [t] J) (hS : St u w (J ++ (I ++ R))) (hb : vars.length ≤ 1000000)
    (k : ∀ x13 w12 I2 R2, Own u x13 (vars ++ [t]) I2 → St u w12 (I2 ++ R2) → (∀ w' I', Own u x13 (vars ++ [t]) I' → St u w' (I' ++ R2) → ∃ I'', Own u z vars I'' ∧ St u w' (I'' ++ R)) → K x13.val w12) :
    StepT Tryz.prog (Builtin.append_ #[68, 68] ty #[z.val, x10.val]) w K := by
  have hz := (hO.read hS).n
  refine hO.appendK hS (Own.src hO1 hS) (by simp; omega) (by decide) ?_ ?_
  · intro w' I' hO' hS'
    refine k _ w' I' (J ++ R) hO' hS'.to fun w2 I2 h1 h2 => ⟨I2, ?_, h2.to⟩
    have h3 := h1.front
    rwa [← hz] at h3
  · intro x' w' I' hO' hS'
    exact k _ w' I' (J ++ (I ++ R)) hO' hS' fun w2 I2 h1 h2 => ⟨I, hO, h2.to⟩
theorem c_typeOfI (e : ExprD) : TyI ds ss e := by
  classical
  refine ex_ind (P := TyI ds ss) (fun e H => ?_) e
  intro u v x s z f vars I R hg hO hS hv hf hi hb
  have hi' := hi
  rw [nodesE_eq] at hb
  have hfn := hf.n
  have hfl := hf.le
  have hz := hO.read hS
  have hzn := hz.n
  have hzl := hz.le
  have hsm := hg.sm
  have hdl := hsm.len
  have kid : ∀ (i : Int), 0 ≤ i → i < e.kids.length → ∃ g : Sl, (∀ w', Sub u w' → w'.cell? ((elA f i 3).add 0) = some (.int .i64 (nth e.kids i).op) ∧ w'.cell? ((elA f i 3).add 1) = some (.int .i64 (nth e.kids i).num) ∧ w'.cell? ((elA f i 3).add 2) = some g.val) ∧
      ∀ (w2 : World) (z2 : Sl) (vars2 : List Int) (I2 R2 : Items), Own u z2 vars2 I2 → St u w2 (I2 ++ R2) → nonneg vars2 → vars2.length ≤ vars.length + 1 → Trip Tryz.prog 125 #[.agg #[x.val, s.val], z2.val, .agg #[.int .i64 (nth e.kids i).op, .int .i64 (nth e.kids i).num, g.val]] w2 fun r w' => r = .int .i64 (gD (tyX ds ss (nth e.kids i) vars2)) ∧ ∃ I', Own u z2 vars2 I' ∧ St u w' (I' ++ R2) := by
    intro i i0 i1
    obtain ⟨g, a1, a2, a3, a4, a5, rg⟩ := (hf.src (.refl u)).ofExprD i0 i1
    refine ⟨g, fun w' hs => ⟨cell_sub hs a1, cell_sub hs a2, cell_sub hs a3⟩, fun w2 z2 vars2 I2 R2 h1 h2 h3 h4 => ?_⟩
    have hm := nth_mem (l := e.kids) i0 i1
    have := nodes_mem hm
    exact H _ hm u w2 x s z2 g vars2 I2 R2 hg h1 h2 h3 rg a5 (by omega)
  by_cases o12 : e.op = 12
  · rw [tyX_eq]
    refine of125 _ _ _ _ _ _ _ _ ?_
    unfold vc125
    repeat (first | refine ⟨fun h => absurd (of_decide_eq_true h) (by omega), fun _ => ?_⟩ | refine ⟨fun _ => ?_, fun h => absurd (of_decide_eq_false h) (by omega)⟩)
    have hnd : ndT ds ss e.op e.num (e.kids.map (tyX ds ss)) vars = if e.kids.length = 0 ∧ 0 ≤ e.num ∧ e.num < vars.length then some (nth vars e.num) else none := by
      unfold ndT
      rw [if_pos o12, List.length_map]
    rw [hnd]
    refine ⟨fun hq => ⟨?_, I, hO, hS⟩, fun hq => ?_⟩
    · simp only [bls] at hq
      rw [if_neg (by omega)]
      rfl
    · simp only [bls] at hq
      refine go_ix hz (by omega) (by omega) ?_
      refine ld_int hz (by omega) (by omega) ?_
      intro c0 c1
      rw [if_pos (by omega)]
      exact ⟨rfl, I, hO, hS⟩
  by_cases o13 : e.op = 13
  · rw [tyX_eq]
    refine of125 _ _ _ _ _ _ _ _ ?_
    unfold vc125
    repeat (first | refine ⟨fun h => absurd (of_decide_eq_true h) (by omega), fun _ => ?_⟩ | refine ⟨fun _ => ?_, fun h => absurd (of_decide_eq_false h) (by omega)⟩)
    have hnd : ndT ds ss e.op e.num (e.kids.map (tyX ds ss)) vars = if e.kids.length = 2 ∧ e.num = 0 then (kf (e.kids.map (tyX ds ss)) 0 vars).bind fun t => kf (e.kids.map (tyX ds ss)) 1 (vars ++ [t]) else none := by
      unfold ndT
      rw [if_neg o12, if_pos o13, List.length_map]
    rw [hnd]
    refine ⟨fun hq => ⟨?_, I, hO, hS⟩, fun hq => ?_⟩
    · simp only [bls] at hq
      rw [if_neg (by omega)]
      rfl
    simp only [bls] at hq
    rw [if_pos (by omega), kf_map (by omega), kf_map (by omega)]
    obtain ⟨g0, hc0, ht0⟩ := kid 0 (by omega) (by omega)
    obtain ⟨g1, hc1, ht1⟩ := kid 1 (by omega) (by omega)
    refine go_ix hf (by omega) (by omega) ?_
    refine ⟨_, _, g0, hc0 v hS.sub, ?_⟩
    refine (ht0 v z vars I R hO hS hv (by omega)).mono' ?_
    clear hO hS hz
    rintro _ w6 ⟨rfl, I, hO, hS⟩
    refine ⟨_, rfl, fun hq2 => ⟨?_, I, hO, hS⟩, fun hq2 => ?_⟩
    · simp only [bls] at hq2
      have : tyX ds ss (nth e.kids 0) vars = none := by
        cases ht : tyX ds ss (nth e.kids 0) vars with
        | none => rfl
        | some t => have := tyX_nn hg.sg _ _ _ hv ht; rw [ht, gD_some] at hq2; omega
      rw [show ((0 : Nat) : Int) = 0 from rfl, this]
      rfl
    simp only [bls] at hq2
    obtain ⟨t, ht⟩ : ∃ t, tyX ds ss (nth e.kids 0) vars = some t := ⟨_, gD_eq (by omega)⟩
    have htn := tyX_nn hg.sg _ _ _ hv ht
    have hvt : nonneg (vars ++ [t]) := hv.app fun q hq => by rw [List.mem_singleton.1 hq]; exact htn
    have hgd : gD (tyX ds ss (nth e.kids 0) vars) = t := by rw [ht]; rfl
    have hres : ∀ r : Value, r = .int .i64 (gD (tyX ds ss (nth e.kids 1) (vars ++ [t]))) → r = .int .i64 (gD ((tyX ds ss (nth e.kids ((0 : Nat) : Int)) vars).bind fun t => tyX ds ss (nth e.kids ((1 : Nat) : Int)) (vars ++ [t]))) := by
      rintro _ rfl
      rw [show ((0 : Nat) : Int) = 0 from rfl, ht]
      rfl
    rw [hgd]
    -- the last call
    have fin : ∀ (x13 : Sl) (w12 : World) (I2 R2 : Items), Own u x13 (vars ++ [t]) I2 → St u w12 (I2 ++ R2) → (∀ w' I', Own u x13 (vars ++ [t]) I' → St u w' (I' ++ R2) → ∃ I'', Own u z vars I'' ∧ St u w' (I'' ++ R)) →
        Trip Tryz.prog 125 #[.agg #[x.val, s.val], x13.val, .agg #[.int .i64 (nth e.kids 1).op, .int .i64 (nth e.kids 1).num, g1.val]] w12 fun r w18 => ∃ n19 : Int, r = .int .i64 n19 ∧ (Value.int .i64 n19 = .int .i64 (gD ((tyX ds ss (nth e.kids ((0 : Nat) : Int)) vars).bind fun t => tyX ds ss (nth e.kids ((1 : Nat) : Int)) (vars ++ [t]))) ∧ ∃ I', Own u z vars I' ∧ St u w18 (I' ++ R)) := by
      intro x13 w12 I2 R2 h1 h2 h3
      refine (ht1 w12 x13 (vars ++ [t]) I2 R2 h1 h2 hvt (by simp)).mono' ?_
      rintro _ w18 ⟨rfl, I5, h5, h6⟩
      exact ⟨_, rfl, hres _ rfl, h3 w18 I5 h5 h6⟩
    have ix1 : IxOk f 1 := hf.ix (by omega) (by omega)
    have bld : ∀ {w : World} {K : Value → World → Prop}, St u w (I ++ R) → (∀ (x10 : Sl) (w9 : World) (J : Items), Own u x10 [t] J → St u w9 (J ++ (I ++ R)) → K x10.val w9) → StepT Tryz.prog (Instr.buildSlice 68 1 #[(0, (.int .i64 t))]) w K := by
      intro w K hS k
      exact St.build (α := Int) (l := [t]) hS (.cons (.int ⟨by omega, by omega⟩) .nil) rfl (by decide) fun x1 w1 I1 h1 h2 _ => k x1 w1 I1 h1 h2
    refine ⟨?_, ix1, ?_, _, _, g1, hc1 w6 hS.sub, ?_⟩
    · refine bld hS fun x10 w9 J h1 h2 => ⟨x10, rfl, ?_, ix1, ?_, _, _, g1, hc1 w9 h2.sub, ?_⟩
      · exact app_back hO h1 h2 (by omega) fun x13 w12 I2 R2 k1 k2 k3 => ⟨x13, rfl, ix1, _, _, g1, hc1 w12 k2.sub, fin _ _ _ _ k1 k2 k3⟩
      · exact app_back hO h1 h2 (by omega) fun x13 w12 I2 R2 k1 k2 k3 => ⟨x13, rfl, _, _, g1, hc1 w12 k2.sub, fin _ _ _ _ k1 k2 k3⟩
      · exact app_back hO h1 h2 (by omega) fun x13 w12 I2 R2 k1 k2 k3 => ⟨x13, rfl, fin _ _ _ _ k1 k2 k3⟩
    · refine bld hS fun x10 w9 J h1 h2 => ⟨x10, rfl, ?_, _, _, g1, hc1 w9 h2.sub, ?_⟩
      · exact app_back hO h1 h2 (by omega) fun x13 w12 I2 R2 k1 k2 k3 => ⟨x13, rfl, _, _, g1, hc1 w12 k2.sub, fin _ _ _ _ k1 k2 k3⟩
      · exact app_back hO h1 h2 (by omega) fun x13 w12 I2 R2 k1 k2 k3 => ⟨x13, rfl, fin _ _ _ _ k1 k2 k3⟩
    · refine bld hS fun x10 w9 J h1 h2 => ⟨x10, rfl, ?_⟩
      exact app_back hO h1 h2 (by omega) fun x13 w12 I2 R2 k1 k2 k3 => ⟨x13, rfl, fin _ _ _ _ k1 k2 k3⟩
  have hdrop : nodesL (e.kids.drop 1) ≤ nodesL e.kids := by have := nodesL_take e.kids 1; omega
  have hcutk : ∀ (_ : 1 ≤ e.kids.length), Read u (f.cut 1 (f.n : Int) 3) (e.kids.drop 1) := fun h1 => by
    have := ReadB.cut hf (lo := 1) (hi := (f.n : Int)) (by omega) (by omega) (by omega)
    rwa [show ((f.n : Int)).toNat = e.kids.length from by omega, List.take_length] at this
  by_cases o7 : e.op = 7
  · rw [tyX_eq]
    refine of125 _ _ _ _ _ _ _ _ ?_
    unfold vc125
    repeat (first | refine ⟨fun h => absurd (of_decide_eq_true h) (by omega), fun _ => ?_⟩ | refine ⟨fun _ => ?_, fun h => absurd (of_decide_eq_false h) (by omega)⟩)
    have hnd : ndT ds ss e.op e.num (e.kids.map (tyX ds ss)) vars = if e.kids.length = 3 ∧ e.num = 0 ∧ kf (e.kids.map (tyX ds ss)) 0 vars = some 0 then same1 (armT vars [[], []] ((e.kids.map (tyX ds ss)).drop 1)) else none := by
      unfold ndT
      rw [if_neg o12, if_neg o13, if_pos o7, List.length_map]
    rw [hnd]
    by_cases hl : e.kids.length = 3 ∧ e.num = 0
    · obtain ⟨g0, hc0, ht0⟩ := kid 0 (by omega) (by omega)
      rw [kf_map (by omega)]
      refine ⟨fun _ => hf.ix (by omega) (by omega), _, _, g0, fun _ => hc0 v hS.sub, fun _ => ?_, fun hq => ?_⟩
      · refine (ht0 v z vars I R hO hS hv (by omega)).mono' ?_
        clear hO hS hz
        rintro _ w6 ⟨rfl, I, hO, hS⟩
        refine ⟨_, rfl, fun hq => ⟨?_, I, hO, hS⟩, fun hq => ⟨⟨by omega, by omega⟩, ?_⟩⟩
        · simp only [bls] at hq
          rw [if_neg]
          · rfl
          rintro ⟨_, _, h3⟩
          rw [show ((0 : Nat) : Int) = 0 from rfl] at h3
          rw [h3, gD_some] at hq
          omega
        · simp only [bls] at hq
          have h0 := (gD_iff (Int.le_refl 0)).1 hq
          rw [if_pos ⟨hl.1, hl.2, h0⟩]
          refine St.make (α := List Int) ([] : List Int) hS ⟨⟨none, 0, 0⟩, rfl, ReadB.nil⟩ (by omega) (by omega) (by decide) ?_
          intro x1 w7 J hO1 hS1 hs1
          refine ⟨_, rfl, hs1, ?_⟩
          refine (c_oneTypeI (kids := e.kids.drop 1) (ff := List.replicate 2 []) (fun k hk => H k (List.mem_of_mem_drop hk)) hg hO hO1 hS1 hv (hcutk (by omega)) (by simp; omega) (fun i => ?_) (by omega)).mono' ?_
          · have : nth (List.replicate 2 ([] : List Int)) i = [] := by
              unfold nth List.getD
              rw [List.getElem?_replicate]
              split <;> rfl
            rw [this]
            exact ⟨fun q hq => (by cases hq), Nat.zero_le _⟩
          rintro _ w8 ⟨rfl, I2, hO2, hS2⟩
          refine ⟨_, rfl, ?_, I2, hO2, hS2.to⟩
          rw [List.map_drop]
          rfl
      · simp only [bls] at hq
        omega
    · have hbad : ((!decide ((f.n : Int) = 3)) || (!decide (e.num = 0))) = true := by
        simp only [bls]
        omega
      rw [if_neg (fun h => hl ⟨h.1, h.2.1⟩)]
      exact ⟨fun h => (by rw [hbad] at h; cases h), 0, 0, ⟨none, 0, 0⟩, fun h => (by rw [hbad] at h; cases h), fun h => (by rw [hbad] at h; cases h), fun _ => ⟨rfl, I, hO, hS⟩⟩
  by_cases o8 : e.op = 8
  · refine of125 _ _ _ _ _ _ _ _ ?_
    unfold vc125
    repeat (first | refine ⟨fun h => absurd (of_decide_eq_true h) (by omega), fun _ => ?_⟩ | refine ⟨fun _ => ?_, fun h => absurd (of_decide_eq_false h) (by omega)⟩)
    have hcl := consL_len3 (n := e.num) hsm
    have hty : tyX ds ss e vars = if 0 < (consL ds e.num).length ∧ e.kids.length = 1 + (consL ds e.num).length ∧ kf (e.kids.map (tyX ds ss)) 0 vars = some e.num then same1 (armT vars (armF ds e.num) ((e.kids.map (tyX ds ss)).drop 1)) else none := by
      rw [tyX_eq]
      unfold ndT
      rw [if_neg o12, if_neg o13, if_neg o7, if_pos o8, armF_len, List.length_map]
    refine Mk.use (c_implConsOf hg.hx hsm hi) hS ?_
    rintro _ w2 J1 ⟨x3, rfl, hO1⟩ hS2 hs2
    have hr := hO1.read hS2
    have hrn := hr.n
    refine ⟨_, rfl, ?_⟩
    refine go_wrg (fun _ => by omega) ?_
    by_cases hlen : 0 < (consL ds e.num).length ∧ e.kids.length = 1 + (consL ds e.num).length
    · obtain ⟨g0, hc0, ht0⟩ := kid 0 (by omega) (by omega)
      have hk0 : kf (e.kids.map (tyX ds ss)) 0 = tyX ds ss (nth e.kids 0) := kf_map (by omega)
      refine ⟨fun _ => hf.ix (by omega) (by omega), _, _, g0, fun _ => hc0 w2 hS2.sub, ?_⟩
      refine (fun (h : _ ∧ _) => And.intro h (And.intro h (And.intro h.1 h.2))) ?_
      refine ⟨fun _ => ?_, fun hq => ?_⟩
      · refine (ht0 w2 z vars I (J1 ++ R) hO hS2.to hv (by omega)).mono' ?_
        rintro _ w3 ⟨rfl, I3, hO3, hS3⟩
        refine ⟨_, rfl, fun hq => ⟨?_, I3, hO3, hS3.to⟩, fun hq => ?_⟩
        · simp only [bls] at hq
          rw [hty, if_neg]
          · rfl
          rintro ⟨_, _, h3⟩
          rw [hk0] at h3
          rw [h3, gD_some] at hq
          exact hq rfl
        simp only [bls] at hq
        have hnum0 : 0 ≤ e.num := by
          have : consL ds e.num ≠ [] := fun h => by rw [h] at hlen; simp at hlen
          unfold consL at this
          split at this
          · omega
          · exact absurd rfl this
        have hk3 : kf (e.kids.map (tyX ds ss)) 0 vars = some e.num := by
          rw [hk0]
          exact (gD_iff hnum0).1 hq
        rw [hty, if_pos ⟨hlen.1, hlen.2, hk3⟩]
        refine St.make (α := List Int) ([] : List Int) hS3 ⟨⟨none, 0, 0⟩, rfl, ReadB.nil⟩ (by omega) (by omega) (by decide) ?_
        intro x4 w4 J4 hO4 hS4 hs4
        refine ⟨_, rfl, ?_⟩
        refine ⟨fun i w => (∃ J L, Own u x4 L J ∧ St u w (J ++ (I3 ++ (J1 ++ R))) ∧ L.length = (consL ds e.num).length ∧ ∀ j : Int, 0 ≤ j → j < i → nth L j = conF ds (nth (consL ds e.num) j)) ∧ 0 ≤ i ∧ i ≤ (consL ds e.num).length, fun i _ => ((consL ds e.num).length - i).toNat, ⟨⟨J4, _, hO4, hS4, by simp; omega, fun j j0 j1 => by omega⟩, by omega, by omega⟩, ?_⟩
        clear hO4 hS4 hs4
        rintro i w5 ⟨⟨J, L, hO5, hS5, hL, hj⟩, i0, i1⟩
        dsimp only
        have hr5 := hO1.read hS5
        refine ⟨fun hi => ?_, fun hi => ?_⟩
        · simp only [bls] at hi
          refine go_ix hr5 i0 (by omega) ?_
          refine ld_int hr5 i0 (by omega) ?_
          intro c0 c1
          obtain ⟨z6, r6, hf6⟩ := c_fieldsOfE (n := nth (consL ds e.num) i) hg.hx hsm ⟨c0, c1⟩
          refine ⟨z6, Trip.fr hf6 hS5 (fun r u' w' ⟨h1, h2⟩ _ h4 => ⟨h1, h4 h2⟩), (hO5.read hS5).ix i0 (by omega), ?_⟩
          refine Own.store (α := List Int) hO5 hS5 i0 (by omega) (conF ds (nth (consL ds e.num) i)) (Nat.le_refl _) (fun r hr => ?_) ?_
          · obtain ⟨q, rfl, _⟩ := hr
            exact ⟨z6, rfl, r6⟩
          intro w6 J6 hO6 hS6
          refine go_wr (by omega) (by omega) ?_
          refine ⟨rfl, rfl, rfl, rfl, rfl, ⟨⟨J6, _, hO6, hS6.to, by rw [List.length_set]; exact hL, fun j j0 j1 => ?_⟩, by omega, by omega⟩, by omega⟩
          by_cases ej : j = i
          · subst ej
            exact nth_of (by rw [List.getElem?_set, if_pos rfl, if_pos (by omega)])
          · rw [← hj j j0 (by omega)]
            unfold nth List.getD
            rw [List.getElem?_set, if_neg (by omega)]
        · simp only [bls] at hi
          have hLe : L = armF ds e.num := by
            refine List.ext_getElem (by rw [hL, armF_len]) fun k h1 h2 => ?_
            have h3 := hj (k : Int) (by omega) (by omega)
            rw [nth_of (a := L[k]) (by simp [h1])] at h3
            have h4 : (armF ds e.num)[k]? = some (conF ds (nth (consL ds e.num) (k : Int))) := by
              unfold armF
              rw [List.getElem?_map]
              have := nth_get (l := consL ds e.num) (i := (k : Int)) (by omega) (by omega)
              simp only [Int.toNat_natCast] at this
              rw [this]; rfl
            rw [List.getElem?_eq_getElem h2] at h4
            rw [h3, Option.some.inj h4]
          subst hLe
          refine ⟨⟨by omega, by omega⟩, ?_⟩
          refine (c_oneTypeI (kids := e.kids.drop 1) (ff := armF ds e.num) (R := J1 ++ R) (fun k hk => H k (List.mem_of_mem_drop hk)) hg hO3 hO5 hS5 hv (hcutk (by omega)) (by rw [armF_len]; simp; omega) (fun i => ?_) (by omega)).mono' ?_
          · by_cases hin : i.toNat < (armF ds e.num).length
            · have hm : nth (armF ds e.num) i ∈ armF ds e.num := by
                have e1 : nth (armF ds e.num) i = (armF ds e.num)[i.toNat] := nth_of (List.getElem?_eq_getElem hin)
                rw [e1]; exact List.getElem_mem hin
              exact armF_nnM hg.sg.1 hm
            · have : nth (armF ds e.num) i = [] := by
                unfold nth List.getD
                rw [List.getElem?_eq_none (by omega)]; rfl
              rw [this]
              exact ⟨fun q hq => (by cases hq), Nat.zero_le _⟩
          rintro _ w8 ⟨rfl, I2, hO2, hS2⟩
          refine ⟨_, rfl, ?_, I2, hO2, hS2.to⟩
          rw [List.map_drop]
      · simp only [bls] at hq
        omega
    · have hbad : ((decide ((x3.n : Int) = 0)) || (!decide ((f.n : Int) = 1 + (x3.n : Int)))) = true := by
        simp only [bls]; omega
      have hfin : Value.int .i64 (-1) = .int .i64 (gD (tyX ds ss e vars)) ∧ ∃ I', Own u z vars I' ∧ St u w2 (I' ++ R) := by
        refine ⟨?_, I, hO, hS2.to⟩
        rw [hty, if_neg (fun h => hlen ⟨h.1, h.2.1⟩)]
        rfl
      refine ⟨fun h => (by rw [hbad] at h; cases h), 0, 0, ⟨none, 0, 0⟩, fun h => (by rw [hbad] at h; cases h), ?_⟩
      refine (fun (h : _ ∧ _) => And.intro h (And.intro h (And.intro h.1 h.2))) ?_
      exact ⟨fun h => (by rw [hbad] at h; cases h), fun _ => hfin⟩
  · rw [tyX_eq, ndT_sim ⟨o12, o13, o7, o8⟩, mapMap]
    refine of125 _ _ _ _ _ _ _ _ ?_
    unfold vc125
    repeat (first | refine ⟨fun h => absurd (of_decide_eq_true h) (by omega), fun _ => ?_⟩ | refine ⟨fun _ => ?_, fun h => absurd (of_decide_eq_false h) (by omega)⟩)
    refine St.makeInts hS (by omega) (by omega) (by decide) ?_
    intro x1 w1 J1 hO1 hS1 hs1
    refine ⟨_, rfl, ?_⟩
    refine ⟨fun i w => (∃ I J L, Own u z vars I ∧ Own u x1 L J ∧ St u w (I ++ (J ++ R)) ∧ L.length = e.kids.length ∧ ∀ j : Int, 0 ≤ j → j < i → tyX ds ss (nth e.kids j) vars = some (nth L j)) ∧ 0 ≤ i ∧ i ≤ e.kids.length, fun i _ => (e.kids.length - i).toNat, ⟨⟨I, J1, _, hO, hO1, hS1.to, by simp; omega, fun j j0 j1 => by omega⟩, by omega, by omega⟩, ?_⟩
    clear hO hS hz hO1 hS1 hs1
    rintro i w2 ⟨⟨I, J, L, hO, hO1, hS, hL, hj⟩, i0, i1⟩
    dsimp only
    refine ⟨fun hi => ?_, fun hi => ?_⟩
    · simp only [bls] at hi
      have hil : i < e.kids.length := by omega
      obtain ⟨g0, hc0, ht0⟩ := kid i i0 hil
      refine go_ix hf i0 hil ?_
      refine ⟨_, _, g0, hc0 w2 hS.sub, ?_⟩
      refine (ht0 w2 z vars I (J ++ R) hO hS hv (by omega)).mono' ?_
      clear hO hS
      rintro _ w3 ⟨rfl, I, hO, hS⟩
      have hbd : InI (gD (tyX ds ss (nth e.kids i) vars)) := by
        cases ht : tyX ds ss (nth e.kids i) vars with
        | none => exact ⟨by decide, by decide⟩
        | some t => have := tyX_nn hg.sg _ _ _ hv ht; rw [gD_some]; exact ⟨by omega, by omega⟩
      refine ⟨_, rfl, (hO1.read hS).ix i0 (by omega), ?_⟩
      refine st_int hO1 hS i0 (by omega) hbd ?_
      intro w4 J4 hO4 hS4
      have hr4 := hO4.read hS4
      have hset : nth (L.set i.toNat (gD (tyX ds ss (nth e.kids i) vars))) i = gD (tyX ds ss (nth e.kids i) vars) := nth_of (by rw [List.getElem?_set, if_pos rfl, if_pos (by omega)])
      refine go_ix hr4 i0 (by rw [List.length_set]; omega) ?_
      refine ld_int hr4 i0 (by rw [List.length_set]; omega) ?_
      intro c0 c1
      rw [hset]
      refine ⟨fun hq => ⟨?_, I, hO, hS4.to⟩, fun hq => ?_⟩
      · simp only [bls] at hq
        have hn : tyX ds ss (nth e.kids i) vars = none := by
          cases ht : tyX ds ss (nth e.kids i) vars with
          | none => rfl
          | some t => have := tyX_nn hg.sg _ _ _ hv ht; rw [ht, gD_some] at hq; omega
        have : allT (e.kids.map fun k => tyX ds ss k vars) = none := by
          cases hT : allT (e.kids.map fun k => tyX ds ss k vars) with
          | none => rfl
          | some T =>
            have := (mapEq.1 (allT_some.1 hT)).2 i i0 hil
            rw [hn] at this; cases this
        rw [this]
        rfl
      · simp only [bls] at hq
        refine go_wr (by omega) (by omega) ?_
        refine ⟨rfl, rfl, rfl, rfl, rfl, ⟨⟨I, J4, _, hO, hO4, hS4.to, by rw [List.length_set]; exact hL, fun j j0 j1 => ?_⟩, by omega, by omega⟩, by omega⟩
        by_cases ej : j = i
        · subst ej
          rw [hset]
          exact gD_eq (by omega)
        · rw [hj j j0 (by omega)]
          congr 1
          unfold nth List.getD
          rw [List.getElem?_set, if_neg (by omega)]
    · simp only [bls] at hi
      have hall : allT (e.kids.map fun k => tyX ds ss k vars) = some L := allT_some.2 (mapEq.2 ⟨hL.symm, fun j j0 j1 => hj j j0 (by omega)⟩)
      have hr := hO1.read hS
      obtain ⟨n, q, hF, hR⟩ := c_simpleTypeA (op := e.op) (num := e.num) (hg.hx.mono hS.sub) (hg.hs.mono hS.sub) hr hg.sg hi' (fun _ _ _ => hg.le _)
      rw [hall, Option.bind_some]
      refine ⟨n, q, hF, fun hq => ⟨?_, I, hO, hS.to⟩, fun hq => ⟨?_, I, hO, hS.to⟩⟩
      · rw [hR.2 (by simpa using hq)]
        rfl
      · rw [hR.1 (by simpa using hq)]
        rfl
end
end Go.Vc

namespace Go.Vc
open Go Go.Proofs Go.RowKit
set_option linter.all false
/-- a valid program -/
def prgOk (ds : List DeclD) (fs : List FunD) : Prop := sigSigs ds (fs.map sgE) ∧ ∀ i : Int, 0 ≤ i → i < fs.length → nodesE (nth fs i).body ≤ 30 ∧ tyX ds (fs.map sgE) (nth fs i).body (nth fs i).params = some (nth fs i).result
section
variable {u v w : World} {x y z s f kx fx tx : Sl} {vars T W : List Int} {ds : List DeclD} {fs : List FunD} {ss : List SigD} {e : ExprD} {n num op t : Int} {I J L R : Items}
theorem all_nn {N : Nat} (hN : N ≤ 4) (h : vars.all (typeB N) = true) : nonneg vars := fun t ht => by
  have := List.all_eq_true.1 h t ht
  unfold typeB at this
  simp only [Bool.and_eq_true, decide_eq_true_eq] at this
  omega
theorem par_nn (h : sigSigs ds (fs.map sgE)) {i : Int} (h0 : 0 ≤ i) (h1 : i < fs.length) : nonneg (nth fs i).params ∧ (nth fs i).params.length ≤ 3 ∧ 0 ≤ (nth fs i).result ∧ (nth fs i).result ≤ 4 := by
  have h2 := h.2.2.2.2.2 i h0 (by simp; omega)
  rw [nth_sgE] at h2
  obtain ⟨⟨s1, s2, s3⟩, _⟩ := h2
  have s3 : typeB ds.length (nth fs i).result = true := s3
  unfold typeB at s3
  simp only [Bool.and_eq_true, decide_eq_true_eq] at s3
  have hl := h.1.1
  exact ⟨all_nn hl s2, s1, s3.1, by omega⟩
open Classical in
theorem c_TypeOfI (hx : Read v x ds) (hy : Read v y fs) (hz : Read v z vars) (hb : vars.length ≤ 1000) (hf : Read v f e.kids) (hi : InI e.num) :
    Fn Tryz.prog 70 #[.agg #[x.val, y.val], z.val, .agg #[.int .i64 e.op, .int .i64 e.num, f.val]] v (.int .i64 (if sigSigs ds (fs.map sgE) ∧ nodesE e ≤ 30 ∧ vars.all (typeB ds.length) = true then gD (tyX ds (fs.map sgE) e vars) else -1)) := by
  refine of70 _ _ _ _ _ _ _ _ ?_
  unfold vc70
  have hxn := hx.n
  have hxl := hx.le
  refine ⟨_, c_implValidSigsF hx hy, _, fun _ => c_NodesOf hf, _, fun _ => c_implAllTypes hxn hz, fun hq => ⟨?_, .refl v⟩, fun hq => ?_⟩
  · rw [if_neg]
    rintro ⟨h1, h2, h3⟩
    rw [pB_t h1, if_pos h2, h3] at hq
    simp at hq
    omega
  · simp only [Bool.or_eq_false_iff, Bool.not_eq_false', decide_eq_false_iff_not] at hq
    obtain ⟨⟨h1, h2⟩, h3⟩ := hq
    have hsg := pB_iff.1 h1
    have hnd : nodesE e ≤ 30 := Classical.byContradiction fun hh => by rw [if_neg hh] at h2; omega
    rw [if_pos ⟨hsg, hnd, h3⟩]
    refine Mk.use (c_sigsOf hx hy) (.refl v) ?_
    rintro _ w1 J1 ⟨s1, rfl, hO1⟩ hS1 hs1
    refine ⟨_, _, rfl, hs1, ?_⟩
    refine Mk.use (c_cloneInts hz) hS1 ?_
    rintro _ w2 J2 ⟨z2, rfl, hO2⟩ hS2 hs2
    refine ⟨_, rfl, hs2, ?_⟩
    obtain ⟨u2, hu, hSu, hSJ⟩ := (hS2.to : St v w2 (J1 ++ (J2 ++ []))).freeze J1
    refine (c_typeOfI e u2 w2 x s1 z2 f vars J2 [] ⟨hx.mono hu, hO1.read (by simpa using hSJ : St v u2 (J1 ++ [])), hsg, fun i => ?_⟩ (hO2.ofInts (u' := u2)) hSu (all_nn hsg.1.1 h3) (hf.mono hu) hi (by omega)).mono' ?_
    · rw [nth_sgE]; rfl
    rintro _ w3 ⟨rfl, I3, _, hS3⟩
    exact ⟨_, rfl, rfl, hu.trans hS3.sub⟩
theorem c_ValidProgramI (hx : Read v x ds) (hy : Read v y fs) : Fn Tryz.prog 30 #[.agg #[x.val, y.val]] v (.bool (pB (prgOk ds fs))) := by
  classical
  refine of30 _ _ _ _ ?_
  unfold vc30
  have hyn := hy.n
  have hyl := hy.le
  refine ⟨_, c_implValidSigsF hx hy, fun hq => ⟨?_, .refl v⟩, fun hq => ?_⟩
  · rw [pB_f]
    intro h
    rw [pB_t h.1] at hq
    cases hq
  have hsg : sigSigs ds (fs.map sgE) := pB_iff.1 (by simpa using hq)
  refine ⟨fun i w => v = w ∧ 0 ≤ i ∧ i ≤ fs.length ∧ ∀ j : Int, 0 ≤ j → j < i → nodesE (nth fs j).body ≤ 30 ∧ tyX ds (fs.map sgE) (nth fs j).body (nth fs j).params = some (nth fs j).result, fun i _ => (fs.length - i).toNat, ⟨rfl, by omega, by omega, fun j j0 j1 => by omega⟩, ?_⟩
  rintro i _ ⟨rfl, i0, i1, h⟩
  dsimp only
  refine ⟨fun hi => ?_, fun hi => ?_⟩
  · simp only [bls] at hi
    have hil : i < fs.length := by omega
    obtain ⟨f1, k1, e1, e2, e3, e4, e5, j1, j2, j3, r1, r2⟩ := (hy.src (.refl v)).ofFunD i0 hil
    have hpn := par_nn hsg i0 hil
    have hall : (nth fs i).params.all (typeB ds.length) = true := by
      have h2 := hsg.2.2.2.2.2 i i0 (by simp; omega)
      rw [nth_sgE] at h2
      exact h2.1.2.1
    refine go_ix hy i0 hil ?_
    refine ⟨f1, _, _, _, k1, ⟨e1, e2, e3, e4, e5⟩, _, c_TypeOfI hx hy r1 (by omega) r2 j3, fun hq2 => ⟨?_, .refl v⟩, fun hq2 => ?_⟩
    · simp only [bls] at hq2
      rw [pB_f]
      intro hh
      have h3 := hh.2 i i0 hil
      rw [if_pos ⟨hsg, h3.1, hall⟩, h3.2] at hq2
      exact hq2 rfl
    · simp only [bls] at hq2
      have hnd : nodesE (nth fs i).body ≤ 30 := Classical.byContradiction fun hh => by rw [if_neg (fun h => hh h.2.1)] at hq2; omega
      rw [if_pos ⟨hsg, hnd, hall⟩] at hq2
      refine go_wr (by omega) (by omega) ?_
      refine ⟨rfl, rfl, ⟨rfl, by omega, by omega, fun j j0 j1 => ?_⟩, by omega⟩
      by_cases e : j = i
      · subst e; exact ⟨hnd, (gD_iff hpn.2.2.1).1 hq2⟩
      · exact h j j0 (by omega)
  · simp only [bls] at hi
    refine ⟨?_, .refl v⟩
    rw [pB_t ⟨hsg, fun j j0 j1 => h j j0 (by omega)⟩]
theorem c_ValidProgramS (hx : Read v x ds) (hy : Read v y fs) : Fn Tryz.prog 33 #[.agg #[x.val, y.val]] v (.bool (pB (prgOk ds fs))) := by
  classical
  refine of33 _ _ _ _ ?_
  unfold vc33
  have hyn := hy.n
  have hyl := hy.le
  refine ⟨_, c_specValidSigsF hx hy, fun hq => ⟨?_, .refl v⟩, fun hq => ?_⟩
  · rw [pB_f]
    intro h
    rw [pB_t h.1] at hq
    cases hq
  have hsg : sigSigs ds (fs.map sgE) := pB_iff.1 (by simpa using hq)
  refine ⟨fun i w => v = w ∧ 0 ≤ i ∧ i ≤ fs.length ∧ ∀ j : Int, 0 ≤ j → j < i → nodesE (nth fs j).body ≤ 30 ∧ tyX ds (fs.map sgE) (nth fs j).body (nth fs j).params = some (nth fs j).result, fun i _ => (fs.length - i).toNat, ⟨rfl, by omega, by omega, fun j j0 j1 => by omega⟩, ?_⟩
  rintro i _ ⟨rfl, i0, i1, h⟩
  dsimp only
  refine ⟨fun hi => ?_, fun hi => ?_⟩
  · simp only [bls] at hi
    have hil : i < fs.length := by omega
    obtain ⟨f1, k1, e1, e2, e3, e4, e5, j1, j2, j3, r1, r2⟩ := (hy.src (.refl v)).ofFunD i0 hil
    have hpn := par_nn hsg i0 hil
    have hix := hy.ix i0 hil
    refine ⟨hix, _, _, k1, ⟨e3, e4, e5⟩, _, c_spNodesOf r2, fun _ => hix, f1, fun _ => e1, fun _ => hix, _, _, k1, fun _ => ⟨e3, e4, e5⟩, ?_⟩
    by_cases hnd : nodesE (nth fs i).body ≤ 30
    · refine ⟨_, fun _ => c_typeOfE _ v x y f1 k1 _ ⟨hx, hy, hsg⟩ r1 hpn.1 r2 j3 (by omega), fun _ => hix, _, fun _ => e2, fun hq2 => ⟨?_, .refl v⟩, fun hq2 => ?_⟩
      · simp only [bls] at hq2
        rw [if_pos hnd] at hq2
        rw [pB_f]
        intro hh
        have h3 := hh.2 i i0 hil
        rw [h3.2, gD_some] at hq2
        rcases hq2 with hq2 | hq2
        · omega
        · exact hq2 rfl
      · simp only [bls] at hq2
        refine go_wr (by omega) (by omega) ?_
        refine ⟨rfl, rfl, ⟨rfl, by omega, by omega, fun j j0 j1 => ?_⟩, by omega⟩
        by_cases e : j = i
        · subst e; exact ⟨hnd, (gD_iff hpn.2.2.1).1 hq2.2⟩
        · exact h j j0 (by omega)
    · rw [if_neg hnd]
      refine ⟨0, fun h => by simp at h, fun _ => hix, _, fun _ => e2, fun hq2 => ⟨?_, .refl v⟩, fun hq2 => by simp at hq2⟩
      rw [pB_f]
      intro hh
      exact hnd (hh.2 i i0 hil).1
  · simp only [bls] at hi
    refine ⟨?_, .refl v⟩
    rw [pB_t ⟨hsg, fun j j0 j1 => h j j0 (by omega)⟩]
end
end Go.Vc
