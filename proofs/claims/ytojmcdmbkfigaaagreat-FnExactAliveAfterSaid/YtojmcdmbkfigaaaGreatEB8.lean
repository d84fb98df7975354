/- Part of the proofs about the heaps and memories: a law is joined in the text whose name ends in W and the law. -/
import Derived.Test.YtojmcdmbkfigaaaGreatEB7
namespace Go.Vc
open Go Go.Proofs Go.RowKit
set_option linter.all false
/-- the reference's state amid a list of steps -/
def LInv (u : World) (R : Items) (a : Addr) (ds : List DeclD) (rs : List RoutD) (lent : List Int) (arms : List ArmK) (σ0 : BalS) (l : List StepD) (i : Int) (w : World) : Prop :=
  ∃ (σ : BalS) (P C F : List Int) (I : Items) (B : Nat), LstP a lent σ P C F I ∧ Lk arms σ.vars.length P C F ∧ WfB ds arms B σ ∧ St u w (I ++ R) ∧ 0 ≤ i ∧ i ≤ l.length ∧
    stsB ds (rs.map sgOf) lent arms σ0 l = stsB ds (rs.map sgOf) lent arms σ (l.drop i.toNat) ∧ stpsT ds (rs.map sgOf) σ0.vars l = stpsT ds (rs.map sgOf) σ.vars (l.drop i.toNat) ∧
    σ.vars.length + 4 * cntL (l.drop i.toNat) ≤ 10000 ∧ B + cntL (l.drop i.toNat) ≤ 10000 ∧ σ0.vars.length ≤ σ.vars.length
/-- the state after the first k steps of a routine -/
noncomputable def afterS (ds : List DeclD) (rs : List RoutD) (f k : Int) : Option BalS :=
  bif pB (nrmOk ds rs ∧ (0 ≤ f ∧ f ≤ (rs.length : Int) - 1) ∧ (0 ≤ k ∧ k ≤ (nth rs f).body.steps.length)) then stsB ds (rs.map sgOf) (nth rs f).lent [] (startB (nth rs f).params (nth rs f).lent) ((nth rs f).body.steps.take k.toNat) else none
section
variable {u w v v0 : World} {a : Addr} {arms : List ArmK} {lent P C F P' C' F' fs vars params inner : List Int} {σ σ' σ0 σ1 : BalS} {I R L : Items} {r t o m i f op num into v1 : Int} {xx yy x y ax kx s zz z px lx sx xs : Sl} {B n : Nat} {ds : List DeclD} {rs : List RoutD} {ss : List SigD} {args : List Int} {k : StepD} {c : StepD} {b : BlockD} {p : List Int × List Int} {l : List StepD}
theorem LInv.start (hL : LstP a lent σ P C F I) (hk : Lk arms σ.vars.length P C F) (hw : WfB ds arms B σ) (hS : St u w (I ++ R)) (hb : σ.vars.length + 4 * cntL l ≤ 10000) (hB : B + cntL l ≤ 10000) : LInv u R a ds rs lent arms σ l 0 w :=
  ⟨σ, P, C, F, I, B, hL, hk, hw, hS, by omega, by omega, rfl, rfl, hb, hB, Nat.le_refl _⟩
theorem c_ledRun (h : Nrm u xx yy ds rs) (hI : LInv u R a ds rs lent arms σ0 l i w) (hil : i < l.length) (ht : stpsT ds (rs.map sgOf) σ0.vars l ≠ none) (ha : Read u ax (nth l i).args) (hkx : Read u kx (nth l i).kids) (hnum : InI (nth l i).num) (hinto : InI (nth l i).into)
    (H : ∀ k ∈ (nth l i).kids, BlkS ds rs lent k) :
    Trip Tryz.prog 62 #[.pointer (some (a.add 0)), .agg #[xx.val, yy.val], .agg #[.int .i64 (nth l i).op, .int .i64 (nth l i).num, .int .i64 (nth l i).into, ax.val, kx.val]] w fun r w' => ∃ q : Bool, r = .bool q ∧
      (q = false → stsB ds (rs.map sgOf) lent arms σ0 l = none ∧ Sub u w') ∧ (q = true → LInv u R a ds rs lent arms σ0 l (i + 1) w') := by
  obtain ⟨σ, P, C, F, I, B, hL, hk, hw, hS, i0, i1, e1, e2, hb, hB, hle⟩ := hI
  rw [drop_cons i0 hil] at e1 e2 hb hB
  rw [stpsT_cons] at e2
  rw [stsB_cons] at e1
  rw [cntL_cons] at hb hB
  cases hv : stpT ds (rs.map sgOf) σ.vars (nth l i) with
  | none => rw [hv] at e2; exact absurd e2 ht
  | some t =>
    rw [hv] at e2
    dsimp only at e2
    refine (c_ledStep h hL hS hw hk ha hkx hnum hinto hv H (by omega) (by omega)).mono' ?_
    intro r w2 hO
    cases hst : stB ds (rs.map sgOf) lent arms σ (nth l i) with
    | none =>
      rw [hst] at hO e1
      obtain ⟨rfl, hs⟩ := hO
      exact ⟨false, rfl, fun _ => ⟨e1, hs⟩, fun hh => (by cases hh)⟩
    | some σ2 =>
      rw [hst] at hO e1
      obtain ⟨rfl, I2, P2, C2, F2, hL2, hk2, hS2⟩ := hO
      obtain ⟨w2', ev⟩ := wf_st h.sg hw hv hst
      rw [← ev] at e2
      have hlen : σ2.vars.length ≤ σ.vars.length + 1 ∧ σ.vars.length ≤ σ2.vars.length := by rw [ev]; split <;> simp
      exact ⟨true, rfl, fun hh => (by cases hh), fun _ => ⟨σ2, P2, C2, F2, I2, _, hL2, hk2, w2', hS2, by omega, by omega, e1, e2, by omega, by omega, by omega⟩⟩
theorem LInv.fin (hI : LInv u R a ds rs lent arms σ0 l i w) (hi : ¬ i < l.length) : ∃ (σ : BalS) (P C F : List Int) (I : Items) (B : Nat), LstP a lent σ P C F I ∧ Lk arms σ.vars.length P C F ∧ WfB ds arms B σ ∧ St u w (I ++ R) ∧
    stsB ds (rs.map sgOf) lent arms σ0 l = some σ ∧ stpsT ds (rs.map sgOf) σ0.vars l = some σ.vars ∧ σ.vars.length ≤ 10000 ∧ σ0.vars.length ≤ σ.vars.length := by
  obtain ⟨σ, P, C, F, I, B, hL, hk, hw, hS, i0, i1, e1, e2, hb, hB, hle⟩ := hI
  rw [drop_end (by omega)] at e1 e2
  rw [stsB_nil] at e1
  rw [stpsT_nil] at e2
  exact ⟨σ, P, C, F, I, B, hL, hk, hw, hS, e1, e2, by omega, hle⟩
theorem c_ledBlock (b : BlockD) : BlkS ds rs lent b := by
  classical
  refine blk_ind (P := BlkS ds rs lent) (fun b ih => ?_) b
  intro u w a x y xs arms σ0 P C F I R m B t h hxs hres hL hk hw hS hv hm hb hB
  refine of50 _ _ _ _ _ _ _ _ ?_
  unfold vc50
  have hxn := hxs.n
  have hxl := hxs.le
  rw [cntB_eq] at hb hB
  rw [blkT_eq] at hv
  rw [bkB_eq]
  have ht : stpsT ds (rs.map sgOf) σ0.vars b.steps ≠ none := fun hh => by rw [hh] at hv; cases hv
  refine ⟨fun i w => LInv u R a ds rs lent arms σ0 b.steps i w, fun i _ => (b.steps.length - i).toNat, LInv.start hL hk hw hS hb hB, ?_⟩
  clear hL hk hS
  rintro i w hI
  dsimp only
  have hi : 0 ≤ i ∧ i ≤ b.steps.length := by obtain ⟨_, _, _, _, _, _, _, _, _, _, h1, h2, _⟩ := hI; exact ⟨h1, h2⟩
  have hsub : Sub u w := by obtain ⟨_, _, _, _, _, _, _, _, _, h1, _⟩ := hI; exact h1.sub
  refine ⟨fun hc => ?_, fun hc => ?_⟩
  · simp only [bls] at hc
    have hil : i < b.steps.length := by omega
    obtain ⟨f1, f2, e1, e2, e3, e4, e5, j1, j2, j3, r1, r2⟩ := (hxs.src hsub).ofStepD hi.1 hil
    refine go_ix hxs hi.1 hil ?_
    refine ⟨_, _, _, f1, f2, ⟨e1, e2, e3, e4, e5⟩, ?_⟩
    refine (c_ledRun h hI hil ht r1 r2 j2 j3 (ih _ (nth_mem hi.1 hil))).mono' ?_
    rintro _ w2 ⟨q, rfl, hF, hT⟩
    refine ⟨q, rfl, fun hq => ?_, fun hq => ?_⟩
    · obtain ⟨g1, g2⟩ := hF (by simpa using hq)
      rw [g1]
      exact ⟨rfl, g2⟩
    · refine go_wr (by omega) (by omega) ?_
      exact ⟨rfl, rfl, rfl, rfl, hT (by simpa using hq), by omega⟩
  · simp only [bls] at hc
    obtain ⟨σ, P, C, F, I, B', hL, hk, hw', hS, e1, e2, hl, hle⟩ := hI.fin (by omega)
    rw [e2] at hv
    rw [e1]
    dsimp only at hv ⊢
    split at hv
    · rename_i hr
      have hR := hL.rd hS
      obtain ⟨x1, d1, r1⟩ := hR.k1
      have fin : ∀ (σ2 : BalS) (I2 : Items) (w2 : World), σ2.vars = σ.vars → WfB ds arms B' σ2 → LstP a lent σ2 P C F I2 → St u w2 (I2 ++ R) →
          Trip Tryz.prog 51 #[.pointer (some (a.add 0)), .int .i64 m] w2 fun r w' => ∃ q : Bool, r = .bool q ∧
            OpE u R a lent m (if ∀ v : Int, m ≤ v → v < σ2.vars.length → nth σ2.own v = 0 ∧ nth σ2.tok v < 0 then some (σ2.own.take m, σ2.tok.take m) else none) (.bool q) w' := by
        intro σ2 I2 w2 ev hw2 hL2 hS2
        have l1 := hk.l1; have l2 := hk.l2; have l3 := hk.l3
        refine (c_ledCut (m := (m : Int)) hL2 hS2 hw2.l1 hw2.l2 (by rw [ev]; exact ⟨l1, l2, l3⟩) (by rw [ev]; omega) (by omega) (by rw [ev]; omega)).mono' ?_
        rintro r w3 ⟨hA, hN⟩
        by_cases hc : ∀ v : Int, m ≤ v → v < σ2.vars.length → nth σ2.own v = 0 ∧ nth σ2.tok v < 0
        · obtain ⟨rfl, I3, hL3, hS3⟩ := hA hc
          rw [if_pos hc]
          rw [show ((m : Int)).toNat = m from by omega] at hL3
          refine ⟨true, rfl, rfl, I3, _, _, _, _, hL3, ?_, ?_, ?_, ?_, hS3⟩
          all_goals (rw [List.length_take]; try rw [ev]); omega
        · obtain ⟨rfl, hs⟩ := hN hc
          rw [if_neg hc]
          exact ⟨false, rfl, rfl, hs⟩
      refine ⟨x1, d1, ?_⟩
      refine go_ix r1 hr.1 hr.2 ?_
      refine ld_int r1 hr.1 hr.2 ?_
      intro _ _
      unfold endB
      refine ⟨fun hc2 => ?_, fun hc2 => ?_⟩
      · simp only [bls] at hc2
        rw [if_pos hc2]
        refine (c_ledTake hL hS hr.1 (by rw [hw'.l1]; exact hr.2)).mono' ?_
        intro r2 w2 hT
        cases htk : takeB σ b.result with
        | none => rw [htk] at hT; obtain ⟨rfl, rfl⟩ := hT; exact ⟨false, rfl, fun _ => ⟨rfl, hS.sub⟩, fun hh => (by simp at hh)⟩
        | some σ2 =>
          rw [htk] at hT
          obtain ⟨rfl, I2, hL2, hS2⟩ := hT
          obtain ⟨w2', ev, _⟩ := hw'.take htk
          exact ⟨true, rfl, fun hh => (by simp at hh), fun _ => fin σ2 I2 _ ev w2' hL2 hS2⟩
      · simp only [bls] at hc2
        rw [if_neg (by omega)]
        exact fin σ I w rfl hw' hL hS
    · cases hv
end
end Go.Vc

namespace Go.Vc
open Go Go.Proofs Go.RowKit
set_option linter.all false
/-- the variables that are alive -/
noncomputable def alvL (lent : List Int) (σ : BalS) (n : Nat) : List Int := ((List.range n).filter fun (v : Nat) => pB (nth σ.vars (v : Int) ≠ 0 ∧ AlB [] lent σ.own (v : Int))).map fun (v : Nat) => (v : Int)
noncomputable def ownA (ds : List DeclD) (rs : List RoutD) (f k : Int) : List Int := match afterS ds rs f k with
  | none => []
  | some σ => σ.own
noncomputable def tokA (ds : List DeclD) (rs : List RoutD) (f k : Int) : List Int := match afterS ds rs f k with
  | none => []
  | some σ => σ.tok
noncomputable def alvA (ds : List DeclD) (rs : List RoutD) (f k : Int) : List Int := match afterS ds rs f k with
  | none => []
  | some σ => alvL (nth rs f).lent σ σ.vars.length
section
variable {u w v v0 : World} {a : Addr} {arms : List ArmK} {lent P C F P' C' F' fs vars params inner : List Int} {σ σ' σ0 σ1 : BalS} {I R L : Items} {r t o m i f op num into v1 k : Int} {xx yy x y ax kx s zz z px lx sx xs : Sl} {B n : Nat} {ds : List DeclD} {rs : List RoutD} {ss : List SigD} {args : List Int} {c : StepD} {b : BlockD} {p : List Int × List Int} {l : List StepD}
theorem alvL_succ (h0 : 0 ≤ i) : alvL lent σ (i + 1).toNat = alvL lent σ i.toNat ++ (if nth σ.vars i ≠ 0 ∧ pB (AlB [] lent σ.own i) = true then [i] else []) := by
  have e : ((i.toNat : Nat) : Int) = i := by omega
  unfold alvL
  rw [show (i + 1).toNat = i.toNat + 1 from by omega, List.range_succ, List.filter_append, List.map_append]
  congr 1
  by_cases hc : nth σ.vars i ≠ 0 ∧ pB (AlB [] lent σ.own i) = true
  · rw [if_pos hc, List.filter_cons_of_pos]
    · simp only [List.filter_nil, List.map_cons, List.map_nil]; rw [e]
    · rw [e]; exact pB_t ⟨hc.1, pB_iff.1 hc.2⟩
  · rw [if_neg hc, List.filter_cons_of_neg]
    · rfl
    · rw [e]; intro hh; exact hc ⟨(pB_iff.1 hh).1, pB_t (pB_iff.1 hh).2⟩
theorem alvL_len (n : Nat) : (alvL lent σ n).length ≤ n := by
  unfold alvL
  rw [List.length_map]
  exact Nat.le_trans (List.length_filter_le _ _) (by rw [List.length_range]; exact Nat.le_refl _)
theorem stps_take : ∀ (l : List StepD) (n : Nat) (vars : List Int), stpsT ds ss vars l ≠ none → stpsT ds ss vars (l.take n) ≠ none
  | [], n, vars, h => by simpa using h
  | s :: r, 0, vars, h => by rw [List.take_zero, stpsT_nil]; exact fun hh => by cases hh
  | s :: r, n + 1, vars, h => by
    rw [List.take_succ_cons]
    rw [stpsT_cons] at h ⊢
    split at h
    · exact absurd rfl h
    · rename_i t ht
      exact stps_take r n _ h
theorem cntL_take : ∀ (l : List StepD) (n : Nat), cntL (l.take n) ≤ cntL l
  | [], n => by simp
  | s :: r, 0 => by rw [List.take_zero]; rw [cntL]; omega
  | s :: r, n + 1 => by
    rw [List.take_succ_cons, cntL_cons, cntL_cons]
    have := cntL_take r n
    omega
theorem nth_take {α : Type} [Inhabited α] {l : List α} {i k : Int} (h0 : 0 ≤ i) (h1 : i < k) : nth (l.take k.toNat) i = nth l i := by
  unfold nth List.getD
  rw [List.getElem?_take, if_pos (by omega)]
/-- what the ledger after some steps is -/
def AftE (v : World) (a : Addr) (ds : List DeclD) (rs : List RoutD) (lent : List Int) : Option BalS → Bool → World → Prop
  | none, q, w => q = false ∧ Sub v w
  | some σ, q, w => q = true ∧ ∃ P C F I B, LstP a lent σ P C F I ∧ Lk [] σ.vars.length P C F ∧ WfB ds [] B σ ∧ St v w (I ++ []) ∧ σ.vars.length ≤ 10000
theorem c_ledgerAfter (hx : Read v xx ds) (hy : Read v yy rs) :
    Trip Tryz.prog 37 #[.agg #[xx.val, yy.val], .int .i64 f, .int .i64 k] v fun r w' => ∃ (a : Addr) (q : Bool), r = .tuple #[.pointer (some (a.add 0)), .bool q] ∧ AftE v a ds rs (nth rs f).lent (afterS ds rs f k) q w' := by
  classical
  refine of37 _ _ _ _ _ _ ?_
  unfold vc37
  have hyn := hy.n
  have hyl := hy.le
  have mid : ∃ x8 : Sl, (nrmOk ds rs ∧ (0 ≤ f ∧ f ≤ (rs.length : Int) - 1) → v.cell? ((elA yy f 5).add 3) = some x8.val ∧ Read v x8 (nth rs f).body.steps) := by
    by_cases hc : 0 ≤ f ∧ f ≤ (rs.length : Int) - 1
    · obtain ⟨z1, z2, z3, e1, e2, e3, e4, e5, j1, j2, r1, r2, r3⟩ := (hy.src (.refl v)).ofRoutD hc.1 (show f < rs.length by omega)
      exact ⟨z3, fun _ => ⟨e4, r3⟩⟩
    · exact ⟨Sl.mk none 0 0, fun hh => absurd hh.2 hc⟩
  obtain ⟨x8, h8⟩ := mid
  have g : ∀ {C : Bool}, ((!pB (nrmOk ds rs)) || !C) = false → nrmOk ds rs ∧ C = true := fun {C} hq => by
    simp only [Bool.or_eq_false_iff, Bool.not_eq_false'] at hq
    exact ⟨pB_iff.1 hq.1, hq.2⟩
  have g2 : ∀ {a b : Int}, (decide (0 ≤ a) && decide (a ≤ b)) = true → 0 ≤ a ∧ a ≤ b := fun h => by simpa using h
  refine ⟨_, c_validNormal hx hy, (rs.length : Int) - 1, fun hq => by rw [hyn]; exact inK_i64 (by omega) (by omega), _, fun hq => c_inRange, fun hq => ?_, x8, fun hq => ?_, _, fun hq => c_inRange, fun hq => ?_, fun hq => ?_⟩
  · obtain ⟨hn, hf⟩ := g hq
    have := g2 hf
    exact hy.ix this.1 (by omega)
  · obtain ⟨hn, hf⟩ := g hq
    exact (h8 ⟨hn, g2 hf⟩).1
  · refine St.box (vals := [.slice none 0 0, .slice none 0 0, .slice none 0 0, .slice none 0 0, .slice none 0 0, .slice none 0 0, .slice none 0 0]) (St.refl v) fun a w2 I0 hC hS hs => ?_
    refine ⟨a, false, rfl, ?_⟩
    have : afterS ds rs f k = none := by
      unfold afterS
      rw [pB_f]
      · rfl
      rintro ⟨hn, hf, hkk⟩
      have hr := (h8 ⟨hn, hf⟩).2.n
      rw [pB_t hn] at hq
      simp at hq
      omega
    rw [this]
    exact ⟨rfl, hs⟩
  · rw [Bool.or_eq_false_iff] at hq
    obtain ⟨hn, hf⟩ := g hq.1
    have hf := g2 hf
    obtain ⟨d8, r8⟩ := h8 ⟨hn, hf⟩
    have r8n := r8.n
    have r8l := r8.le
    have hkk : 0 ≤ k ∧ k ≤ (nth rs f).body.steps.length := by have := hq.2; simp at this; omega
    have haf : afterS ds rs f k = stsB ds (rs.map sgOf) (nth rs f).lent [] (startB (nth rs f).params (nth rs f).lent) ((nth rs f).body.steps.take k.toNat) := by
      unfold afterS
      rw [pB_t ⟨hn, hf, hkk⟩]
      rfl
    rw [haf]
    have f1 : f < rs.length := by omega
    have h : Nrm v xx yy ds rs := ⟨hx, hy, hn.1⟩
    obtain ⟨g1, g2⟩ := hn.2 f hf.1 f1
    obtain ⟨hnn, hpl⟩ := nrm_bound h.sg hf.1 f1
    obtain ⟨z1, z2, z3, e1, e2, e3, e4, e5, j1, j2, r1, r2, r3⟩ := (h.hy.src (.refl v)).ofRoutD hf.1 f1
    refine go_ix hy hf.1 f1 ?_
    refine ⟨z1, z2, _, z3, _, ⟨e1, e2, e3, e4, e5⟩, ?_⟩
    refine Mk.use (c_newLedger r1 r2 hnn (by omega)) (.refl v) ?_
    rintro _ w1 J ⟨a, rfl, P, C, F, hL, hk⟩ hS hs
    have hS' : St v w1 (J ++ []) := by simpa using hS
    refine ⟨a, rfl, ?_⟩
    have hlt : (((nth rs f).body.steps.take k.toNat).length : Int) = k := by rw [List.length_take]; omega
    have hct := cntL_take (nth rs f).body.steps k.toNat
    rw [cntB_eq] at g1
    have hnt : stpsT ds (rs.map sgOf) (startB (nth rs f).params (nth rs f).lent).vars ((nth rs f).body.steps.take k.toNat) ≠ none := by
      rw [start_vars]
      refine stps_take _ _ _ fun hh => ?_
      rw [blkT_eq, hh] at g2
      cases g2
    refine ⟨fun i w => LInv v [] a ds rs (nth rs f).lent [] (startB (nth rs f).params (nth rs f).lent) ((nth rs f).body.steps.take k.toNat) i w, fun i _ => (k - i).toNat, LInv.start hL hk (start_wf hnn) hS' (by rw [start_vars]; omega) (by omega), ?_⟩
    clear hL hk hS hS' hs
    rintro i w hI
    dsimp only
    have hi : 0 ≤ i ∧ i ≤ k := by obtain ⟨_, _, _, _, _, _, _, _, _, _, h1, h2, _⟩ := hI; exact ⟨h1, by omega⟩
    have hsub : Sub v w := by obtain ⟨_, _, _, _, _, _, _, _, _, h1, _⟩ := hI; exact h1.sub
    refine ⟨fun hc => ?_, fun hc => ?_⟩
    · simp only [bls] at hc
      have hil : i < (nth rs f).body.steps.length := by omega
      obtain ⟨f1', f2', d1, d2, d3, d4, d5, k1, k2, k3, q1, q2⟩ := (r8.src hsub).ofStepD hi.1 hil
      refine go_ix hy hf.1 f1 ?_
      refine ⟨x8, cell_sub hsub d8, ?_⟩
      refine go_ix r8 hi.1 hil ?_
      refine ⟨_, _, _, f1', f2', ⟨d1, d2, d3, d4, d5⟩, ?_⟩
      have en := nth_take (l := (nth rs f).body.steps) hi.1 hc
      have hR := c_ledRun (ax := f1') (kx := f2') h hI (by omega) hnt (by rw [en]; exact q1) (by rw [en]; exact q2) (by rw [en]; exact k2) (by rw [en]; exact k3) (fun b _ => c_ledBlock b)
      rw [en] at hR
      refine hR.mono' ?_
      rintro _ w2 ⟨q, rfl, hF, hT⟩
      refine ⟨q, rfl, fun hq => ?_, fun hq => ?_⟩
      · obtain ⟨g1, g2⟩ := hF (by simpa using hq)
        rw [g1]
        exact ⟨a, false, rfl, rfl, g2⟩
      · refine go_wr (by omega) (by omega) ?_
        exact ⟨rfl, rfl, hT (by simpa using hq), by omega⟩
    · simp only [bls] at hc
      obtain ⟨σ, P, C, F, I, B', hL, hk, hw', hS, e1, e2, hl, hle⟩ := hI.fin (by omega)
      rw [e1]
      exact ⟨a, true, rfl, rfl, P, C, F, I, B', hL, hk, hw', hS, hl⟩
theorem c_OwnedAfterS (hx : Read v xx ds) (hy : Read v yy rs) : Mk Tryz.prog 21 #[.agg #[xx.val, yy.val], .int .i64 f, .int .i64 k] v fun r J => ∃ z : Sl, r = z.val ∧ OwnI z (ownA ds rs f k) J := by
  refine of21 _ _ _ _ _ _ ?_
  unfold vc21
  refine (c_ledgerAfter hx hy).mono' ?_
  rintro _ w2 ⟨a, q, rfl, hA⟩
  refine ⟨a, q, rfl, ?_⟩
  unfold ownA
  cases haf : afterS ds rs f k with
  | none =>
    rw [haf] at hA
    obtain ⟨rfl, hs⟩ := hA
    exact ⟨fun _ => ⟨[], (St.refl v).sub_w hs, Sl.mk none 0 0, rfl, fun u => Own.nil u⟩, fun hh => (by simp at hh)⟩
  | some σ =>
    rw [haf] at hA
    obtain ⟨rfl, P, C, F, I, B, hL, hk, hw, hS, hl⟩ := hA
    refine ⟨fun hh => (by simp at hh), fun _ => ?_⟩
    obtain ⟨x, e, r⟩ := (hL.rd hS).k2
    refine ⟨x, e, ?_⟩
    refine Mk.usew (c_copyInts r) hS ?_
    rintro _ w3 J ⟨z, rfl, hO⟩ hS3 hs3
    exact ⟨z, rfl, J, hS3.left, z, rfl, hO.toI⟩
theorem c_KeptAfterS (hx : Read v xx ds) (hy : Read v yy rs) : Mk Tryz.prog 15 #[.agg #[xx.val, yy.val], .int .i64 f, .int .i64 k] v fun r J => ∃ z : Sl, r = z.val ∧ OwnI z (tokA ds rs f k) J := by
  refine of15 _ _ _ _ _ _ ?_
  unfold vc15
  refine (c_ledgerAfter hx hy).mono' ?_
  rintro _ w2 ⟨a, q, rfl, hA⟩
  refine ⟨a, q, rfl, ?_⟩
  unfold tokA
  cases haf : afterS ds rs f k with
  | none =>
    rw [haf] at hA
    obtain ⟨rfl, hs⟩ := hA
    exact ⟨fun _ => ⟨[], (St.refl v).sub_w hs, Sl.mk none 0 0, rfl, fun u => Own.nil u⟩, fun hh => (by simp at hh)⟩
  | some σ =>
    rw [haf] at hA
    obtain ⟨rfl, P, C, F, I, B, hL, hk, hw, hS, hl⟩ := hA
    refine ⟨fun hh => (by simp at hh), fun _ => ?_⟩
    obtain ⟨x, e, r⟩ := (hL.rd hS).k6
    refine ⟨x, e, ?_⟩
    refine Mk.usew (c_copyInts r) hS ?_
    rintro _ w3 J ⟨z, rfl, hO⟩ hS3 hs3
    exact ⟨z, rfl, J, hS3.left, z, rfl, hO.toI⟩
theorem c_AliveAfterS (hx : Read v xx ds) (hy : Read v yy rs) : Mk Tryz.prog 23 #[.agg #[xx.val, yy.val], .int .i64 f, .int .i64 k] v fun r J => ∃ z : Sl, r = z.val ∧ OwnI z (alvA ds rs f k) J := by
  refine of23 _ _ _ _ _ _ ?_
  unfold vc23
  refine (c_ledgerAfter hx hy).mono' ?_
  rintro _ w2 ⟨a, q, rfl, hA⟩
  refine ⟨a, q, rfl, ?_⟩
  unfold alvA
  cases haf : afterS ds rs f k with
  | none =>
    rw [haf] at hA
    obtain ⟨rfl, hs⟩ := hA
    exact ⟨fun _ => ⟨[], (St.refl v).sub_w hs, Sl.mk none 0 0, rfl, fun u => Own.nil u⟩, fun hh => (by simp at hh)⟩
  | some σ =>
    rw [haf] at hA
    obtain ⟨rfl, P, C, F, I, B, hL, hkk, hw, hS, hl⟩ := hA
    refine ⟨fun hh => (by simp at hh), fun _ => ?_⟩
    refine St.build (α := Int) (l := []) hS (by (repeat' (first | exact VsOf.nil | apply VsOf.cons | (apply VOf.int; first | assumption | (constructor <;> first | omega | (simp only [List.length_set, List.length_append, List.length_replicate, List.length_cons, List.length_nil, List.length_take, List.length_drop, List.length_map, List.length_singleton] at *; omega))) | exact VOf.bool | exact VOf.str))) rfl (by decide) ?_
    intro z0 w3 J hO hS3 hs3
    refine ⟨_, rfl, ?_⟩
    refine ⟨fun z i w => ∃ J, OwnI z (alvL (nth rs f).lent σ i.toNat) J ∧ St v w (J ++ (I ++ [])) ∧ 0 ≤ i ∧ i ≤ σ.vars.length, fun _ i _ => (σ.vars.length - i).toNat, ⟨J, (by unfold alvL; simpa using hO.toI), hS3, by omega, by omega⟩, ?_⟩
    clear hO hS3 hs3
    rintro z i w ⟨J, hO, hS, i0, i1⟩
    dsimp only
    have hR := hL.rd (hS.to : St v w (I ++ []))
    obtain ⟨x, e, r⟩ := hR.k1
    have rn := r.n
    refine ⟨x, e, fun hc => ?_, fun hc => ?_⟩
    · simp only [bls] at hc
      have hil : i < σ.vars.length := by omega
      refine ⟨x, e, ?_⟩
      refine go_ix r i0 hil ?_
      refine ld_int r i0 hil ?_
      intro _ _
      have hle := alvL_len (lent := (nth rs f).lent) (σ := σ) i.toNat
      refine ⟨_, fun _ => c_ledAlive hR hw hkk i0 hil, fun hq => ?_, fun hq => ?_⟩
      · simp only [bls] at hq
        refine St.build (α := Int) (l := [i]) hS (.cons (.int ⟨by omega, by omega⟩) .nil) rfl (by decide) ?_
        intro z2 w4 K hO2 hS4 hs4
        refine ⟨_, rfl, ?_⟩
        refine (hO v).append hS4 (hO2.src hS4) (by simp; omega) (by decide) ?_
        intro z3 w5 K3 hO3 hS5
        refine ⟨_, rfl, ?_⟩
        refine go_wr (by omega) (by omega) ?_
        refine ⟨rfl, rfl, ⟨K3, ?_, hS5.to, by omega, by omega⟩, by omega⟩
        rw [alvL_succ i0, if_pos hq]
        exact hO3.toI
      · refine go_wr (by omega) (by omega) ?_
        refine ⟨rfl, rfl, ⟨J, ?_, hS, by omega, by omega⟩, by omega⟩
        rw [alvL_succ i0, if_neg, List.append_nil]
        · exact hO
        · rintro ⟨g1, g2⟩
          rw [g2] at hq
          simp at hq
          exact g1 hq
    · simp only [bls] at hc
      rw [show i.toNat = σ.vars.length from by omega] at hO
      exact ⟨J, hS.left, z, rfl, hO⟩
end
end Go.Vc
