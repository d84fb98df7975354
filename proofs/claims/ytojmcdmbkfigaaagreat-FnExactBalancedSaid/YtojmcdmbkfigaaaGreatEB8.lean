/- Part of the proofs about the heaps and memories: a law is joined in the text whose name ends in W and the law. -/
import Derived.Test.YtojmcdmbkfigaaaGreatEB7
namespace Go.Vc
open Go Go.Proofs Go.RowKit
set_option linter.all false
/-- the reference's state amid a list of steps -/
def LInv (u : World) (R : Items) (a : Addr) (ds : List DeclD) (rs : List RoutD) (lent : List Int) (arms : List ArmK) (σ0 : BalS) (l : List StepD) (i : Int) (w : World) : Prop :=
  ∃ (σ : BalS) (P C F : List Int) (I : Items) (B : Nat), LstP a lent σ P C F I ∧ Lk arms σ.vars.length P C F ∧ WfB ds arms B σ ∧ St u w (I ++ R) ∧ 0 ≤ i ∧ i ≤ l.length ∧
    stsB ds (rs.map sgOf) lent arms σ0 l = stsB ds (rs.map sgOf) lent arms σ (l.drop i.toNat) ∧ stpsT ds (rs.map sgOf) σ0.vars l = stpsT ds (rs.map sgOf) σ.vars (l.drop i.toNat) ∧
    σ.vars.length + 4 * cntL (l.drop i.toNat) ≤ 10000 ∧ B + cntL (l.drop i.toNat) ≤ 10000 ∧ σ0.vars.length ≤ σ.vars.length
/-- a routine's ledger at its end is empty -/
def balR (ds : List DeclD) (rs : List RoutD) (f : Int) : Prop := bkB ds (rs.map sgOf) (nth rs f).lent [] (startB (nth rs f).params (nth rs f).lent) 0 (nth rs f).body ≠ none
section
variable {u w v v0 : World} {a : Addr} {arms : List ArmK} {lent P C F P' C' F' fs vars params inner : List Int} {σ σ' σ0 σ1 : BalS} {I R L : Items} {r t o m i f op num into v1 : Int} {xx yy x y ax kx s zz z px lx sx xs : Sl} {B n : Nat} {ds : List DeclD} {rs : List RoutD} {ss : List SigD} {args : List Int} {k : StepD} {c : StepD} {b : BlockD} {p : List Int × List Int} {l : List StepD}
theorem endB_zero (hw : WfB ds arms B σ) (hm : n ≤ σ.vars.length) : (∃ p, endB σ r n = some p ∧ ∀ v : Int, 0 ≤ v → v < n → nth p.1 v = 0 ∧ nth p.2 v < 0) ↔ endB σ r 0 ≠ none := by
  classical
  unfold endB
  have key : ∀ σ' : BalS, σ'.vars = σ.vars → σ'.own.length = σ.vars.length → σ'.tok.length = σ.vars.length →
      ((∃ p, (if ∀ v : Int, n ≤ v → v < σ'.vars.length → nth σ'.own v = 0 ∧ nth σ'.tok v < 0 then some (σ'.own.take n, σ'.tok.take n) else none) = some p ∧ ∀ v : Int, 0 ≤ v → v < n → nth p.1 v = 0 ∧ nth p.2 v < 0) ↔
      (if ∀ v : Int, (0 : Nat) ≤ v → v < σ'.vars.length → nth σ'.own v = 0 ∧ nth σ'.tok v < 0 then some (σ'.own.take 0, σ'.tok.take 0) else none) ≠ none) := by
    intro σ' e1 e2 e3
    have tk : ∀ {l : List Int} {v : Int}, 0 ≤ v → v < n → nth (l.take n) v = nth l v := by
      intro l v h0 h1
      unfold nth List.getD
      rw [List.getElem?_take, if_pos (by omega)]
    constructor
    · rintro ⟨p, hp, hz⟩
      split at hp
      · rename_i ha
        cases hp
        rw [if_pos]
        · simp
        · intro v h0 h1
          by_cases hv : v < n
          · have := hz v (by omega) hv
            rw [tk (by omega) hv, tk (by omega) hv] at this
            exact this
          · exact ha v (by omega) h1
      · cases hp
    · intro hne
      split at hne
      · rename_i ha
        refine ⟨_, if_pos fun v h0 h1 => ha v (by omega) h1, fun v h0 h1 => ?_⟩
        dsimp only
        rw [tk h0 h1, tk h0 h1]
        exact ha v (by omega) (by rw [e1]; omega)
      · exact absurd rfl hne
  split
  · cases ht : takeB σ r with
    | none => simp
    | some σ1 =>
      obtain ⟨w1, e1, e2⟩ := hw.take ht
      simp only [Option.bind_some]
      exact key σ1 e1 (by rw [w1.l1, e1]) (by rw [w1.l2, e1])
  · simp only [Option.bind_some]
    exact key σ rfl hw.l1 hw.l2
theorem LInv.start (hL : LstP a lent σ P C F I) (hk : Lk arms σ.vars.length P C F) (hw : WfB ds arms B σ) (hS : St u w (I ++ R)) (hb : σ.vars.length + 4 * cntL l ≤ 10000) (hB : B + cntL l ≤ 10000) : LInv u R a ds rs lent arms σ l 0 w :=
  ⟨σ, P, C, F, I, B, hL, hk, hw, hS, by omega, by omega, rfl, rfl, hb, hB, Nat.le_refl _⟩
theorem c_ledRun (h : Nrm u xx yy ds rs) (hI : LInv u R a ds rs lent arms σ0 l i w) (hil : i < l.length) (ht : stpsT ds (rs.map sgOf) σ0.vars l ≠ none) (ha : Read u ax (nth l i).args) (hkx : Read u kx (nth l i).kids) (hnum : InI (nth l i).num) (hinto : InI (nth l i).into)
    (H : ∀ k ∈ (nth l i).kids, BlkS ds rs lent k) :
    Trip Tryz.prog 62 #[.pointer (some (a.add 0)), .agg #[xx.val, yy.val], .agg #[.int .i64 (nth l i).op, .int .i64 (nth l i).num, .int .i64 (nth l i).into, ax.val, kx.val]] w fun r w' => ∃ q : Bool, r = .bool q ∧
      (q = false → stsB ds (rs.map sgOf) lent arms σ0 l = none ∧ Sub u w') ∧ (q = true → LInv u R a ds rs lent arms σ0 l (i + 1) w') := by
  obtain ⟨σ, P, C, F, I, B, hL, hk, hw, hS, i0, i1, e1, e2, hb, hB, hle⟩ := hI
  rw [drop_cons i0 hil] at e1 e2 hb hB
  rw [stpsT_cons] at e2
  rw [stsB_cons] at e1
  rw [cntL_cons] at hb hB
  cases hv : stpT ds (rs.map sgOf) σ.vars (nth l i) with
  | none => rw [hv] at e2; exact absurd e2 ht
  | some t =>
    rw [hv] at e2
    dsimp only at e2
    refine (c_ledStep h hL hS hw hk ha hkx hnum hinto hv H (by omega) (by omega)).mono' ?_
    intro r w2 hO
    cases hst : stB ds (rs.map sgOf) lent arms σ (nth l i) with
    | none =>
      rw [hst] at hO e1
      obtain ⟨rfl, hs⟩ := hO
      exact ⟨false, rfl, fun _ => ⟨e1, hs⟩, fun hh => (by cases hh)⟩
    | some σ2 =>
      rw [hst] at hO e1
      obtain ⟨rfl, I2, P2, C2, F2, hL2, hk2, hS2⟩ := hO
      obtain ⟨w2', ev⟩ := wf_st h.sg hw hv hst
      rw [← ev] at e2
      have hlen : σ2.vars.length ≤ σ.vars.length + 1 ∧ σ.vars.length ≤ σ2.vars.length := by rw [ev]; split <;> simp
      exact ⟨true, rfl, fun hh => (by cases hh), fun _ => ⟨σ2, P2, C2, F2, I2, _, hL2, hk2, w2', hS2, by omega, by omega, e1, e2, by omega, by omega, by omega⟩⟩
theorem LInv.fin (hI : LInv u R a ds rs lent arms σ0 l i w) (hi : ¬ i < l.length) : ∃ (σ : BalS) (P C F : List Int) (I : Items) (B : Nat), LstP a lent σ P C F I ∧ Lk arms σ.vars.length P C F ∧ WfB ds arms B σ ∧ St u w (I ++ R) ∧
    stsB ds (rs.map sgOf) lent arms σ0 l = some σ ∧ stpsT ds (rs.map sgOf) σ0.vars l = some σ.vars ∧ σ.vars.length ≤ 10000 ∧ σ0.vars.length ≤ σ.vars.length := by
  obtain ⟨σ, P, C, F, I, B, hL, hk, hw, hS, i0, i1, e1, e2, hb, hB, hle⟩ := hI
  rw [drop_end (by omega)] at e1 e2
  rw [stsB_nil] at e1
  rw [stpsT_nil] at e2
  exact ⟨σ, P, C, F, I, B, hL, hk, hw, hS, e1, e2, by omega, hle⟩
theorem c_ledBlock (b : BlockD) : BlkS ds rs lent b := by
  classical
  refine blk_ind (P := BlkS ds rs lent) (fun b ih => ?_) b
  intro u w a x y xs arms σ0 P C F I R m B t h hxs hres hL hk hw hS hv hm hb hB
  refine of50 _ _ _ _ _ _ _ _ ?_
  unfold vc50
  have hxn := hxs.n
  have hxl := hxs.le
  rw [cntB_eq] at hb hB
  rw [blkT_eq] at hv
  rw [bkB_eq]
  have ht : stpsT ds (rs.map sgOf) σ0.vars b.steps ≠ none := fun hh => by rw [hh] at hv; cases hv
  refine ⟨fun i w => LInv u R a ds rs lent arms σ0 b.steps i w, fun i _ => (b.steps.length - i).toNat, LInv.start hL hk hw hS hb hB, ?_⟩
  clear hL hk hS
  rintro i w hI
  dsimp only
  have hi : 0 ≤ i ∧ i ≤ b.steps.length := by obtain ⟨_, _, _, _, _, _, _, _, _, _, h1, h2, _⟩ := hI; exact ⟨h1, h2⟩
  have hsub : Sub u w := by obtain ⟨_, _, _, _, _, _, _, _, _, h1, _⟩ := hI; exact h1.sub
  refine ⟨fun hc => ?_, fun hc => ?_⟩
  · simp only [bls] at hc
    have hil : i < b.steps.length := by omega
    obtain ⟨f1, f2, e1, e2, e3, e4, e5, j1, j2, j3, r1, r2⟩ := (hxs.src hsub).ofStepD hi.1 hil
    refine go_ix hxs hi.1 hil ?_
    refine ⟨_, _, _, f1, f2, ⟨e1, e2, e3, e4, e5⟩, ?_⟩
    refine (c_ledRun h hI hil ht r1 r2 j2 j3 (ih _ (nth_mem hi.1 hil))).mono' ?_
    rintro _ w2 ⟨q, rfl, hF, hT⟩
    refine ⟨q, rfl, fun hq => ?_, fun hq => ?_⟩
    · obtain ⟨g1, g2⟩ := hF (by simpa using hq)
      rw [g1]
      exact ⟨rfl, g2⟩
    · refine go_wr (by omega) (by omega) ?_
      exact ⟨rfl, rfl, rfl, rfl, hT (by simpa using hq), by omega⟩
  · simp only [bls] at hc
    obtain ⟨σ, P, C, F, I, B', hL, hk, hw', hS, e1, e2, hl, hle⟩ := hI.fin (by omega)
    rw [e2] at hv
    rw [e1]
    dsimp only at hv ⊢
    split at hv
    · rename_i hr
      have hR := hL.rd hS
      obtain ⟨x1, d1, r1⟩ := hR.k1
      have fin : ∀ (σ2 : BalS) (I2 : Items) (w2 : World), σ2.vars = σ.vars → WfB ds arms B' σ2 → LstP a lent σ2 P C F I2 → St u w2 (I2 ++ R) →
          Trip Tryz.prog 51 #[.pointer (some (a.add 0)), .int .i64 m] w2 fun r w' => ∃ q : Bool, r = .bool q ∧
            OpE u R a lent m (if ∀ v : Int, m ≤ v → v < σ2.vars.length → nth σ2.own v = 0 ∧ nth σ2.tok v < 0 then some (σ2.own.take m, σ2.tok.take m) else none) (.bool q) w' := by
        intro σ2 I2 w2 ev hw2 hL2 hS2
        have l1 := hk.l1; have l2 := hk.l2; have l3 := hk.l3
        refine (c_ledCut (m := (m : Int)) hL2 hS2 hw2.l1 hw2.l2 (by rw [ev]; exact ⟨l1, l2, l3⟩) (by rw [ev]; omega) (by omega) (by rw [ev]; omega)).mono' ?_
        rintro r w3 ⟨hA, hN⟩
        by_cases hc : ∀ v : Int, m ≤ v → v < σ2.vars.length → nth σ2.own v = 0 ∧ nth σ2.tok v < 0
        · obtain ⟨rfl, I3, hL3, hS3⟩ := hA hc
          rw [if_pos hc]
          rw [show ((m : Int)).toNat = m from by omega] at hL3
          refine ⟨true, rfl, rfl, I3, _, _, _, _, hL3, ?_, ?_, ?_, ?_, hS3⟩
          all_goals (rw [List.length_take]; try rw [ev]); omega
        · obtain ⟨rfl, hs⟩ := hN hc
          rw [if_neg hc]
          exact ⟨false, rfl, rfl, hs⟩
      refine ⟨x1, d1, ?_⟩
      refine go_ix r1 hr.1 hr.2 ?_
      refine ld_int r1 hr.1 hr.2 ?_
      intro _ _
      unfold endB
      refine ⟨fun hc2 => ?_, fun hc2 => ?_⟩
      · simp only [bls] at hc2
        rw [if_pos hc2]
        refine (c_ledTake hL hS hr.1 (by rw [hw'.l1]; exact hr.2)).mono' ?_
        intro r2 w2 hT
        cases htk : takeB σ b.result with
        | none => rw [htk] at hT; obtain ⟨rfl, rfl⟩ := hT; exact ⟨false, rfl, fun _ => ⟨rfl, hS.sub⟩, fun hh => (by simp at hh)⟩
        | some σ2 =>
          rw [htk] at hT
          obtain ⟨rfl, I2, hL2, hS2⟩ := hT
          obtain ⟨w2', ev, _⟩ := hw'.take htk
          exact ⟨true, rfl, fun hh => (by simp at hh), fun _ => fin σ2 I2 _ ev w2' hL2 hS2⟩
      · simp only [bls] at hc2
        rw [if_neg (by omega)]
        exact fin σ I w rfl hw' hL hS
    · cases hv
theorem c_balancedRoutineS (h : Nrm v xx yy ds rs) (hn : nrmOk ds rs) (f0 : 0 ≤ f) (f1 : f < rs.length) : Fn Tryz.prog 29 #[.agg #[xx.val, yy.val], .int .i64 f] v (.bool (pB (balR ds rs f))) := by
  classical
  refine of29 _ _ _ _ _ ?_
  unfold vc29
  obtain ⟨g1, g2⟩ := hn.2 f f0 f1
  obtain ⟨hnn, hpl⟩ := nrm_bound h.sg f0 f1
  obtain ⟨z1, z2, z3, e1, e2, e3, e4, e5, j1, j2, r1, r2, r3⟩ := (h.hy.src (.refl v)).ofRoutD f0 f1
  refine go_ix h.hy f0 f1 ?_
  refine ⟨z1, z2, _, z3, _, ⟨e1, e2, e3, e4, e5⟩, ?_⟩
  refine Mk.use (c_newLedger r1 r2 hnn (by omega)) (.refl v) ?_
  rintro _ w1 J ⟨a, rfl, P, C, F, hL, hk⟩ hS hs
  have hS' : St v w1 (J ++ []) := by simpa using hS
  have hz1 := r1.n
  refine ⟨a, rfl, ?_⟩
  have hb := (c_ledBlock (ds := ds) (rs := rs) (lent := (nth rs f).lent) (nth rs f).body) v w1 a xx yy z3 [] (startB (nth rs f).params (nth rs f).lent) P C F J [] (nth rs f).params.length 1 (nth rs f).result h r3 j2 hL hk (start_wf hnn) hS' (by rw [start_vars]; exact g2) (by rw [start_vars]; exact Nat.le_refl _) (by rw [start_vars]; omega) (by omega)
  rw [hz1]
  have hmid : (balR ds rs f ↔ ∃ p, bkB ds (rs.map sgOf) (nth rs f).lent [] (startB (nth rs f).params (nth rs f).lent) (nth rs f).params.length (nth rs f).body = some p ∧ ∀ v : Int, 0 ≤ v → v < (nth rs f).params.length → nth p.1 v = 0 ∧ nth p.2 v < 0) := by
    unfold balR
    rw [bkB_eq, bkB_eq]
    cases hst : stsB ds (rs.map sgOf) (nth rs f).lent [] (startB (nth rs f).params (nth rs f).lent) (nth rs f).body.steps with
    | none => simp
    | some σ =>
      dsimp only
      rw [blkT_eq] at g2
      split at g2
      · cases g2
      · rename_i inner hin
        obtain ⟨w1', ev⟩ := wf_sts0 h.sg _ (fun s _ k _ => wf_bk h.sg k) _ _ _ _ (start_wf (ds := ds) (lent := (nth rs f).lent) hnn) (by rw [start_vars]; exact hin) hst
        refine (endB_zero w1' ?_).symm
        have key : ∀ (l : List StepD) (vars inner : List Int), stpsT ds (rs.map sgOf) vars l = some inner → vars.length ≤ inner.length := by
          intro l
          induction l with
          | nil => intro vars inner h; rw [stpsT_nil] at h; cases h; exact Nat.le_refl _
          | cons s r ih =>
            intro vars inner h
            rw [stpsT_cons] at h
            split at h
            · cases h
            · have := ih _ _ h
              split at this
              · exact this
              · rw [List.length_append] at this; omega
        rw [ev]
        exact key _ _ _ hin
  refine hb.mono' ?_
  intro r w2 hE
  cases hbk : bkB ds (rs.map sgOf) (nth rs f).lent [] (startB (nth rs f).params (nth rs f).lent) (nth rs f).params.length (nth rs f).body with
  | none =>
    rw [hbk] at hE hmid
    obtain ⟨rfl, hs2⟩ := hE
    refine ⟨false, rfl, fun hh => (by cases hh), fun _ => ⟨?_, hs2⟩⟩
    rw [pB_f]
    rw [hmid]; simp
  | some p =>
    rw [hbk] at hE hmid
    obtain ⟨rfl, I2, vs, P2, C2, F2, hL2, q1, q2, q3, q4, hS2⟩ := hE
    refine ⟨true, rfl, fun _ => ?_, fun hh => (by cases hh)⟩
    obtain ⟨p1, p2⟩ := (wf_bk h.sg (lent := (nth rs f).lent) (nth rs f).body) [] (startB (nth rs f).params (nth rs f).lent) (nth rs f).params.length 1 _ p (start_wf hnn) (by rw [start_vars]; exact g2) (by rw [start_vars]; exact Nat.le_refl _) hbk
    refine (c_ledCut (m := 0) hL2 hS2 (by dsimp only; omega) (by dsimp only; omega) (by dsimp only; omega) (by dsimp only; omega) (by omega) (by omega)).mono' ?_
    rintro r w3 ⟨hA, hN⟩
    dsimp only at hA hN
    by_cases hz : ∀ v : Int, 0 ≤ v → v < vs.length → nth p.1 v = 0 ∧ nth p.2 v < 0
    · obtain ⟨rfl, I3, hL3, hS3⟩ := hA hz
      refine ⟨true, rfl, ?_, hS3.sub⟩
      rw [pB_t (hmid.2 ⟨p, rfl, fun v h0 h1 => hz v h0 (by omega)⟩)]
    · obtain ⟨rfl, hs3⟩ := hN hz
      refine ⟨false, rfl, ?_, hs3⟩
      rw [pB_f]
      rw [hmid]
      rintro ⟨p', hp, hh⟩
      cases hp
      exact hz fun v h0 h1 => hh v h0 (by omega)
theorem c_balancedS (hx : Read v xx ds) (hy : Read v yy rs) : Fn Tryz.prog 36 #[.agg #[xx.val, yy.val]] v (.bool (pB (nrmOk ds rs ∧ ∀ f : Int, 0 ≤ f → f < rs.length → balR ds rs f))) := by
  refine of36 _ _ _ _ ?_
  unfold vc36
  have hyn := hy.n
  have hyl := hy.le
  refine ⟨_, c_validNormal hx hy, fun hq => ?_, fun hq => ?_⟩
  · simp only [bls] at hq
    refine ⟨?_, .refl v⟩
    rw [pB_f]
    exact fun hh => by rw [pB_t hh.1] at hq; simp at hq
  · simp only [bls, pB_iff] at hq
    refine ⟨fun i w => Sub v w ∧ 0 ≤ i ∧ i ≤ rs.length ∧ ∀ j : Int, 0 ≤ j → j < i → balR ds rs j, fun i _ => (rs.length - i).toNat, ⟨.refl v, by omega, by omega, fun j h0 h1 => by omega⟩, ?_⟩
    rintro i w ⟨hs, i0, i1, hj⟩
    dsimp only
    refine ⟨fun hc => ?_, fun hc => ?_⟩
    · simp only [bls] at hc
      refine (c_balancedRoutineS (v := w) ⟨hx.mono hs, hy.mono hs, hq.1⟩ hq i0 (by omega)).mono' ?_
      rintro _ w2 ⟨rfl, hs2⟩
      refine ⟨_, rfl, fun hb => ?_, fun hb => ?_⟩
      · simp only [bls] at hb
        refine ⟨?_, hs.trans hs2⟩
        rw [pB_f]
        exact fun hh => by rw [pB_t (hh.2 i i0 (by omega))] at hb; simp at hb
      · simp only [bls, pB_iff] at hb
        refine go_wr (by omega) (by omega) ?_
        refine ⟨rfl, rfl, ⟨hs.trans hs2, by omega, by omega, fun j h0 h1 => ?_⟩, by omega⟩
        by_cases e : j = i
        · subst e; exact hb
        · exact hj j h0 (by omega)
    · simp only [bls] at hc
      refine ⟨?_, hs⟩
      rw [pB_t ⟨hq, fun f h0 h1 => hj f h0 (by omega)⟩]
theorem c_BalancedS (hx : Read v xx ds) (hy : Read v yy rs) : Fn Tryz.prog 13 #[.agg #[xx.val, yy.val]] v (.bool (pB (nrmOk ds rs ∧ ∀ f : Int, 0 ≤ f → f < rs.length → balR ds rs f))) := by
  refine of13 _ _ _ _ ?_
  unfold vc13
  refine (c_balancedS hx hy).mono' ?_
  rintro _ w2 ⟨rfl, hs⟩
  exact ⟨_, rfl, rfl, hs⟩
end
end Go.Vc

namespace Go.Vc
open Go Go.Proofs Go.RowKit
set_option linter.all false
section
variable {u w v v0 : World} {a : Addr} {arms : List ArmK} {lent P C F P' C' F' fs vars params inner : List Int} {σ σ' σ0 σ1 : BalS} {I R L : Items} {r t o m i f op num into v1 k : Int} {xx yy x y ax kx s zz z px lx sx xs : Sl} {B n : Nat} {ds : List DeclD} {rs : List RoutD} {ss : List SigD} {args : List Int} {c : StepD} {b : BlockD} {p : List Int × List Int} {l : List StepD}
end
end Go.Vc
