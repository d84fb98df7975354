/- Part of the proofs about the heaps and memories: a law is joined in the text whose name ends in W and the law. -/
import Derived.Test.YtojmcdmbkfigaaaGreatEQ2
namespace Go.Vc
open Go Go.Proofs Go.RowKit
set_option linter.all false
section
variable {u w v0 : World} {a a1 : Addr} {arms : List ArmK} {lent vars args l l2 fields inner : List Int} {σ σ' σ1 : BalS} {I R L J I1 : Items} {r t o v i op num into first res : Int} {x y xl xa z ax kx s f xs xa1 : Sl} {B n m : Nat} {ds : List DeclD} {ss : List SigD} {q : Bool} {b : BlockD} {c : StepD}
theorem handB_none (hno : ¬ isCons op) (hto : intoIn σ.vars op into) : handB ss lent arms op num into args σ = some σ := by
  classical
  have ht : ∀ n, takesB ss op num args n σ = some σ := by
    intro n
    induction n with
    | zero => rw [takesB]
    | succ n ih => rw [takesB, ih, Option.bind_some, if_neg fun hh => hno hh.1]
  unfold handB
  rw [ht, Option.bind_some, if_pos (show lentsOk ss lent arms op num args σ from fun i _ _ hl => absurd (show isCons op by unfold isCons; exact .inr (.inl hl.1)) hno)]
  unfold intoB
  rw [if_pos]
  rcases hto with h | ⟨h, _⟩
  · exact h
  · exact absurd (show isCons op by unfold isCons; exact .inl h) hno
theorem want_len (hsg : sigSigs ds ss) {W : List Int} {n t0 : Int} (h : wantB ds ss op num t0 = some (W, n)) : W.length ≤ 3 := by
  unfold wantB at h
  split at h
  · split at h
    · cases h; simp
    · cases h
  split at h
  · split at h
    · cases h; simp
    · cases h
  split at h
  · split at h
    · cases h; simp
    · cases h
  split at h
  · split at h
    · cases h; exact conF_len3 hsg.1 _
    · cases h
  split at h
  · split at h
    · rename_i hn
      cases h; exact (sig_nn hsg hn.1 hn.2).2.2
    · cases h
  split at h
  · split at h
    · rename_i hn
      cases h
      have := (sig_nn hsg hn.1 hn.2.1).2.2
      rw [List.length_take]; omega
    · cases h
  split at h
  · split at h
    · cases h; simp
    · cases h
  · cases h
theorem typs_bound (hsg : sigSigs ds ss) {T : List Int} (h : simB ds ss op num T = some t) : T.length ≤ 3 := by
  unfold simB at h
  split at h
  · rename_i W n hw
    split at h
    · rename_i e; rw [e]; exact want_len hsg hw
    · cases h
  · cases h
/-- lent places hold no integers -/
theorem lent_ne (hsg : sigSigs ds ss) (hv : stpT ds ss vars c = some t) (hk : c.op ≠ 7 ∧ c.op ≠ 8) (hc : ¬ isCnt c.op) {i : Int} (h0 : 0 ≤ i) (h1 : i < c.args.length) (hl : lentAtB ss c.op c.num i) : nth vars (nth c.args i) ≠ 0 := by
  obtain ⟨hin, hto⟩ := stp_args hv
  have hk0 : c.kids.length = 0 := Classical.byContradiction fun hk0 => by rw [stp_kids hk0 hk.1 hk.2] at hv; cases hv
  rw [(stp_simple hto hk.1 hk.2 hc hk0).1 hin] at hv
  unfold simB at hv
  obtain ⟨ho, hm⟩ := hl
  have hwt : wantB ds ss c.op c.num (nth (typs vars c.args) 0) = if 0 ≤ c.num ∧ c.num < ss.length then some ((nth ss c.num).params, (nth ss c.num).result) else none := by
    unfold wantB
    rw [if_neg (by omega), if_neg (by omega), if_neg (by omega), if_neg (by omega), if_pos ho]
  rw [hwt] at hv
  by_cases hn : 0 ≤ c.num ∧ c.num < ss.length
  · rw [if_pos hn] at hv
    dsimp only at hv
    split at hv
    · rename_i hT
      have := (hsg.2.2.2.2.2 c.num hn.1 hn.2).2
      obtain ⟨p, hp, e⟩ := List.getElem_of_mem hm
      have h3 := this (p : Int) (by omega) (by omega)
      rw [nth_typs (vars := vars) h0 h1 |>.symm, hT]
      unfold lent1 at h3
      rw [nth_of (l := (nth ss c.num).lent) (i := (p : Int)) (a := i) (by rw [Int.toNat_natCast, List.getElem?_eq_getElem hp, e])] at h3
      exact h3.2.2.1
    · cases hv
  · rw [if_neg hn] at hv
    cases hv
theorem c_balStep (hg : Sg u x y ds ss) (hl : Read u xl lent) (ha : Read u xa arms) (hL : BalP a x y xl xa σ I) (hS : St u w (I ++ R)) (hw : WfB ds arms B σ) (hax : Read u ax c.args) (hkx : Read u kx c.kids) (hnum : InI c.num) (hinto : InI c.into)
    (hv : stpT ds ss σ.vars c = some t) (H : ∀ k ∈ c.kids, BlkB ds ss lent k) (hb : σ.vars.length + 3 + 4 * cntS c ≤ 10000) (hB : B + cntS c ≤ 10000) (har : arms.length + 1 + cntS c ≤ 10000) :
    Trip Tryz.prog 87 #[.pointer (some (a.add 0)), .agg #[.int .i64 c.op, .int .i64 c.num, .int .i64 c.into, ax.val, kx.val]] w (OpB u R a x y xl xa (stB ds ss lent arms σ c)) := by
  classical
  refine of87 _ _ _ _ _ _ _ _ ?_
  unfold vc87
  obtain ⟨hin, hto⟩ := stp_args hv
  have htn := stpT_nn hg.sg hw.vn hv
  have hon := oneOf_le t
  have hR := hL.rd hS
  have hl1 := hw.l1
  have hop := stp_op hv
  have hgd : gD (stpT ds ss σ.vars c) = t := by rw [hv]; rfl
  have hmin : min t 1 = oneOf t := by unfold oneOf; split <;> omega
  rw [stB_core]
  -- what follows an operation that defines a variable
  have tail : ∀ (w1 : World) (σ1 : BalS) (I1 : Items), ¬ isCnt c.op → coreB ds ss lent arms σ c = some σ1 → BalP a x y xl xa σ1 I1 → St u w1 (I1 ++ R) →
      ∃ x11 : Sl, ∃ x12 : Sl, (w1.cell? (a.add 0) = some x11.val ∧ w1.cell? (a.add 1) = some x12.val) ∧ ∃ x13 : Sl, w1.cell? (a.add 4) = some x13.val ∧
        Trip Tryz.prog 84 #[.agg #[x11.val, x12.val], x13.val, .agg #[.int .i64 c.op, .int .i64 c.num, .int .i64 c.into, ax.val, kx.val]] w1 fun r14 w15 =>
          ∃ n16 : Int, ∃ q17 : Bool, r14 = .tuple #[.int .i64 n16, .bool q17] ∧ ∃ n18 : Int, PureT Tryz.prog (Builtin.min_ #[3, 3] 3 #[(.int .i64 n16), (.int .i64 1)]) w15 (.int .i64 n18) ∧
            Trip Tryz.prog 86 #[.pointer (some (a.add 0)), .int .i64 n16, .int .i64 n18] w15 fun r19 w20 => r19 = .tuple #[] ∧ OpB u R a x y xl xa (match coreB ds ss lent arms σ c with | none => none | some σ1 => some (if isCnt c.op then σ1 else growB σ1 (gD (stpT ds ss σ.vars c)) (oneOf (gD (stpT ds ss σ.vars c))))) (.bool true) w20 := by
    intro w1 σ1 I1 hcn hco hL1 hS1
    obtain ⟨ev, eo, et⟩ := core_wf hg.sg hw hv hco
    have hR1 := hL1.rd hS1
    obtain ⟨x4, e4, r4⟩ := hR1.k4
    rw [ev] at r4
    refine ⟨x, y, ⟨hR1.c0, hR1.c1⟩, x4, e4, ?_⟩
    have hs1 := hS1.sub
    refine (c_stepTypeI (hg.mono hs1) r4 hw.vn (hax.mono hs1) (hkx.mono hs1) hnum hinto (fun k _ => c_blockTypeI k) hb).mono' ?_
    rintro _ w2 ⟨n, q, rfl, hT, hs2⟩
    have hqt : q = true := by
      cases q with
      | true => rfl
      | false => have := hT.2 rfl; rw [hv] at this; cases this
    have hnt : n = t := by
      have := (hT.1 hqt).2 hcn
      rw [hv] at this
      exact (Option.some.inj this).symm
    subst hnt
    refine ⟨n, q, rfl, ?_⟩
    refine go_min ?_
    rw [hmin]
    refine (c_bind hL1 (hS1.sub_w hs2) ⟨by rw [ev]; omega, by omega, by omega⟩ ⟨by omega, by omega⟩ ⟨by omega, by omega⟩).mono' ?_
    rintro _ w3 ⟨rfl, I3, hL3, hS3⟩
    refine ⟨rfl, ?_⟩
    rw [hco, hgd]
    dsimp only
    rw [if_neg hcn]
    exact ⟨rfl, I3, hL3, hS3⟩
  have fail : ∀ w1 : World, coreB ds ss lent arms σ c = none → Sub u w1 → OpB u R a x y xl xa (match coreB ds ss lent arms σ c with | none => none | some σ1 => some (if isCnt c.op then σ1 else growB σ1 (gD (stpT ds ss σ.vars c)) (oneOf (gD (stpT ds ss σ.vars c))))) (.bool false) w1 := by
    intro w1 hco hs
    rw [hco]
    exact ⟨rfl, hs⟩
  refine ⟨_, c_isCounting, fun hc => ?_, fun hc => ?_⟩
  · simp only [bls] at hc
    have hcn : isCnt c.op := by unfold isCnt; omega
    obtain ⟨hal, hne⟩ := stp_count hv hcn
    have ha0 := argsIn_nth hin (i := 0) (by omega) (by omega)
    refine go_ix hax (by omega) (by omega) ?_
    refine ld_int (hax.mono hS.sub) (by omega) (by omega) ?_
    intro _ _
    refine (c_count hL hS hl ha hg.sg.1 hw (by omega) (by omega) hcn ha0.1 ha0.2).mono' ?_
    have hco : coreB ds ss lent arms σ c = (if c.op = 14 then (if AlB arms lent σ.own (nth c.args 0) then some (incB σ (nth c.args 0)) else none) else if c.op = 15 then takeB σ (nth c.args 0) else openB arms σ c.op (nth c.args 0)) := by
      unfold coreB
      split
      · rfl
      · split
        · rfl
        · rw [if_pos (by unfold isCnt at hcn; omega)]
    rw [← hco]
    intro r2 w2 hT
    cases hcb : coreB ds ss lent arms σ c with
    | none => rw [hcb] at hT; obtain ⟨rfl, hs⟩ := hT; exact ⟨false, rfl, rfl, hs⟩
    | some σ2 =>
      rw [hcb] at hT
      obtain ⟨rfl, hT⟩ := hT
      refine ⟨true, rfl, rfl, ?_⟩
      rw [if_pos hcn]
      exact hT
  · have hcn : ¬ isCnt c.op := by
      unfold isCnt
      intro hh
      simp at hc
      omega
    have hop' : 0 ≤ c.op ∧ c.op ≤ 11 := hop.resolve_right hcn
    refine ⟨fun ho => ?_, fun ho => ?_⟩
    · have ho : c.op = 7 ∨ c.op = 8 := by simpa using ho
      refine (c_balChoose hg hl ha hL hS hw hax hkx hnum hv ho H hb hB har).mono' ?_
      intro r1 w1 hT
      cases hcb : coreB ds ss lent arms σ c with
      | none =>
        rw [hcb] at hT
        obtain ⟨rfl, hs⟩ := hT
        exact ⟨false, rfl, fun _ => ⟨rfl, hs⟩, fun hh => (by simp at hh)⟩
      | some σ1 =>
        rw [hcb] at hT
        obtain ⟨rfl, I1, hL1, hS1⟩ := hT
        refine ⟨true, rfl, fun hh => (by simp at hh), fun _ => ?_⟩
        have := tail w1 σ1 I1 hcn hcb hL1 hS1
        rw [hcb] at this
        exact this
    · have ho : c.op ≠ 7 ∧ c.op ≠ 8 := by
        simp at ho; exact ho
      have hco : coreB ds ss lent arms σ c = handB ss lent arms c.op c.num c.into c.args σ := by
        unfold coreB
        unfold isCnt at hcn
        rw [if_neg (by omega), if_neg (by omega), if_neg (by omega), if_neg (by omega)]
      refine ⟨_, c_isConsuming, fun hq => ?_, fun hq => ?_⟩
      · have hk0 : c.kids.length = 0 := Classical.byContradiction fun hk0 => by rw [stp_kids hk0 ho.1 ho.2] at hv; cases hv
        have hv2 := hv
        rw [(stp_simple hto ho.1 ho.2 hcn hk0).1 hin] at hv2
        have hnm : c.op = 9 → 0 ≤ c.num ∧ c.num < ss.length := fun o9 => by
          refine Classical.byContradiction fun hn => ?_
          unfold simB wantB at hv2
          rw [if_neg (by omega), if_neg (by omega), if_neg (by omega), if_neg (by omega), if_pos o9, if_neg hn] at hv2
          cases hv2
        have hal : c.args.length ≤ 1000 := by
          have := typs_bound hg.sg hv2
          rw [typs_len] at this
          omega
        refine (c_consumeB (kx := kx) hg hL hS hl ha hw (by omega) (by omega) hax hin hto hnm hal hinto (fun i h0 h1 hl => lent_ne hg.sg hv ho hcn h0 h1 hl)).mono' ?_
        rw [← hco]
        intro r1 w1 hT
        cases hcb : coreB ds ss lent arms σ c with
        | none =>
          rw [hcb] at hT
          obtain ⟨rfl, hs⟩ := hT
          exact ⟨false, rfl, fun _ => ⟨rfl, hs⟩, fun hh => (by simp at hh)⟩
        | some σ1 =>
          rw [hcb] at hT
          obtain ⟨rfl, I1, hL1, hS1⟩ := hT
          refine ⟨true, rfl, fun hh => (by simp at hh), fun _ => ?_⟩
          have := tail w1 σ1 I1 hcn hcb hL1 hS1
          rw [hcb] at this
          exact this
      · have hno : ¬ isCons c.op := by
          unfold isCons
          simp at hq
          omega
        rw [handB_none hno hto] at hco
        exact tail w σ I hcn hco hL hS
end
end Go.Vc

namespace Go.Vc
open Go Go.Proofs Go.RowKit
set_option linter.all false
section
variable {u w v v0 : World} {a a1 : Addr} {arms : List ArmK} {lent vars args l2 fields inner params : List Int} {σ σ' σ1 : BalS} {I R L J I1 : Items} {r t o i op num into first res f k : Int} {x y xl xa z ax kx s fx xs xa1 xx yy px lx : Sl} {B n m : Nat} {ds : List DeclD} {ss : List SigD} {rs : List RoutD} {q : Bool} {b : BlockD} {c : StepD} {l : List StepD}
theorem c_balSts (H : ∀ s ∈ l, ∀ k ∈ s.kids, BlkB ds ss lent k) (hg : Sg u x y ds ss) (hl : Read u xl lent) (ha : Read u xa arms) (hxs : Read u xs l) (hL : BalP a x y xl xa σ I) (hw : WfB ds arms B σ) (hS : St u w (I ++ R))
    (hv : stpsT ds ss σ.vars l ≠ none) (hb : σ.vars.length + 4 * cntL l ≤ 10000) (hB : B + cntL l ≤ 10000) (har : arms.length + cntL l ≤ 10000) :
    Trip Tryz.prog 58 #[.pointer (some (a.add 0)), xs.val] w (OpB u R a x y xl xa (stsB ds ss lent arms σ l)) := by
  refine of58 _ _ _ _ ?_
  unfold vc58
  have hxn := hxs.n
  have hxl := hxs.le
  refine ⟨fun i w => ∃ (σ' : BalS) (I' : Items) (B' : Nat), BalP a x y xl xa σ' I' ∧ WfB ds arms B' σ' ∧ St u w (I' ++ R) ∧ 0 ≤ i ∧ i ≤ l.length ∧ stsB ds ss lent arms σ l = stsB ds ss lent arms σ' (l.drop i.toNat) ∧ stpsT ds ss σ.vars l = stpsT ds ss σ'.vars (l.drop i.toNat) ∧ σ'.vars.length + 4 * cntL (l.drop i.toNat) ≤ 10000 ∧ B' + cntL (l.drop i.toNat) ≤ 10000 ∧ arms.length + cntL (l.drop i.toNat) ≤ 10000, fun i _ => (l.length - i).toNat,
    ⟨σ, I, B, hL, hw, hS, by omega, by omega, rfl, rfl, hb, hB, har⟩, ?_⟩
  clear hL hS hw
  rintro i w ⟨σ2, I2, B2, hL, hw, hS, i0, i1, e1, e2, hb2, hB2, ha2⟩
  dsimp only
  refine ⟨fun hc => ?_, fun hc => ?_⟩
  · simp only [bls] at hc
    have hil : i < l.length := by omega
    rw [drop_cons i0 hil] at e1 e2 hb2 hB2 ha2
    rw [stpsT_cons] at e2
    rw [stsB_cons] at e1
    rw [cntL_cons] at hb2 hB2 ha2
    obtain ⟨f1, f2, d1, d2, d3, d4, d5, j1, j2, j3, r1, r2⟩ := (hxs.src hS.sub).ofStepD i0 hil
    refine go_ix hxs i0 hil ?_
    refine ⟨_, _, _, f1, f2, ⟨d1, d2, d3, d4, d5⟩, ?_⟩
    cases hst : stpT ds ss σ2.vars (nth l i) with
    | none => rw [hst] at e2; exact absurd e2 hv
    | some t =>
      rw [hst] at e2
      dsimp only at e2
      refine (c_balStep hg hl ha hL hS hw r1 r2 j2 j3 hst (H _ (nth_mem i0 hil)) (by omega) (by omega) (by omega)).mono' ?_
      intro r2 w2 hO
      cases hsb : stB ds ss lent arms σ2 (nth l i) with
      | none =>
        rw [hsb] at hO e1
        obtain ⟨rfl, hs⟩ := hO
        refine ⟨false, rfl, fun _ => ?_, fun hh => (by simp at hh)⟩
        rw [e1]
        exact ⟨rfl, hs⟩
      | some σ3 =>
        rw [hsb] at hO e1
        obtain ⟨rfl, I3, hL3, hS3⟩ := hO
        obtain ⟨hw3, ev3⟩ := wf_st hg.sg hw hst hsb
        rw [← ev3] at e2
        have hlen : σ3.vars.length ≤ σ2.vars.length + 1 := by rw [ev3]; split <;> simp
        refine ⟨true, rfl, fun hh => (by simp at hh), fun _ => ?_⟩
        refine go_wr (by omega) (by omega) ?_
        exact ⟨⟨σ3, I3, _, hL3, hw3, hS3, by omega, by omega, e1, e2, by omega, by omega, by omega⟩, by omega⟩
  · simp only [bls] at hc
    rw [drop_end (by omega), stsB_nil] at e1
    rw [e1]
    exact ⟨rfl, I2, hL, hS⟩
theorem c_balBlk (b : BlockD) : BlkB ds ss lent b := by
  refine blk_ind (P := BlkB ds ss lent) (fun b ih => ?_) b
  intro u w a x y xl xa xs arms σ I R B inner hg hl ha hxs hL hw hS hv hb hB har
  rw [cntB_eq] at hb hB har
  exact c_balSts ih hg hl ha hxs hL hw hS (by rw [hv]; exact fun hh => by cases hh) hb hB har
/-- the first parameters bound -/
theorem startK_zero : startK params lent 0 = ⟨[], [], []⟩ := by unfold startK; simp
theorem c_newBalance (hx : Read v xx ds) (hy : Read v yy rs) (hn : nrmOk ds rs) (f0 : 0 ≤ f) (f1 : f < rs.length) :
    Trip Tryz.prog 57 #[.agg #[xx.val, yy.val], .int .i64 f] v fun r w => ∃ (a : Addr) (u : World) (s xl : Sl) (J : Items), r = .pointer (some (a.add 0)) ∧ Sub v u ∧ Sg u xx s ds (rs.map sgOf) ∧ Read u xl (nth rs f).lent ∧ BalP a xx s xl (Sl.mk none 0 0) (startB (nth rs f).params (nth rs f).lent) J ∧ St u w (J ++ []) := by
  refine of57 _ _ _ _ _ ?_
  unfold vc57
  obtain ⟨hnn, hpl⟩ := nrm_bound hn.1 f0 f1
  refine (c_normalSigs hx hy).mono' ?_
  rintro _ w1 ⟨J1, hS1, s, z, rfl, hsz⟩
  obtain ⟨rfl, hO⟩ := hsz hn.1
  refine ⟨s, z, _, rfl, ?_⟩
  refine go_ix hy f0 f1 ?_
  have hS1' : St v w1 (J1 ++ []) := by simpa using hS1
  have hz := hO.read hS1'
  obtain ⟨u, hu, hS, hSu⟩ := hS1'.freeze J1
  have hzu := hO.read (by simpa using hSu : St v u (J1 ++ []))
  have hg : Sg u s z ds (rs.map sgOf) := ⟨hx.mono hu, hzu, hn.1⟩
  obtain ⟨z1, z2, z3, e1, e2, e3, e4, e5, j1, j2, r1, r2, r3⟩ := (hy.src (.refl v)).ofRoutD f0 f1
  have hvw := hS1.sub
  refine ⟨z2, cell_sub hvw e2, ?_⟩
  refine St.box (vals := [s.val, z.val, z2.val, .slice none 0 0, .slice none 0 0, .slice none 0 0, .slice none 0 0]) hS fun a w2 I0 hC hS2 hs2 => ?_
  refine go_ix hy f0 f1 ?_
  refine ⟨z1, cell_sub (hvw.trans hs2) e1, ?_⟩
  have hpn := r1.n
  have hni : OwnI (Sl.mk none 0 0) [] [] := fun u => Own.nil u
  have r1u := r1.mono hu
  have r2u := r2.mono hu
  refine ⟨fun i w => ∃ I, BalP a s z z2 (Sl.mk none 0 0) (startK (nth rs f).params (nth rs f).lent i.toNat) I ∧ St u w (I ++ []) ∧ 0 ≤ i ∧ i ≤ (nth rs f).params.length, fun i _ => ((nth rs f).params.length - i).toNat, ⟨I0 ++ ([] ++ ([] ++ [])), ?_, by simpa using hS2, by omega, by omega⟩, ?_⟩
  · rw [show (0 : Int).toNat = 0 from rfl, startK_zero]
    exact ⟨Sl.mk none 0 0, Sl.mk none 0 0, Sl.mk none 0 0, I0, [], [], [], hC, hni, hni, hni, rfl⟩
  clear hC hS2 hs2
  rintro i w ⟨I, hL, hS, i0, i1⟩
  dsimp only
  refine ⟨fun hc => ?_, fun hc => ?_⟩
  · simp only [bls] at hc
    have hil : i < (nth rs f).params.length := by omega
    refine go_ix r1u i0 hil ?_
    refine ld_int (r1u.mono hS.sub) i0 hil ?_
    intro q0 q1
    refine (c_bind hL hS ?_ ⟨q0, q1⟩ ⟨by omega, by omega⟩).mono' ?_
    · unfold startK
      simp only [List.length_take, List.length_map, List.length_range, List.length_replicate]
      omega
    rintro _ w3 ⟨rfl, I3, hL3, hS3⟩
    refine ⟨rfl, ?_⟩
    have hR3 := hL3.rd hS3
    have hgrow : ∀ o : Int, ownAt (nth rs f).params (nth rs f).lent i.toNat = o → growB (startK (nth rs f).params (nth rs f).lent i.toNat) (nth (nth rs f).params i) o = startK (nth rs f).params (nth rs f).lent (i + 1).toNat := fun o ho => by rw [← ho, startK_succ i0 hil]
    refine ⟨z2, fun _ => hR3.c2, _, fun _ => c_contains (r2u.mono hS3.sub), fun hq => ?_, fun hq => ?_⟩
    · simp only [bls] at hq
      obtain ⟨x5, e5', r5, st⟩ := hL3.so5 hS3
      have hlen5 : (growB (startK (nth rs f).params (nth rs f).lent i.toNat) (nth (nth rs f).params i) 0).own.length = i.toNat + 1 := by
        unfold growB startK; simp
      refine ⟨x5, e5', ?_⟩
      refine go_ix r5 i0 (by rw [hlen5]; omega) ?_
      refine st i0 (by rw [hlen5]; omega) ⟨by omega, by omega⟩ ?_
      intro w4 I4 hL4 hS4
      refine go_wr (by omega) (by omega) ?_
      refine ⟨rfl, rfl, rfl, rfl, ⟨I4, ?_, hS4, by omega, by omega⟩, by omega⟩
      rw [← hgrow 1 (by
        unfold ownAt
        rw [pB_t ⟨by rw [show ((i.toNat : Nat) : Int) = i from by omega]; exact hq.1, by rw [show ((i.toNat : Nat) : Int) = i from by omega]; exact hq.2⟩]
        rfl)]
      have : (⟨(growB (startK (nth rs f).params (nth rs f).lent i.toNat) (nth (nth rs f).params i) 0).vars, (growB (startK (nth rs f).params (nth rs f).lent i.toNat) (nth (nth rs f).params i) 0).own.set i.toNat 1, (growB (startK (nth rs f).params (nth rs f).lent i.toNat) (nth (nth rs f).params i) 0).tok⟩ : BalS) = growB (startK (nth rs f).params (nth rs f).lent i.toNat) (nth (nth rs f).params i) 1 := by
        unfold growB startK
        simp
      rw [← this]
      exact hL4
    · refine go_wr (by omega) (by omega) ?_
      refine ⟨rfl, rfl, rfl, rfl, ⟨I3, ?_, hS3, by omega, by omega⟩, by omega⟩
      rw [← hgrow 0 (by
        unfold ownAt
        rw [pB_f]
        · rfl
        rw [show ((i.toNat : Nat) : Int) = i from by omega]
        rintro ⟨g1, g2⟩
        simp [g1] at hq
        exact g2 hq)]
      exact hL3
  · simp only [bls] at hc
    refine ⟨a, u, z, z2, I, rfl, hu, hg, r2u, ?_, hS⟩
    rw [show i.toNat = (nth rs f).params.length from by omega] at hL
    exact hL
end
end Go.Vc

namespace Go.Vc
open Go Go.Proofs Go.RowKit
set_option linter.all false
section
variable {u w v v0 : World} {a a1 : Addr} {arms : List ArmK} {lent vars args l2 fields inner params : List Int} {σ σ' σ1 : BalS} {I R L J I1 : Items} {r t o i op num into first res f k : Int} {x y xl xa z ax kx s fx xs xa1 xx yy px lx : Sl} {B n m : Nat} {ds : List DeclD} {ss : List SigD} {rs : List RoutD} {q : Bool} {b : BlockD} {c : StepD} {l : List StepD}
/-- the balance after some steps -/
theorem c_balanceAfter (hx : Read v xx ds) (hy : Read v yy rs) :
    Trip Tryz.prog 39 #[.agg #[xx.val, yy.val], .int .i64 f, .int .i64 k] v fun r w' => match afterS ds rs f k with
      | none => r = .pointer none ∧ Sub v w'
      | some σ => ∃ (a : Addr) (u : World) (s xl : Sl) (I : Items) (B : Nat), r = .pointer (some a) ∧ Sub v u ∧ Read u xl (nth rs f).lent ∧ BalP a xx s xl (Sl.mk none 0 0) σ I ∧ WfB ds [] B σ ∧ St u w' (I ++ []) ∧ σ.vars.length ≤ 10000 := by
  refine of39 _ _ _ _ _ _ ?_
  unfold vc39
  have hyn := hy.n
  have hyl := hy.le
  have mid : ∃ x8 : Sl, (0 ≤ f ∧ f ≤ (rs.length : Int) - 1 → v.cell? ((elA yy f 5).add 3) = some x8.val ∧ Read v x8 (nth rs f).body.steps) := by
    by_cases hc : 0 ≤ f ∧ f ≤ (rs.length : Int) - 1
    · obtain ⟨z1, z2, z3, e1, e2, e3, e4, e5, j1, j2, r1, r2, r3⟩ := (hy.src (.refl v)).ofRoutD hc.1 (show f < rs.length by omega)
      exact ⟨z3, fun _ => ⟨e4, r3⟩⟩
    · exact ⟨Sl.mk none 0 0, fun hh => absurd hh hc⟩
  obtain ⟨x8, h8⟩ := mid
  have g : ((((!pB (nrmOk ds rs)) || (decide (f < 0))) || (decide (f ≥ (yy.n : Int)))) || (decide (k < 0))) = false → nrmOk ds rs ∧ (0 ≤ f ∧ f ≤ (rs.length : Int) - 1) ∧ 0 ≤ k := fun hq => by
    simp only [bls, pB_iff] at hq
    rw [hyn] at hq
    exact ⟨hq.1.1.1, ⟨by omega, by omega⟩, by omega⟩
  refine ⟨_, c_implValidNormal hx hy, fun hq => ?_, x8, fun hq => ?_, fun hq => ?_, fun hq => ?_⟩
  · have := g hq
    exact hy.ix this.2.1.1 (by omega)
  · exact (h8 (g hq).2.1).1
  · have : afterS ds rs f k = none := by
      unfold afterS
      rw [pB_f]
      · rfl
      rintro ⟨hn, hf, hkk⟩
      have hr := (h8 hf).2.n
      rw [pB_t hn] at hq
      simp at hq
      omega
    rw [this]
    exact ⟨rfl, .refl v⟩
  · rw [Bool.or_eq_false_iff] at hq
    obtain ⟨hn, hf, hk0⟩ := g hq.1
    obtain ⟨d8, r8⟩ := h8 hf
    have r8n := r8.n
    have r8l := r8.le
    have hkk : k ≤ (nth rs f).body.steps.length := by have := hq.2; simp at this; omega
    have haf : afterS ds rs f k = stsB ds (rs.map sgOf) (nth rs f).lent [] (startB (nth rs f).params (nth rs f).lent) ((nth rs f).body.steps.take k.toNat) := by
      unfold afterS
      rw [pB_t ⟨hn, hf, hk0, hkk⟩]
      rfl
    rw [haf]
    have f1 : f < rs.length := by omega
    obtain ⟨g1, g2⟩ := hn.2 f hf.1 f1
    obtain ⟨hnn, hpl⟩ := nrm_bound hn.1 hf.1 f1
    refine (c_newBalance hx hy hn hf.1 f1).mono' ?_
    rintro _ w1 ⟨a, u, s, xl, J, rfl, hu, hg, hl, hL, hS⟩
    refine ⟨a, rfl, ?_⟩
    have hvw := hu.trans hS.sub
    refine go_ix hy hf.1 f1 ?_
    refine ⟨x8, cell_sub hvw d8, ?_⟩
    have hcut := r8.cut (lo := 0) (hi := k) (by omega) hk0 hkk
    rw [show (0 : Int).toNat = 0 from rfl, List.drop_zero] at hcut
    refine ⟨⟨by omega, hk0, by obtain ⟨_, hr, _⟩ := r8; have h2 := hr.2.1; omega⟩, ?_⟩
    have hct := cntL_take (nth rs f).body.steps k.toNat
    rw [cntB_eq] at g1
    have hnt : stpsT ds (rs.map sgOf) (startB (nth rs f).params (nth rs f).lent).vars ((nth rs f).body.steps.take k.toNat) ≠ none := by
      rw [start_vars]
      refine stps_take _ _ _ fun hh => ?_
      rw [blkT_eq, hh] at g2
      cases g2
    have hw0 := start_wf (ds := ds) (lent := (nth rs f).lent) hnn
    refine (c_balSts (arms := []) (xs := x8.cut 0 k 5) (fun s _ k _ => c_balBlk k) hg hl ReadB.nil (hcut.mono hu) hL hw0 hS hnt (by rw [start_vars]; omega) (by omega) (by simp; omega)).mono' ?_
    intro r2 w2 hO
    cases hst : stsB ds (rs.map sgOf) (nth rs f).lent [] (startB (nth rs f).params (nth rs f).lent) ((nth rs f).body.steps.take k.toNat) with
    | none =>
      rw [hst] at hO
      obtain ⟨rfl, hs⟩ := hO
      exact ⟨false, rfl, fun _ => ⟨rfl, hu.trans hs⟩, fun hh => (by simp at hh)⟩
    | some σ2 =>
      rw [hst] at hO
      obtain ⟨rfl, I2, hL2, hS2⟩ := hO
      refine ⟨true, rfl, fun hh => (by simp at hh), fun _ => ?_⟩
      cases hin : stpsT ds (rs.map sgOf) (startB (nth rs f).params (nth rs f).lent).vars ((nth rs f).body.steps.take k.toNat) with
      | none => exact absurd hin hnt
      | some inner =>
        obtain ⟨hw2, ev2⟩ := wf_sts0 hg.sg _ (fun s _ k _ => wf_bk hg.sg k) _ _ _ _ hw0 hin hst
        have hup := stps_up hin
        rw [start_vars] at hup
        exact ⟨a, u, s, xl, I2, _, rfl, hu, hl, hL2, hw2, hS2, by rw [ev2]; omega⟩
theorem c_OwnedAfterI (hx : Read v xx ds) (hy : Read v yy rs) : Mk Tryz.prog 22 #[.agg #[xx.val, yy.val], .int .i64 f, .int .i64 k] v fun r J => ∃ z : Sl, r = z.val ∧ OwnI z (ownA ds rs f k) J := by
  refine of22n _ _ _ _ _ _ ?_
  unfold vc22n
  refine (c_balanceAfter hx hy).mono' ?_
  intro r w2 hM
  unfold ownA
  cases haf : afterS ds rs f k with
  | none =>
    rw [haf] at hM
    obtain ⟨rfl, hs⟩ := hM
    refine ⟨⟨.pointer none, rfl⟩, rfl, ?_⟩
    refine go_ptrE' balPtr ⟨fun _ => ⟨[], (St.refl v).sub_w hs, Sl.mk none 0 0, rfl, fun u => Own.nil u⟩, fun hh => (by simp at hh)⟩
  | some σ =>
    rw [haf] at hM
    obtain ⟨a, u, s, xl, I, B, rfl, hu, hl, hL, hw, hS, hvl⟩ := hM
    refine ⟨⟨.pointer (some a), rfl⟩, rfl, ?_⟩
    refine go_ptrE' balPtr ⟨fun hh => (by simp at hh), fun _ => ?_⟩
    obtain ⟨x4, x5, x6, I0, J4, J5, J6, hC, o4, o5, o6, rfl⟩ := hL
    replace hS : St u w2 (I0 ++ (J4 ++ (J5 ++ (J6 ++ [])))) := by simpa [List.append_assoc] using hS
    refine ⟨a, rfl, x5, hC.load hS rfl, J5, ?_, x5, rfl, o5⟩
    have h : St u w2 (J5 ++ []) := hS.to
    exact (by simpa using h : St u w2 J5).weakU hu
theorem c_KeptAfterI (hx : Read v xx ds) (hy : Read v yy rs) : Mk Tryz.prog 16 #[.agg #[xx.val, yy.val], .int .i64 f, .int .i64 k] v fun r J => ∃ z : Sl, r = z.val ∧ OwnI z (tokA ds rs f k) J := by
  refine of16n _ _ _ _ _ _ ?_
  unfold vc16n
  refine (c_balanceAfter hx hy).mono' ?_
  intro r w2 hM
  unfold tokA
  cases haf : afterS ds rs f k with
  | none =>
    rw [haf] at hM
    obtain ⟨rfl, hs⟩ := hM
    refine ⟨⟨.pointer none, rfl⟩, rfl, ?_⟩
    refine go_ptrE' balPtr ⟨fun _ => ⟨[], (St.refl v).sub_w hs, Sl.mk none 0 0, rfl, fun u => Own.nil u⟩, fun hh => (by simp at hh)⟩
  | some σ =>
    rw [haf] at hM
    obtain ⟨a, u, s, xl, I, B, rfl, hu, hl, hL, hw, hS, hvl⟩ := hM
    refine ⟨⟨.pointer (some a), rfl⟩, rfl, ?_⟩
    refine go_ptrE' balPtr ⟨fun hh => (by simp at hh), fun _ => ?_⟩
    obtain ⟨x4, x5, x6, I0, J4, J5, J6, hC, o4, o5, o6, rfl⟩ := hL
    replace hS : St u w2 (I0 ++ (J4 ++ (J5 ++ (J6 ++ [])))) := by simpa [List.append_assoc] using hS
    refine ⟨a, rfl, x6, hC.load hS rfl, J6, ?_, x6, rfl, o6⟩
    have h : St u w2 (J6 ++ []) := hS.to
    exact (by simpa using h : St u w2 J6).weakU hu
theorem c_AliveAfterI (hx : Read v xx ds) (hy : Read v yy rs) : Mk Tryz.prog 24 #[.agg #[xx.val, yy.val], .int .i64 f, .int .i64 k] v fun r J => ∃ z : Sl, r = z.val ∧ OwnI z (alvA ds rs f k) J := by
  refine of24n _ _ _ _ _ _ ?_
  unfold vc24n
  refine (c_balanceAfter hx hy).mono' ?_
  intro r w2 hM
  unfold alvA
  cases haf : afterS ds rs f k with
  | none =>
    rw [haf] at hM
    obtain ⟨rfl, hs⟩ := hM
    refine ⟨⟨.pointer none, rfl⟩, rfl, ?_⟩
    refine go_ptrE' balPtr ⟨fun _ => ⟨[], (St.refl v).sub_w hs, Sl.mk none 0 0, rfl, fun u => Own.nil u⟩, fun hh => (by simp at hh)⟩
  | some σ =>
    rw [haf] at hM
    obtain ⟨a, u, s, xl, I, B, rfl, hu, hl, hL, hw, hS, hvl⟩ := hM
    refine ⟨⟨.pointer (some a), rfl⟩, rfl, ?_⟩
    refine go_ptrE' balPtr ⟨fun hh => (by simp at hh), fun _ => ?_⟩
    obtain ⟨x4, x5, x6, I0, J4, J5, J6, hC, o4, o5, o6, hI⟩ := id hL
    have rd4 : ∀ {w : World} {K : Items}, St u w (K ++ (I ++ [])) → w.cell? (a.add 4) = some x4.val ∧ Read w x4 σ.vars := by
      intro w K hS
      rw [hI] at hS
      have h : St u w (I0 ++ (J4 ++ (J5 ++ (J6 ++ [])))) := by
        have h0 : St u w ((I0 ++ (J4 ++ (J5 ++ J6))) ++ []) := hS.to
        simpa [List.append_assoc] using h0
      exact ⟨hC.load h rfl, o4.read h⟩
    have r4n := (rd4 (K := []) hS).2.n
    refine ⟨a, rfl, x4, (rd4 (K := []) hS).1, ?_⟩
    refine ⟨fun z i w => ∃ J, OwnI z (alvL (nth rs f).lent σ i.toNat) J ∧ St u w (J ++ (I ++ [])) ∧ 0 ≤ i ∧ i ≤ σ.vars.length, fun _ i _ => (σ.vars.length - i).toNat, ⟨[], (fun u => by unfold alvL; simpa using Own.nil u), hS, by omega, by omega⟩, ?_⟩
    rintro z i w ⟨J, hO, hS, i0, i1⟩
    dsimp only
    have hR := hL.rd (hS.to : St u w (I ++ []))
    have r := (rd4 hS).2
    refine ⟨fun hc => ?_, fun hc => ?_⟩
    · simp only [bls] at hc
      have hil : i < σ.vars.length := by omega
      refine go_ix r i0 hil ?_
      refine ld_int r i0 hil ?_
      intro _ _
      have hle := alvL_len (lent := (nth rs f).lent) (σ := σ) i.toNat
      refine ⟨_, fun _ => c_balAlive hR (hl.mono hS.sub) ReadB.nil hw (by omega) _ _ (Nat.lt_succ_self _) i0 hil, fun hq => ?_, fun hq => ?_⟩
      · simp only [bls] at hq
        refine St.build (α := Int) (l := [i]) hS (.cons (.int ⟨by omega, by omega⟩) .nil) rfl (by decide) ?_
        intro z2 w4 K hO2 hS4 hs4
        refine ⟨_, rfl, ?_⟩
        have hk4 := hO2.src hS4
        refine (hO u).append hS4 hk4 (by simp; omega) (by decide) ?_
        intro z3 w5 K3 hO3 hS5
        refine ⟨_, rfl, ?_⟩
        refine go_wr (by omega) (by omega) ?_
        refine ⟨rfl, rfl, ⟨K3, ?_, hS5.to, by omega, by omega⟩, by omega⟩
        rw [alvL_succ i0, if_pos hq]
        exact hO3.toI
      · refine go_wr (by omega) (by omega) ?_
        refine ⟨rfl, rfl, ⟨J, ?_, hS, by omega, by omega⟩, by omega⟩
        rw [alvL_succ i0, if_neg, List.append_nil]
        · exact hO
        · rintro ⟨g1, g2⟩
          rw [g2] at hq
          simp at hq
          exact g1 hq
    · simp only [bls] at hc
      rw [show i.toNat = σ.vars.length from by omega] at hO
      exact ⟨J, hS.left.weakU hu, z, rfl, hO⟩
end
end Go.Vc
