/- Part of the proofs about the heaps and memories: a law is joined in the text whose name ends in W and the law. -/
import Derived.Test.YtojmcdmbkfigaaaGreatEB6
namespace Go.Vc
open Go Go.Proofs Go.RowKit
set_option linter.all false
open Classical in
/-- a step, but for the variable that it defines -/
noncomputable def coreB (ds : List DeclD) (ss : List SigD) (lent : List Int) (arms : List ArmK) (σ : BalS) (s : StepD) : Option BalS :=
  if s.op = 14 then (if AlB arms lent σ.own (nth s.args 0) then some (incB σ (nth s.args 0)) else none)
  else if s.op = 15 then takeB σ (nth s.args 0)
  else if s.op = 16 ∨ s.op = 17 then openB arms σ s.op (nth s.args 0)
  else if s.op = 7 ∨ s.op = 8 then
    (if s.op = 8 ∧ ¬ AlB arms lent σ.own (nth s.args 0) then none
     else (joinB (kdsB ds ss lent arms σ s.op (nth s.args 0) (consL ds s.num) s.kids)).map fun p => ⟨σ.vars, p.1, p.2⟩)
  else handB ss lent arms s.op s.num s.into s.args σ
theorem stB_core {ds : List DeclD} {ss : List SigD} {lent : List Int} {arms : List ArmK} {σ : BalS} {s : StepD} : stB ds ss lent arms σ s = match coreB ds ss lent arms σ s with
    | none => none
    | some σ1 => some (if isCnt s.op then σ1 else growB σ1 (gD (stpT ds ss σ.vars s)) (oneOf (gD (stpT ds ss σ.vars s)))) := by
  classical
  rw [stB_eq]
  unfold coreB
  by_cases h14 : s.op = 14
  · rw [if_pos h14, if_pos h14]
    split
    · dsimp only; rw [if_pos (by unfold isCnt; omega)]
    · rfl
  rw [if_neg h14, if_neg h14]
  by_cases h15 : s.op = 15
  · rw [if_pos h15, if_pos h15]
    cases takeB σ (nth s.args 0) with
    | none => rfl
    | some σ1 => dsimp only; rw [if_pos (by unfold isCnt; omega)]
  rw [if_neg h15, if_neg h15]
  by_cases h16 : s.op = 16 ∨ s.op = 17
  · rw [if_pos h16, if_pos h16]
    cases openB arms σ s.op (nth s.args 0) with
    | none => rfl
    | some σ1 => dsimp only; rw [if_pos (by unfold isCnt; omega)]
  rw [if_neg h16, if_neg h16]
  by_cases h7 : s.op = 7 ∨ s.op = 8
  · rw [if_pos h7, if_pos h7]
    by_cases hc : s.op = 8 ∧ ¬ AlB arms lent σ.own (nth s.args 0)
    · rw [if_pos hc, if_pos hc]
    · rw [if_neg hc, if_neg hc]
      cases joinB (kdsB ds ss lent arms σ s.op (nth s.args 0) (consL ds s.num) s.kids) with
      | none => rfl
      | some p => dsimp only [Option.map_some]; rw [if_neg (by unfold isCnt; omega)]
  rw [if_neg h7, if_neg h7]
  cases handB ss lent arms s.op s.num s.into s.args σ with
  | none => rfl
  | some σ1 => dsimp only; rw [if_neg (by unfold isCnt; omega)]
/-- what a block leaves of the ledger -/
def OpE (u : World) (R : Items) (a : Addr) (lent : List Int) (m : Nat) : Option (List Int × List Int) → Value → World → Prop
  | none, r, w => r = .bool false ∧ Sub u w
  | some p, r, w => r = .bool true ∧ ∃ I vs P C F, LstP a lent ⟨vs, p.1, p.2⟩ P C F I ∧ vs.length = m ∧ P.length = m ∧ C.length = m ∧ F.length = m ∧ St u w (I ++ R)
def BlkS (ds : List DeclD) (rs : List RoutD) (lent : List Int) (b : BlockD) : Prop := ∀ (u w : World) (a : Addr) (x y xs : Sl) (arms : List ArmK) (σ : BalS) (P C F : List Int) (I R : Items) (m B : Nat) (t : Int), Nrm u x y ds rs → Read u xs b.steps → InI b.result → LstP a lent σ P C F I → Lk arms σ.vars.length P C F → WfB ds arms B σ → St u w (I ++ R) →
  blkT ds (rs.map sgOf) σ.vars b = some t → m ≤ σ.vars.length → σ.vars.length + 4 * cntB b ≤ 10000 → B + cntB b ≤ 10000 →
  Trip Tryz.prog 50 #[.pointer (some (a.add 0)), .agg #[x.val, y.val], .agg #[xs.val, .int .i64 b.result], .int .i64 m] w (OpE u R a lent m (bkB ds (rs.map sgOf) lent arms σ m b))
section
variable {u w v v0 : World} {a : Addr} {arms : List ArmK} {lent P C F P' C' F' fs vars params : List Int} {σ σ' : BalS} {I R L : Items} {r t o m i op num into v1 : Int} {xx yy x y ax kx s zz z px lx sx xs : Sl} {B n : Nat} {ds : List DeclD} {rs : List RoutD} {ss : List SigD} {args : List Int} {k : StepD} {c : StepD} {b : BlockD} {p : List Int × List Int}
theorem kidS_nil : kidS σ [] = σ := by unfold kidS; simp
theorem kidS_succ (h0 : 0 ≤ i) (h1 : i < fs.length) : kidS σ (fs.take (i + 1).toNat) = growB (kidS σ (fs.take i.toNat)) (nth fs i) 0 := by
  unfold kidS growB
  have e : (fs.take (i + 1).toNat).length = (fs.take i.toNat).length + 1 := by rw [take_nth h0 h1]; simp
  rw [e, List.replicate_succ', List.replicate_succ', take_nth h0 h1]
  simp only [List.append_assoc]
theorem c_ledKid (h : Nrm u xx yy ds rs) (hL : LstP a lent σ P C F I) (hS : St u w (I ++ R)) (hw : WfB ds arms B σ) (hk : Lk arms σ.vars.length P C F) (ha : Read u ax c.args) (hkx : Read u kx c.kids) (hnum : InI c.num)
    (hv : stpT ds (rs.map sgOf) σ.vars c = some t) (ho : c.op = 7 ∨ c.op = 8) (i0 : 0 ≤ i) (i1 : i < c.kids.length) (H : ∀ k ∈ c.kids, BlkS ds rs lent k) (hb : σ.vars.length + 3 + 4 * cntS c ≤ 10000) (hB : B + cntS c ≤ 10000) :
    Trip Tryz.prog 124 #[.pointer (some (a.add 0)), .agg #[xx.val, yy.val], .agg #[.int .i64 c.op, .int .i64 c.num, .int .i64 into, ax.val, kx.val], .int .i64 i] w fun r w' =>
      ∃ (a' : Addr) (q : Bool), r = .tuple #[.pointer (some (a'.add 0)), .bool q] ∧ OpE u (I ++ R) a' lent σ.vars.length (bkB ds (rs.map sgOf) lent (kidA ds arms c.op (nth c.args 0) σ.vars.length (nth (consL ds c.num) i)) (kidS σ (kidF ds c.op (nth (consL ds c.num) i))) σ.vars.length (nth c.kids i)) (.bool q) w' := by
  refine of124 _ _ _ _ _ _ _ _ _ _ _ ?_
  unfold vc124
  obtain ⟨hl, hk1, h7, h8, hkv⟩ := stp_choice hv ho
  obtain ⟨hin, _⟩ := stp_args hv
  have ha0 := argsIn_nth hin (i := 0) (by omega) (by omega)
  have hmem := nth_mem (l := c.kids) i0 i1
  have hcm := cntK_mem c.kids hmem
  rw [cntS_eq] at hb hB
  have hR := hL.rd hS
  obtain ⟨x1, e1, r1⟩ := hR.k1
  have x1n := r1.n
  obtain ⟨g1, d1, d2, q1, t1⟩ := (hkx.src (.refl u)).ofBlockD i0 i1
  have fin : ∀ (w2 : World) (a' : Addr) (I2 : Items) (P2 C2 F2 : List Int) (arms2 : List ArmK) (σ2 : BalS), arms2 = kidA ds arms c.op (nth c.args 0) σ.vars.length (nth (consL ds c.num) i) → σ2 = kidS σ (kidF ds c.op (nth (consL ds c.num) i)) →
      LstP a' lent σ2 P2 C2 F2 I2 → Lk arms2 σ2.vars.length P2 C2 F2 → St u w2 (I2 ++ (I ++ R)) →
      Trip Tryz.prog 50 #[.pointer (some (a'.add 0)), .agg #[xx.val, yy.val], .agg #[g1.val, .int .i64 (nth c.kids i).result], .int .i64 (x1.n : Int)] w2 fun r w' => ∃ q : Bool, r = .bool q ∧ ∃ (a'' : Addr) (q' : Bool), Value.tuple #[.pointer (some (a'.add 0)), .bool q] = .tuple #[.pointer (some (a''.add 0)), .bool q'] ∧
        OpE u (I ++ R) a'' lent σ.vars.length (bkB ds (rs.map sgOf) lent arms2 σ2 σ.vars.length (nth c.kids i)) (.bool q') w' := by
    rintro w2 a' I2 P2 C2 F2 arms2 σ2 hA hσ hL2 hk2 hS2
    rw [x1n]
    have hwk := hw.kid (op := c.op) (v := nth c.args 0) (k := nth (consL ds c.num) i) h.sg.1 (fun _ => ⟨ha0.1, ha0.2, consL_nn ds c.num i⟩)
    rw [← hA, ← hσ] at hwk
    have hkf : σ2.vars.length = σ.vars.length + (kidF ds c.op (nth (consL ds c.num) i)).length := by rw [hσ]; unfold kidS; simp
    have hk3 : (kidF ds c.op (nth (consL ds c.num) i)).length ≤ 3 := by
      unfold kidF; split
      · exact conF_len3 h.sg.1 _
      · simp
    have hvk := hkv i i0 i1
    rw [show σ.vars ++ kidF ds c.op (nth (consL ds c.num) i) = σ2.vars from by rw [hσ]; rfl] at hvk
    refine (H _ hmem u w2 a' xx yy g1 arms2 σ2 P2 C2 F2 I2 (I ++ R) σ.vars.length B t h t1 q1 hL2 hk2 hwk hS2 hvk (by omega) (by omega) (by omega)).mono' ?_
    intro r w3 hE
    cases hbk : bkB ds (rs.map sgOf) lent arms2 σ2 σ.vars.length (nth c.kids i) with
    | none =>
      rw [hbk] at hE
      obtain ⟨rfl, hs⟩ := hE
      exact ⟨false, rfl, a', false, rfl, rfl, hs⟩
    | some p =>
      rw [hbk] at hE
      obtain ⟨rfl, hE⟩ := hE
      exact ⟨true, rfl, a', true, rfl, rfl, hE⟩
  refine ⟨x1, e1, ?_⟩
  refine Mk.usew (c_ledCopied hR) hS ?_
  rintro _ w2 J2 ⟨a2, rfl, hL2⟩ hS2 hs2
  refine ⟨a2, rfl, ?_⟩
  rcases ho with ho | ho
  · refine ⟨fun hh => absurd (of_decide_eq_true hh) (by omega), fun _ => ?_⟩
    refine go_ix hkx i0 i1 ?_
    refine ⟨g1, _, ⟨cell_sub hS2.sub d1, cell_sub hS2.sub d2⟩, ?_⟩
    have eF : kidF ds c.op (nth (consL ds c.num) i) = [] := by unfold kidF; rw [if_neg (by omega)]
    have eA : kidA ds arms c.op (nth c.args 0) σ.vars.length (nth (consL ds c.num) i) = arms := by unfold kidA; rw [if_neg (by omega)]
    have := fin w2 a2 J2 P C F arms σ eA.symm (by rw [eF, kidS_nil]) hL2 hk hS2
    rw [eA, eF, kidS_nil]
    exact this
  · refine ⟨fun _ => ?_, fun hh => absurd (of_decide_eq_false hh) (by omega)⟩
    have hcl := h8 ho
    refine Mk.use (c_consOfB h.hx h.sm hnum) hS2 ?_
    rintro _ w3 J3 ⟨z3, rfl, hO3⟩ hS3 hs3
    refine ⟨_, rfl, ?_⟩
    have hz3 := hO3.read hS3
    refine go_ix hz3 i0 (by omega) ?_
    refine ld_int hz3 i0 (by omega) ?_
    intro c0 c1
    refine Mk.use (c_conFieldsR h.hx h.sm ⟨c0, c1⟩) hS3 ?_
    rintro _ w4 J4 ⟨z4, rfl, hr4⟩ hS4 hs4
    refine ⟨_, rfl, ?_⟩
    replace hS4 : St u w4 (J2 ++ (J4 ++ (I ++ R))) := hS4.to
    obtain ⟨x4, e4, r4, st4⟩ := hL2.so4 hS4
    have hcn := hk.l2
    have hfn := hk.l3
    refine ⟨x4, e4, ?_⟩
    refine go_ix ha (by omega) (by omega) ?_
    refine ld_int (ha.mono hS4.sub) (by omega) (by omega) ?_
    intro _ _
    refine go_ix r4 ha0.1 (by omega) ?_
    refine st4 ha0.1 (by omega) ⟨c0, c1⟩ ?_
    intro w5 J5 hL5 hS5
    obtain ⟨x5, e5, r5, st5⟩ := hL5.so5 hS5
    refine ⟨x5, e5, ?_⟩
    refine go_ix ha (by omega) (by omega) ?_
    refine ld_int (ha.mono hS5.sub) (by omega) (by omega) ?_
    intro _ _
    refine go_ix r5 ha0.1 (by omega) ?_
    rw [x1n]
    refine st5 ha0.1 (by omega) ⟨by omega, by omega⟩ ?_
    intro w6 J6 hL6 hS6
    have hk6 := hk.enter (c := nth (consL ds c.num) i) hw.arOk ha0.1 ha0.2
    have hf3 := conF_len3 h.sg.1 (nth (consL ds c.num) i)
    have hz4n := (hr4 _ (hS6.to : St u w6 (J4 ++ [])).left).n
    refine ⟨fun j w => ∃ P C F I2, LstP a2 lent (kidS σ ((conF ds (nth (consL ds c.num) i)).take j.toNat)) P C F I2 ∧ Lk (arms ++ [⟨nth c.args 0, σ.vars.length, nth (consL ds c.num) i, (conF ds (nth (consL ds c.num) i)).take j.toNat⟩]) (σ.vars.length + j.toNat) P C F ∧ St u w (I2 ++ (J4 ++ (I ++ R))) ∧ 0 ≤ j ∧ j ≤ (conF ds (nth (consL ds c.num) i)).length, fun j _ => ((conF ds (nth (consL ds c.num) i)).length - j).toNat,
      ⟨_, _, _, J6, by rw [show ((0 : Int)).toNat = 0 from rfl, List.take_zero, kidS_nil]; exact hL6, by rw [show ((0 : Int)).toNat = 0 from rfl, List.take_zero, Nat.add_zero]; exact hk6, hS6, by omega, by omega⟩, ?_⟩
    rintro j w7 ⟨P7, C7, F7, J7, hL7, hk7, hS7, j0, j1⟩
    dsimp only
    have hz4 := hr4 _ (hS7.to : St u w7 (J4 ++ [])).left
    refine ⟨fun hc => ?_, fun hc => ?_⟩
    · simp only [bls] at hc
      have hjl : j < (conF ds (nth (consL ds c.num) i)).length := by omega
      refine go_ix hz4 j0 hjl ?_
      refine ld_int hz4 j0 hjl ?_
      intro f0 f1
      refine go_ix ha (by omega) (by omega) ?_
      refine ld_int (ha.mono hS7.sub) (by omega) (by omega) ?_
      intro m0 m1
      have hkl := hk7.l1
      have hkl2 := hk7.l2
      have hkl3 := hk7.l3
      have hw1 := hw.l1
      have hw2 := hw.l2
      refine (c_ledGrowP hL7 hS7 ?_ ⟨f0, f1⟩ ⟨by omega, by omega⟩ ⟨m0, m1⟩).mono' ?_
      · unfold kidS
        simp only [List.length_append, List.length_take, List.length_replicate]
        omega
      rintro r w8 ⟨rfl, I8, hL8, hS8⟩
      refine ⟨rfl, ?_⟩
      refine go_wr (by omega) (by omega) ?_
      refine ⟨rfl, rfl, rfl, rfl, rfl, rfl, rfl, ⟨P7 ++ [nth c.args 0], C7 ++ [-1], F7 ++ [-1], I8, ?_, ?_, hS8, by omega, by omega⟩, by omega⟩
      · rw [kidS_succ j0 hjl]; exact hL8
      · rw [take_nth j0 hjl, show σ.vars.length + (j + 1).toNat = σ.vars.length + j.toNat + 1 from by omega]
        exact hk7.field hw.arOk (by simp; omega) ha0.1 ha0.2
    · simp only [bls] at hc
      have hje : j.toNat = (conF ds (nth (consL ds c.num) i)).length := by omega
      rw [hje, List.take_length] at hL7 hk7
      refine go_ix hkx i0 i1 ?_
      refine ⟨g1, _, ⟨cell_sub hS7.sub d1, cell_sub hS7.sub d2⟩, ?_⟩
      have eF : kidF ds c.op (nth (consL ds c.num) i) = conF ds (nth (consL ds c.num) i) := by unfold kidF; rw [if_pos ho]
      have eA : kidA ds arms c.op (nth c.args 0) σ.vars.length (nth (consL ds c.num) i) = arms ++ [⟨nth c.args 0, σ.vars.length, nth (consL ds c.num) i, conF ds (nth (consL ds c.num) i)⟩] := by unfold kidA; rw [if_pos ho]
      have hvl : (kidS σ (conF ds (nth (consL ds c.num) i))).vars.length = σ.vars.length + (conF ds (nth (consL ds c.num) i)).length := by unfold kidS; simp
      have := fin w7 a2 J7 P7 C7 F7 _ _ eA.symm (by rw [eF]) hL7 (by rw [hvl]; exact hk7) hS7.to
      rw [eA, eF]
      rw [x1n] at this
      exact this
end
end Go.Vc

namespace Go.Vc
open Go Go.Proofs Go.RowKit
set_option linter.all false
section
variable {u w v v0 : World} {a : Addr} {arms : List ArmK} {lent P C F P' C' F' fs vars params inner : List Int} {σ σ' σ1 : BalS} {I R L : Items} {r t o m i op num into v1 : Int} {xx yy x y ax kx s zz z px lx sx xs : Sl} {B n : Nat} {ds : List DeclD} {rs : List RoutD} {ss : List SigD} {args : List Int} {k : StepD} {c : StepD} {b : BlockD} {p : List Int × List Int}
/-- the state of two columns goes from one ledger to another -/
theorem LstP.move {a7 : Addr} {I7 : Items} {vs P7 C7 F7 : List Int} (hL : LstP a lent σ P C F I) (hL7 : LstP a7 lent ⟨vs, p.1, p.2⟩ P7 C7 F7 I7) (hS : St u w (I ++ (I7 ++ R))) :
    ∃ y2 : Sl, w.cell? (a7.add 1) = some y2.val ∧ ∀ {K : World → Prop}, (∀ w2 : World, (∃ y6 : Sl, w2.cell? (a7.add 5) = some y6.val ∧ ∀ {Q2 : World → Prop}, (∀ w3 I', LstP a lent ⟨σ.vars, p.1, p.2⟩ P C F I' → St u w3 (I' ++ R) → Q2 w3) → StoreAt w2 a 5 [y6.val] Q2) → K w2) → StoreAt w a 1 [y2.val] K := by
  obtain ⟨x1, x2, x3, x4, x5, x6, x7, I0, J1, J2, J3, J4, J5, J6, J7, hC, o1, o2, o3, o4, o5, o6, o7, rfl⟩ := hL
  obtain ⟨y1, y2, y3, y4, y5, y6, y7, I10, K1, K2, K3, K4, K5, K6, K7, hC7, q1, q2, q3, q4, q5, q6, q7, rfl⟩ := hL7
  replace hS : St u w (I0 ++ (J1 ++ (J2 ++ (J3 ++ (J4 ++ (J5 ++ (J6 ++ (J7 ++ (I10 ++ (K1 ++ (K2 ++ (K3 ++ (K4 ++ (K5 ++ (K6 ++ (K7 ++ R)))))))))))))))) := by simpa [List.append_assoc] using hS
  refine ⟨y2, hC7.load hS rfl, fun {K} kk => ?_⟩
  refine hC.store hS (by simp) ?_
  intro w2 I1 hC hS
  simp [putR] at hC
  refine kk w2 ⟨y6, hC7.load hS rfl, fun {Q2} k2 => ?_⟩
  refine hC.store hS (by simp) ?_
  intro w3 I2 hC hS
  simp [putR] at hC
  refine k2 w3 (I2 ++ (J1 ++ (K2 ++ (J3 ++ (J4 ++ (J5 ++ (K6 ++ J7))))))) ⟨x1, y2, x3, x4, x5, y6, x7, I2, J1, K2, J3, J4, J5, K6, J7, hC, o1, q2, o3, o4, o5, q6, o7, rfl⟩ ?_
  have h : St u w3 (I2 ++ (J1 ++ (K2 ++ (J3 ++ (J4 ++ (J5 ++ (K6 ++ (J7 ++ R)))))))) := hS.to
  simpa [List.append_assoc] using h
theorem c_ledChoose (h : Nrm u xx yy ds rs) (hL : LstP a lent σ P C F I) (hS : St u w (I ++ R)) (hw : WfB ds arms B σ) (hk : Lk arms σ.vars.length P C F) (ha : Read u ax c.args) (hkx : Read u kx c.kids) (hnum : InI c.num)
    (hv : stpT ds (rs.map sgOf) σ.vars c = some t) (ho : c.op = 7 ∨ c.op = 8) (H : ∀ k ∈ c.kids, BlkS ds rs lent k) (hb : σ.vars.length + 3 + 4 * cntS c ≤ 10000) (hB : B + cntS c ≤ 10000) :
    Trip Tryz.prog 92 #[.pointer (some (a.add 0)), .agg #[xx.val, yy.val], .agg #[.int .i64 c.op, .int .i64 c.num, .int .i64 into, ax.val, kx.val]] w (OpL u R a lent P C F (coreB ds (rs.map sgOf) lent arms σ c)) := by
  classical
  refine of92 _ _ _ _ _ _ _ _ _ _ ?_
  unfold vc92
  obtain ⟨hl, hk1, h7, h8, hkv⟩ := stp_choice hv ho
  obtain ⟨hin, _⟩ := stp_args hv
  have ha0 := argsIn_nth hin (i := 0) (by omega) (by omega)
  have hkn := hkx.n
  have hkl := hkx.le
  have hcore : coreB ds (rs.map sgOf) lent arms σ c = if c.op = 8 ∧ ¬ AlB arms lent σ.own (nth c.args 0) then none else (joinB (kdsB ds (rs.map sgOf) lent arms σ c.op (nth c.args 0) (consL ds c.num) c.kids)).map fun p => ⟨σ.vars, p.1, p.2⟩ := by
    unfold coreB
    rw [if_neg (by omega), if_neg (by omega), if_neg (by omega), if_pos ho]
  have hR := hL.rd hS
  refine ⟨fun _ => ha.ix (by omega) (by omega), nth c.args 0, fun _ => ((ha.mono hS.sub).int (by omega) (by omega)).1, _, fun _ => c_ledAlive hR hw hk ha0.1 ha0.2, fun hq => ?_, fun hq => ?_⟩
  · simp only [bls] at hq
    have hn : ¬ AlB arms lent σ.own (nth c.args 0) := fun hh => by rw [pB_t hh] at hq; exact absurd hq.2 (by simp)
    rw [hcore, if_pos ⟨hq.1, hn⟩]
    exact ⟨rfl, hS.sub⟩
  simp only [bls] at hq
  have hna : ¬ (c.op = 8 ∧ ¬ AlB arms lent σ.own (nth c.args 0)) := by
    rintro ⟨h1, h2⟩
    rcases hq with hq | hq
    · exact hq h1
    · exact h2 (pB_iff.1 hq)
  rw [hcore, if_neg hna]
  refine (c_ledKid h hL hS hw hk ha hkx hnum hv ho (i := 0) (by omega) (by omega) H hb hB).mono' ?_
  rintro _ w2 ⟨a7, q, rfl, hE⟩
  have bad : ∀ (j : Int) (w : World), 0 ≤ j → j < c.kids.length → Sub u w → (∀ p, bkB ds (rs.map sgOf) lent (kidA ds arms c.op (nth c.args 0) σ.vars.length (nth (consL ds c.num) 0)) (kidS σ (kidF ds c.op (nth (consL ds c.num) 0))) σ.vars.length (nth c.kids 0) = some p → bkB ds (rs.map sgOf) lent (kidA ds arms c.op (nth c.args 0) σ.vars.length (nth (consL ds c.num) j)) (kidS σ (kidF ds c.op (nth (consL ds c.num) j))) σ.vars.length (nth c.kids j) ≠ some p) →
      OpL u R a lent P C F ((joinB (kdsB ds (rs.map sgOf) lent arms σ c.op (nth c.args 0) (consL ds c.num) c.kids)).map fun p => ⟨σ.vars, p.1, p.2⟩) (.bool false) w := by
    intro j w j0 j1 hs hne
    rw [joinB_none fun p hp => hne p (kidsB_some hp (by omega) (by omega)) (kidsB_some hp j0 j1)]
    exact ⟨rfl, hs⟩
  cases hbk : bkB ds (rs.map sgOf) lent (kidA ds arms c.op (nth c.args 0) σ.vars.length (nth (consL ds c.num) 0)) (kidS σ (kidF ds c.op (nth (consL ds c.num) 0))) σ.vars.length (nth c.kids 0) with
  | none =>
    rw [hbk] at hE
    obtain ⟨hq, hs⟩ := hE
    cases hq
    refine ⟨a7, false, rfl, fun _ => bad 0 w2 (by omega) (by omega) hs (fun p hp => by rw [hbk] at hp; cases hp), fun hh => (by cases hh)⟩
  | some p =>
    rw [hbk] at hE
    obtain ⟨hq, I7, vs, P7, C7, F7, hL7, v7, p7, c7, f7, hS2⟩ := hE
    cases hq
    refine ⟨a7, true, rfl, fun hh => (by cases hh), fun _ => ?_⟩
    refine ⟨fun i w => St u w (I ++ (I7 ++ R)) ∧ 1 ≤ i ∧ i ≤ c.kids.length ∧ ∀ j : Int, 0 ≤ j → j < i → bkB ds (rs.map sgOf) lent (kidA ds arms c.op (nth c.args 0) σ.vars.length (nth (consL ds c.num) j)) (kidS σ (kidF ds c.op (nth (consL ds c.num) j))) σ.vars.length (nth c.kids j) = some p, fun i _ => (c.kids.length - i).toNat,
      ⟨hS2.perm (by
        classical
        exact List.perm_iff_count.2 fun a => by simp only [List.count_append]; omega), by omega, by omega, fun j j0 j1 => by rw [show j = 0 from by omega]; exact hbk⟩, ?_⟩
    clear hS hS2 hR
    rintro i w3 ⟨hS, i0, i1, hj⟩
    dsimp only
    refine ⟨fun hc => ?_, fun hc => ?_⟩
    · simp only [bls] at hc
      have hil : i < c.kids.length := by omega
      refine (c_ledKid h hL hS hw hk ha hkx hnum hv ho (i := i) (by omega) hil H hb hB).mono' ?_
      rintro _ w4 ⟨a8, q, rfl, hE⟩
      cases hbi : bkB ds (rs.map sgOf) lent (kidA ds arms c.op (nth c.args 0) σ.vars.length (nth (consL ds c.num) i)) (kidS σ (kidF ds c.op (nth (consL ds c.num) i))) σ.vars.length (nth c.kids i) with
      | none =>
        rw [hbi] at hE
        obtain ⟨hq, hs⟩ := hE
        cases hq
        have hz : ∀ C : Prop, ((!false) = false → C) := fun C hh => by cases hh
        refine ⟨a8, false, rfl, Sl.mk none 0 0, hz _, Sl.mk none 0 0, hz _, false, hz _, Sl.mk none 0 0, fun hh => (by simp at hh), Sl.mk none 0 0, fun hh => (by simp at hh), false, fun hh => (by simp at hh), fun _ => ?_, fun hh => (by simp at hh)⟩
        exact bad i w4 (by omega) hil hs fun p' hp' => by rw [hbi]; exact fun hh => by cases hh
      | some p8 =>
        rw [hbi] at hE
        obtain ⟨hq, I8, vs8, P8, C8, F8, hL8, _, _, _, _, hS4⟩ := hE
        cases hq
        have hR7 := hL7.rd (hS4.to : St u w4 (I7 ++ []))
        have hR8 := hL8.rd (hS4.to : St u w4 (I8 ++ []))
        obtain ⟨x2, e2, r2⟩ := hR7.k2
        obtain ⟨x6, e6, r6⟩ := hR7.k6
        obtain ⟨y2, f2, q2⟩ := hR8.k2
        obtain ⟨y6, f6, q6⟩ := hR8.k6
        refine ⟨a8, true, rfl, x2, fun _ => e2, y2, fun _ => f2, _, fun _ => c_sameInts r2 q2, x6, fun _ => e6, y6, fun _ => f6, _, fun _ => c_sameInts r6 q6, fun hq => ?_, fun hq => ?_⟩
        · refine bad i w4 (by omega) hil hS4.sub fun p' hp' hp2 => ?_
          rw [hbk] at hp'
          cases hp'
          rw [hbi] at hp2
          cases hp2
          simp at hq
        · simp at hq
          have hpe : p8 = p := by
            cases p8; cases p
            simp only [Prod.mk.injEq]
            exact ⟨hq.1.symm, hq.2.symm⟩
          subst hpe
          refine go_wr (by omega) (by omega) ?_
          refine ⟨rfl, rfl, rfl, rfl, rfl, rfl, rfl, ⟨hS4.to, by omega, by omega, fun j j0 j1 => ?_⟩, by omega⟩
          by_cases e : j = i
          · subst e; exact hbi
          · exact hj j j0 (by omega)
    · simp only [bls] at hc
      rw [kidsB_all (p := p) (by intro hn; rw [hn] at hk1; simp at hk1) fun j j0 j1 => hj j j0 (by omega)]
      obtain ⟨y2, f2, st⟩ := LstP.move hL hL7 hS
      refine ⟨y2, f2, st fun w4 ⟨y6, f6, st6⟩ => ⟨y6, f6, st6 fun w5 I5 hL5 hS5 => ⟨rfl, I5, hL5, hS5⟩⟩⟩
theorem app_left {l m : List Int} {t : Int} (h : l ++ [t] = m ++ [t]) : l = m := List.append_cancel_right h
theorem core_wf (hsg : sigSigs ds ss) (hw : WfB ds arms B σ) (hv : stpT ds ss σ.vars c = some t) (hc : coreB ds ss lent arms σ c = some σ1) : σ1.vars = σ.vars ∧ σ1.own.length = σ.vars.length ∧ σ1.tok.length = σ.vars.length := by
  have hst : stB ds ss lent arms σ c = some (if isCnt c.op then σ1 else growB σ1 (gD (stpT ds ss σ.vars c)) (oneOf (gD (stpT ds ss σ.vars c)))) := by rw [stB_core, hc]
  obtain ⟨w1, e1⟩ := wf_st hsg hw hv hst
  by_cases hcn : isCnt c.op
  · rw [if_pos hcn] at w1 e1
    rw [if_pos hcn] at e1
    exact ⟨e1, by rw [w1.l1, e1], by rw [w1.l2, e1]⟩
  · rw [if_neg hcn] at w1 e1
    rw [if_neg hcn] at e1
    have hg : gD (stpT ds ss σ.vars c) = t := by rw [hv]; rfl
    rw [hg] at w1 e1
    have e2 : σ1.vars = σ.vars := app_left e1
    have g1 := w1.l1
    have g2 := w1.l2
    unfold growB at g1 g2
    simp only [List.length_append, List.length_singleton] at g1 g2
    exact ⟨e2, by rw [← e2]; omega, by rw [← e2]; omega⟩
/-- .. a step -/
def OpS (u : World) (R : Items) (a : Addr) (arms : List ArmK) (lent : List Int) : Option BalS → Value → World → Prop
  | none, r, w => r = .bool false ∧ Sub u w
  | some σ, r, w => r = .bool true ∧ ∃ I P C F, LstP a lent σ P C F I ∧ Lk arms σ.vars.length P C F ∧ St u w (I ++ R)
theorem c_ledStep (h : Nrm u xx yy ds rs) (hL : LstP a lent σ P C F I) (hS : St u w (I ++ R)) (hw : WfB ds arms B σ) (hk : Lk arms σ.vars.length P C F) (ha : Read u ax c.args) (hkx : Read u kx c.kids) (hnum : InI c.num) (hinto : InI c.into)
    (hv : stpT ds (rs.map sgOf) σ.vars c = some t) (H : ∀ k ∈ c.kids, BlkS ds rs lent k) (hb : σ.vars.length + 3 + 4 * cntS c ≤ 10000) (hB : B + cntS c ≤ 10000) :
    Trip Tryz.prog 62 #[.pointer (some (a.add 0)), .agg #[xx.val, yy.val], .agg #[.int .i64 c.op, .int .i64 c.num, .int .i64 c.into, ax.val, kx.val]] w (OpS u R a arms lent (stB ds (rs.map sgOf) lent arms σ c)) := by
  classical
  refine of62j _ _ _ _ _ _ _ _ _ _ ?_
  unfold vc62j
  obtain ⟨hin, hto⟩ := stp_args hv
  have htn := stpT_nn h.sg hw.vn hv
  have hon := oneOf_le t
  have hR := hL.rd hS
  have hl1 := hw.l1
  obtain ⟨x1, e1, r1⟩ := hR.k1
  refine ⟨x1, e1, _, c_stepTypeS (h.mono hS.sub) r1 hw.vn (ha.mono hS.sub) (hkx.mono hS.sub) hnum hinto (fun k _ => c_blockTypeS k) hb, ?_⟩
  have hgd : gD (stpT ds (rs.map sgOf) σ.vars c) = t := by rw [hv]; rfl
  rw [hgd]
  refine ⟨fun q w' => OpL u R a lent P C F (coreB ds (rs.map sgOf) lent arms σ c) (.bool q) w', ?_, ?_⟩
  · have toJ : ∀ {f : FuncId} {av : Array Value}, Trip Tryz.prog f av w (OpL u R a lent P C F (coreB ds (rs.map sgOf) lent arms σ c)) → Trip Tryz.prog f av w fun r w' => ∃ q : Bool, r = .bool q ∧ OpL u R a lent P C F (coreB ds (rs.map sgOf) lent arms σ c) (.bool q) w' := by
      intro f av hT
      refine hT.mono' fun r w' hr => ?_
      cases hcb : coreB ds (rs.map sgOf) lent arms σ c with
      | none => rw [hcb] at hr; obtain ⟨rfl, hs⟩ := hr; exact ⟨false, rfl, rfl, hs⟩
      | some σ1 => rw [hcb] at hr; obtain ⟨rfl, hs⟩ := hr; exact ⟨true, rfl, rfl, hs⟩
    by_cases o14 : c.op = 14
    · obtain ⟨hl, hne⟩ := stp_count hv (by unfold isCnt; omega)
      have ha0 := argsIn_nth hin (i := 0) (by omega) (by omega)
      have hcore : coreB ds (rs.map sgOf) lent arms σ c = if AlB arms lent σ.own (nth c.args 0) then some (incB σ (nth c.args 0)) else none := by unfold coreB; rw [if_pos o14]
      repeat (first | refine ⟨fun h => absurd (of_decide_eq_true h) (by omega), fun _ => ?_⟩ | refine ⟨fun _ => ?_, fun h => absurd (of_decide_eq_false h) (by omega)⟩)
      obtain ⟨x2, e2, r2, st⟩ := hL.so2 hS
      have hbd := nth_memD (B := (B : Int)) hw.ow (by omega) (nth c.args 0)
      refine go_ix ha (by omega) (by omega) ?_
      refine ld_int (ha.mono hS.sub) (by omega) (by omega) ?_
      intro _ _
      refine ⟨_, c_ledAlive hR hw hk ha0.1 ha0.2, x2, e2, ?_⟩
      refine go_ix ha (by omega) (by omega) ?_
      refine ld_int (ha.mono hS.sub) (by omega) (by omega) ?_
      intro _ _
      refine ⟨x2, e2, ?_⟩
      refine go_ix ha (by omega) (by omega) ?_
      refine ld_int (ha.mono hS.sub) (by omega) (by omega) ?_
      intro _ _
      refine go_ix r2 ha0.1 (by omega) ?_
      refine ld_int r2 ha0.1 (by omega) ?_
      intro _ _
      refine go_wr (by omega) (by omega) ?_
      refine go_ix r2 ha0.1 (by omega) ?_
      refine st ha0.1 (by omega) ⟨by omega, by omega⟩ ?_
      intro w2 I2 hL2 hS2
      refine ⟨rfl, rfl, rfl, rfl, rfl, rfl, rfl, ?_⟩
      rw [hcore]
      split
      · rename_i hal
        rw [pB_t hal]
        exact ⟨rfl, I2, hL2, hS2⟩
      · rename_i hal
        rw [pB_f hal]
        exact ⟨rfl, hS2.sub⟩
    by_cases o15 : c.op = 15
    · obtain ⟨hl, hne⟩ := stp_count hv (by unfold isCnt; omega)
      have ha0 := argsIn_nth hin (i := 0) (by omega) (by omega)
      have hcore : coreB ds (rs.map sgOf) lent arms σ c = takeB σ (nth c.args 0) := by unfold coreB; rw [if_neg o14, if_pos o15]
      repeat (first | refine ⟨fun h => absurd (of_decide_eq_true h) (by omega), fun _ => ?_⟩ | refine ⟨fun _ => ?_, fun h => absurd (of_decide_eq_false h) (by omega)⟩)
      refine go_ix ha (by omega) (by omega) ?_
      refine ld_int (ha.mono hS.sub) (by omega) (by omega) ?_
      intro _ _
      refine (c_ledTake hL hS ha0.1 (by omega)).mono' ?_
      intro r2 w2 hT
      rw [hcore]
      cases htk : takeB σ (nth c.args 0) with
      | none => rw [htk] at hT; obtain ⟨rfl, rfl⟩ := hT; exact ⟨false, rfl, rfl, rfl, rfl, rfl, rfl, rfl, rfl, rfl, hS.sub⟩
      | some σ2 => rw [htk] at hT; obtain ⟨rfl, hT⟩ := hT; exact ⟨true, rfl, rfl, rfl, rfl, rfl, rfl, rfl, rfl, rfl, hT⟩
    by_cases o16 : c.op = 16 ∨ c.op = 17
    · obtain ⟨hl, hne⟩ := stp_count hv (by unfold isCnt; omega)
      have ha0 := argsIn_nth hin (i := 0) (by omega) (by omega)
      have hcore : coreB ds (rs.map sgOf) lent arms σ c = openB arms σ c.op (nth c.args 0) := by unfold coreB; rw [if_neg o14, if_neg o15, if_pos o16]
      have hO := toJ (by rw [hcore]; exact c_ledOpen (op := c.op) (num := c.num) (into := c.into) (yy := yy) (kx := kx) h.hx h.sg.1 hL hS hw hk (by omega) (by omega) ha ha0.1 ha0.2 (by omega))
      rcases o16 with o16 | o16
      all_goals
        repeat (first | refine ⟨fun h => absurd (of_decide_eq_true h) (by omega), fun _ => ?_⟩ | refine ⟨fun _ => ?_, fun h => absurd (of_decide_eq_false h) (by omega)⟩)
        refine hO.mono' ?_
        rintro _ w2 ⟨q, rfl, hq⟩
        exact ⟨q, rfl, rfl, rfl, rfl, rfl, rfl, rfl, rfl, hq⟩
    by_cases o7 : c.op = 7 ∨ c.op = 8
    · have hO := toJ (c_ledChoose (into := c.into) h hL hS hw hk ha hkx hnum hv o7 H hb hB)
      rcases o7 with o7 | o7
      all_goals
        repeat (first | refine ⟨fun h => absurd (of_decide_eq_true h) (by omega), fun _ => ?_⟩ | refine ⟨fun _ => ?_, fun h => absurd (of_decide_eq_false h) (by omega)⟩)
        refine hO.mono' ?_
        rintro _ w2 ⟨q, rfl, hq⟩
        exact ⟨q, rfl, rfl, rfl, rfl, rfl, rfl, rfl, rfl, hq⟩
    · have hcore : coreB ds (rs.map sgOf) lent arms σ c = handB (rs.map sgOf) lent arms c.op c.num c.into c.args σ := by unfold coreB; rw [if_neg o14, if_neg o15, if_neg o16, if_neg o7]
      have hnm : c.op = 9 → 0 ≤ c.num ∧ c.num < rs.length := fun o9 => by
        refine Classical.byContradiction fun hn => ?_
        have hcn : ¬ isCnt c.op := by unfold isCnt; omega
        by_cases hk0 : c.kids.length = 0
        · rw [(stp_simple hto (by omega) (by omega) hcn hk0).1 hin, simB_9n (.inl o9) (by rw [List.length_map]; exact hn)] at hv
          cases hv
        · rw [stp_kids hk0 (by omega) (by omega)] at hv
          cases hv
      have hO := toJ (by rw [hcore]; exact c_ledHand (kx := kx) h hL hS hw hk (by omega) (by omega) ha hin hto hnm hinto)
      repeat (first | refine ⟨fun h => absurd (of_decide_eq_true h) (by omega), fun _ => ?_⟩ | refine ⟨fun _ => ?_, fun h => absurd (of_decide_eq_false h) (by omega)⟩)
      refine hO.mono' ?_
      rintro _ w2 ⟨q, rfl, hq⟩
      exact ⟨q, rfl, rfl, rfl, rfl, rfl, rfl, rfl, rfl, hq⟩
  · intro q w2 hq
    rw [stB_core]
    cases hcb : coreB ds (rs.map sgOf) lent arms σ c with
    | none =>
      rw [hcb] at hq
      obtain ⟨hq, hs⟩ := hq
      cases hq
      exact ⟨fun _ => ⟨rfl, hs⟩, fun hh => (by cases hh)⟩
    | some σ1 =>
      rw [hcb] at hq
      obtain ⟨hq, I2, hL2, hS2⟩ := hq
      cases hq
      refine ⟨fun hh => (by cases hh), fun _ => ?_⟩
      dsimp only
      obtain ⟨ev, eo, et⟩ := core_wf h.sg hw hv hcb
      have hop := stp_op hv
      have hlen : σ1.vars.length ≤ 1000000 ∧ σ1.own.length ≤ 1000000 ∧ P.length ≤ 1000000 ∧ C.length ≤ 1000000 ∧ F.length ≤ 1000000 ∧ σ1.tok.length ≤ 1000000 := by
        have := hk.l1; have := hk.l2; have := hk.l3
        rw [ev]
        omega
      have gr : ∀ t' o' : Int, 0 ≤ t' → t' ≤ 4 → 0 ≤ o' → o' ≤ 1 → ¬ isCnt c.op → t' = t → o' = oneOf t → Trip Tryz.prog 76 #[.pointer (some (a.add 0)), .int .i64 t', .int .i64 o', .int .i64 (-1)] w2 fun r w' => r = .tuple #[] ∧ OpS u R a arms lent (some (if isCnt c.op then σ1 else growB σ1 (gD (stpT ds (rs.map sgOf) σ.vars c)) (oneOf (gD (stpT ds (rs.map sgOf) σ.vars c))))) (.bool true) w' := by
        rintro t' o' t0 t1 o0 o1 hcn rfl rfl
        refine (c_ledGrowP hL2 hS2 hlen ⟨by omega, by omega⟩ ⟨by omega, by omega⟩ ⟨by omega, by omega⟩).mono' ?_
        rintro r w' ⟨rfl, I3, hL3, hS3⟩
        refine ⟨rfl, rfl, I3, P ++ [-1], C ++ [-1], F ++ [-1], ?_, ?_, hS3⟩
        · rw [if_neg hcn, hgd]; exact hL3
        · rw [if_neg hcn]
          have : (growB σ1 (gD (stpT ds (rs.map sgOf) σ.vars c)) (oneOf (gD (stpT ds (rs.map sgOf) σ.vars c)))).vars.length = σ.vars.length + 1 := by unfold growB; rw [ev]; simp
          rw [this]
          exact hk.grow hw.arOk
      refine ⟨_, c_defines, fun hq => ?_, fun hq => ?_⟩
      · simp only [bls] at hq
        exact gr t 1 htn.1 htn.2 (by omega) (by omega) (by unfold isCnt; omega) rfl (by unfold oneOf; rw [if_pos hq.2])
      · simp only [bls] at hq
        refine ⟨_, c_defines, fun hq2 => ?_, fun hq2 => ?_⟩
        · simp only [bls] at hq2
          have ht0 : t = 0 := by
            rcases hq with hq | hq
            · omega
            · exact hq
          exact gr 0 0 (by omega) (by omega) (by omega) (by omega) (by unfold isCnt; omega) ht0.symm (by unfold oneOf; rw [if_neg (by omega)])
        · simp only [bls] at hq2
          have hcn : isCnt c.op := by
            rcases hop with h1 | h1
            · omega
            · exact h1
          refine ⟨rfl, I2, P, C, F, ?_, ?_, hS2⟩
          · rw [if_pos hcn]; exact hL2
          · rw [if_pos hcn, ev]; exact hk
end
end Go.Vc
