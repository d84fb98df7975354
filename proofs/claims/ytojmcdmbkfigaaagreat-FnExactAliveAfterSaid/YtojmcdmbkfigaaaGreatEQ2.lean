/- Part of the proofs about the heaps and memories: a law is joined in the text whose name ends in W and the law. -/
import Derived.Test.YtojmcdmbkfigaaaGreatEQ1
namespace Go.Vc
open Go Go.Proofs Go.RowKit
set_option linter.all false
/-- what the end of a block leaves -/
def EndQ (u : World) (R : Items) (a : Addr) (x y xl xa : Sl) (ds : List DeclD) (arms : List ArmK) (B : Nat) (vars : List Int) (m : Nat) : Option (List Int × List Int) → Value → World → Prop
  | none, r, w => r = .bool false ∧ Sub u w
  | some p, r, w => r = .bool true ∧ ∃ σ' I', BalP a x y xl xa σ' I' ∧ St u w (I' ++ R) ∧ σ'.vars = vars ∧ WfB ds arms B σ' ∧ p = (σ'.own.take m, σ'.tok.take m)
section
variable {u w v0 : World} {a : Addr} {arms : List ArmK} {lent vars args l l2 fields : List Int} {σ σ' σ1 : BalS} {I R L : Items} {r t o v i c op num into first res : Int} {x y xl xa z ax kx s f xs : Sl} {B n m : Nat} {ds : List DeclD} {ss : List SigD} {q : Bool} {b : BlockD}
theorem c_balEnd (hL : BalP a x y xl xa σ I) (hS : St u w (I ++ R)) (hw : WfB ds arms B σ) (hvl : σ.vars.length ≤ 100000) (hr0 : 0 ≤ res) (hr1 : res < σ.vars.length) (hm : m ≤ σ.vars.length) :
    Trip Tryz.prog 59 #[.pointer (some (a.add 0)), .agg #[xs.val, .int .i64 res], .int .i64 (m : Int)] w (EndQ u R a x y xl xa ds arms B σ.vars m (endB σ res m)) := by
  classical
  refine of59 _ _ _ _ _ _ ?_
  unfold vc59
  have hR := hL.rd hS
  have hl1 := hw.l1
  obtain ⟨x4, e4, r4⟩ := hR.k4
  refine ⟨x4, e4, ?_⟩
  refine go_ix r4 hr0 hr1 ?_
  refine ld_int r4 hr0 hr1 ?_
  intro _ _
  unfold endB
  refine ⟨fun hc => ?_, fun hc => ?_⟩
  · simp only [bls] at hc
    rw [if_pos hc]
    refine (c_balTake hL hS hw hr0 (by omega)).mono' ?_
    intro r2 w2 hT
    cases htk : takeB σ res with
    | none =>
      rw [htk] at hT
      obtain ⟨rfl, hs⟩ := hT
      exact ⟨false, rfl, fun _ => ⟨rfl, hs⟩, fun hh => (by simp at hh)⟩
    | some σ2 =>
      rw [htk] at hT
      obtain ⟨rfl, I2, hL2, hS2⟩ := hT
      obtain ⟨hw2, ev2, et2⟩ := hw.take htk
      refine ⟨true, rfl, fun hh => (by simp at hh), fun _ => ?_⟩
      rw [Option.bind_some]
      clear hL hS hR e4 r4
      refine ⟨fun i w => w = w2 ∧ (m : Int) ≤ i ∧ i ≤ σ.vars.length ∧ ∀ j : Int, (m : Int) ≤ j → j < i → nth σ2.own j = 0 ∧ nth σ2.tok j < 0, fun i _ => (σ.vars.length - i).toNat, ⟨rfl, by omega, by omega, fun j j0 j1 => by omega⟩, ?_⟩
      rintro i _ ⟨rfl, i0, i1, hj⟩
      dsimp only
      have hR2 := hL2.rd hS2
      obtain ⟨z4, d4, s4⟩ := hR2.k4
      obtain ⟨z5, d5, s5⟩ := hR2.k5
      obtain ⟨z6, d6, s6⟩ := hR2.k6
      have s4n := s4.n
      rw [ev2] at s4n
      have hl1 := hw2.l1
      have hl2 := hw2.l2
      rw [ev2] at hl1 hl2
      refine ⟨z4, d4, fun hd => ?_, fun hd => ?_⟩
      · simp only [bls] at hd
        have hil : i < σ.vars.length := by omega
        refine ⟨z5, d5, ?_⟩
        refine go_ix s5 (by omega) (by omega) ?_
        refine ld_int s5 (by omega) (by omega) ?_
        intro _ _
        have h6 := s6.int (i := i) (by omega) (by omega)
        refine ⟨z6, fun _ => d6, fun _ => s6.ix (by omega) (by omega), nth σ2.tok i, fun _ => h6.1, fun hq => ?_, fun hq => ?_⟩
        · have hn : ¬ (nth σ2.own i = 0 ∧ nth σ2.tok i < 0) := by
            rintro ⟨h1, h2⟩
            simp [h1] at hq
            omega
          rw [if_neg]
          · exact ⟨rfl, hS2.sub⟩
          · intro hh
            rw [ev2] at hh
            exact hn (hh i i0 hil)
        · have hy2 : nth σ2.own i = 0 ∧ nth σ2.tok i < 0 := by
            simp at hq
            exact ⟨hq.1, by omega⟩
          refine go_wr (by omega) (by omega) ?_
          refine ⟨rfl, rfl, ⟨rfl, by omega, by omega, fun j j0 j1 => ?_⟩, by omega⟩
          by_cases e : j = i
          · subst e; exact hy2
          · exact hj j j0 (by omega)
      · simp only [bls] at hd
        rw [if_pos fun j j0 j1 => hj j j0 (by rw [ev2] at j1; omega)]
        exact ⟨rfl, σ2, _, hL2, hS2, ev2, hw2, rfl⟩
  · simp only [bls] at hc
    rw [if_neg (by omega), Option.bind_some]
    obtain ⟨σ2, hσ⟩ : ∃ σ2, σ2 = σ := ⟨_, rfl⟩
    obtain ⟨w2, hw0⟩ : ∃ w2, w2 = w := ⟨_, rfl⟩
    have hL2 := hL
    have hS2 := hS
    have hw2 := hw
    have ev2 : σ2.vars = σ.vars := by rw [hσ]
    rw [← hσ] at hL2 hw2
    rw [← hw0] at hS2
    clear hL hS hR e4 r4
    have fold : (∃ I16 : Int → World → Prop, True) := ⟨fun _ _ => True, trivial⟩
    clear fold
    rw [show (if ∀ v : Int, (m : Int) ≤ v → v < σ.vars.length → nth σ.own v = 0 ∧ nth σ.tok v < 0 then some (σ.own.take m, σ.tok.take m) else none) = (if ∀ v : Int, (m : Int) ≤ v → v < σ2.vars.length → nth σ2.own v = 0 ∧ nth σ2.tok v < 0 then some (σ2.own.take m, σ2.tok.take m) else none) from by rw [hσ]]
    rw [← hw0]
    refine ⟨fun i w => w = w2 ∧ (m : Int) ≤ i ∧ i ≤ σ.vars.length ∧ ∀ j : Int, (m : Int) ≤ j → j < i → nth σ2.own j = 0 ∧ nth σ2.tok j < 0, fun i _ => (σ.vars.length - i).toNat, ⟨rfl, by omega, by omega, fun j j0 j1 => by omega⟩, ?_⟩
    rintro i _ ⟨rfl, i0, i1, hj⟩
    dsimp only
    have hR2 := hL2.rd hS2
    obtain ⟨z4, d4, s4⟩ := hR2.k4
    obtain ⟨z5, d5, s5⟩ := hR2.k5
    obtain ⟨z6, d6, s6⟩ := hR2.k6
    have s4n := s4.n
    rw [ev2] at s4n
    have hl1 := hw2.l1
    have hl2 := hw2.l2
    rw [ev2] at hl1 hl2
    refine ⟨z4, d4, fun hd => ?_, fun hd => ?_⟩
    · simp only [bls] at hd
      have hil : i < σ.vars.length := by omega
      refine ⟨z5, d5, ?_⟩
      refine go_ix s5 (by omega) (by omega) ?_
      refine ld_int s5 (by omega) (by omega) ?_
      intro _ _
      have h6 := s6.int (i := i) (by omega) (by omega)
      refine ⟨z6, fun _ => d6, fun _ => s6.ix (by omega) (by omega), nth σ2.tok i, fun _ => h6.1, fun hq => ?_, fun hq => ?_⟩
      · have hn : ¬ (nth σ2.own i = 0 ∧ nth σ2.tok i < 0) := by
          rintro ⟨h1, h2⟩
          simp [h1] at hq
          omega
        rw [if_neg]
        · exact ⟨rfl, hS2.sub⟩
        · intro hh
          rw [ev2] at hh
          exact hn (hh i i0 hil)
      · have hy2 : nth σ2.own i = 0 ∧ nth σ2.tok i < 0 := by
          simp at hq
          exact ⟨hq.1, by omega⟩
        refine go_wr (by omega) (by omega) ?_
        refine ⟨rfl, rfl, ⟨rfl, by omega, by omega, fun j j0 j1 => ?_⟩, by omega⟩
        by_cases e : j = i
        · subst e; exact hy2
        · exact hj j j0 (by omega)
    · simp only [bls] at hd
      rw [if_pos fun j j0 j1 => hj j j0 (by rw [ev2] at j1; omega)]
      exact ⟨rfl, σ2, _, hL2, hS2, ev2, hw2, rfl⟩
end
end Go.Vc

namespace Go.Vc
open Go Go.Proofs Go.RowKit
set_option linter.all false
def BlkB (ds : List DeclD) (ss : List SigD) (lent : List Int) (b : BlockD) : Prop := ∀ (u w : World) (a : Addr) (x y xl xa xs : Sl) (arms : List ArmK) (σ : BalS) (I R : Items) (B : Nat) (inner : List Int), Sg u x y ds ss → Read u xl lent → Read u xa arms → Read u xs b.steps → BalP a x y xl xa σ I → WfB ds arms B σ → St u w (I ++ R) →
  stpsT ds ss σ.vars b.steps = some inner → σ.vars.length + 4 * cntB b ≤ 10000 → B + cntB b ≤ 10000 → arms.length + cntB b ≤ 10000 →
  Trip Tryz.prog 58 #[.pointer (some (a.add 0)), xs.val] w (OpB u R a x y xl xa (stsB ds ss lent arms σ b.steps))
section
variable {v w : World} {x y : Sl} {l ws : List Int}
theorem c_slicesEq (hx : Read v x l) (hy : Read v y ws) : Fn Tryz.prog 139 #[x.val, y.val] v (.bool (decide (l = ws))) := by
  refine of139 _ _ _ _ ?_
  unfold vc139
  have hn := hx.n
  have hl := hx.le
  have hyn := hy.n
  refine ⟨fun hc => ?_, fun hc => ?_⟩
  · simp only [bls] at hc
    exact ⟨val_false (fun e => by rw [e] at hn; omega), .refl v⟩
  simp only [bls] at hc
  refine ⟨fun i w => Sub v w ∧ 0 ≤ i ∧ i ≤ l.length ∧ l.take i.toNat = ws.take i.toNat, fun i _ => (l.length - i).toNat, ⟨.refl v, by omega, by omega, by simp⟩, ?_⟩
  rintro i w ⟨hs, h0, h1, h2⟩
  dsimp only
  refine ⟨fun hi => ?_, fun hi => ?_⟩
  · simp only [bls] at hi
    refine go_ix hx h0 (by omega) ?_
    refine ld_int (hx.mono hs) h0 (by omega) ?_
    intro _ _
    refine go_ix hy h0 (by omega) ?_
    refine ld_int (hy.mono hs) h0 (by omega) ?_
    intro _ _
    refine ⟨fun hq => ?_, fun hq => ?_⟩
    · simp only [bls] at hq
      exact ⟨val_false (fun e => hq (by rw [e])), hs⟩
    · simp only [bls] at hq
      refine go_wr (by omega) (by omega) ?_
      refine ⟨⟨hs, by omega, by omega, ?_⟩, by omega⟩
      rw [take_nth h0 (by omega), take_nth h0 (by omega), h2, hq]
  · simp only [bls] at hi
    rw [take_all (by omega), take_all (by omega)] at h2
    exact ⟨val_true h2, hs⟩
end
section
variable {u w v0 : World} {a a1 : Addr} {arms : List ArmK} {lent vars args l l2 fields inner : List Int} {σ σ' σ1 : BalS} {I R L J I1 : Items} {r t o v i op num into first res : Int} {x y xl xa z ax kx s f xs xa1 : Sl} {B n m : Nat} {ds : List DeclD} {ss : List SigD} {q : Bool} {b : BlockD} {c : StepD}
theorem go_ptrE' {P : Program} {t : TypeId} (ht : P.underlying t = some (.pointer (P.pointee t))) {a b : Operand} {p : Option Addr} {w : World} {K : Bool → Prop} (k : K p.isNone) :
    ∃ q, PureT P (do eqGuard .eql t a b (.pointer p) (.pointer none); binOp .eql t (.pointer p) (.pointer none)) w (.bool q) ∧ K q := by
  refine ⟨_, pure_of (v := .bool p.isNone) (fun w => ?_) rfl, k⟩
  have e1 : (eqGuard .eql t a b (.pointer p) (.pointer none)).run P w = .ok () w := rfl
  have e2 : binOp .eql t (.pointer p) (.pointer none) = (do pure (.bool (← Op.equal t (.pointer p) (.pointer none)))) := rfl
  rw [Sem.run_bind, e1, Result.andThen_ok, e2, Sem.run_bind, run_equal_pointer_nil w t p ht]
  rfl
theorem balPtr : Tryz.prog.underlying 56 = some (.pointer (Tryz.prog.pointee 56)) := by kernel_rfl
theorem cutOk (h : Read w x l) (h0 : 0 ≤ v) (h1 : v ≤ l.length) : CutOk x 0 v := ⟨by omega, h0, by have h3 := h.n; obtain ⟨_, hr, _⟩ := h; have h2 := hr.2.1; omega⟩
theorem BalP.own_take (hL : BalP a x y xl xa σ I) (hS : St u w (I ++ R)) (h1 : m ≤ σ.own.length) (h2 : m ≤ σ.tok.length) : ∃ z5 z6 : Sl, w.cell? (a.add 5) = some z5.val ∧ w.cell? (a.add 6) = some z6.val ∧ CutOk z5 0 m ∧ CutOk z6 0 m ∧ Read w (z5.cut 0 m 1) (σ.own.take m) ∧ Read w (z6.cut 0 m 1) (σ.tok.take m) := by
  have hR := hL.rd hS
  obtain ⟨z5, e5, r5⟩ := hR.k5
  obtain ⟨z6, e6, r6⟩ := hR.k6
  have c5 := r5.cut (lo := 0) (hi := (m : Int)) (by omega) (by omega) (by omega)
  have c6 := r6.cut (lo := 0) (hi := (m : Int)) (by omega) (by omega) (by omega)
  refine ⟨z5, z6, e5, e6, cutOk r5 (by omega) (by omega), cutOk r6 (by omega) (by omega), ?_, ?_⟩
  · rw [show (0 : Int).toNat = 0 from rfl, List.drop_zero, Int.toNat_natCast] at c5; exact c5
  · rw [show (0 : Int).toNat = 0 from rfl, List.drop_zero, Int.toNat_natCast] at c6; exact c6
/-- the arms of a kid are set -/
theorem BalP.setArms (hL : BalP a x y xl xa σ I) (hS : St u w (I ++ R)) {K : World → Prop} (k : ∀ w' I', BalP a x y xl xa1 σ I' → St u w' (I' ++ R) → K w') : StoreAt w a 3 [xa1.val] K := by
  obtain ⟨x4, x5, x6, I0, J4, J5, J6, hC, o4, o5, o6, rfl⟩ := hL
  replace hS : St u w (I0 ++ (J4 ++ (J5 ++ (J6 ++ R)))) := by simpa [List.append_assoc] using hS
  refine hC.store hS (by simp) ?_
  intro w2 I0 hC hS
  simp [putR] at hC
  exact k w2 (I0 ++ (J4 ++ (J5 ++ J6))) ⟨x4, x5, x6, I0, J4, J5, J6, hC, o4, o5, o6, rfl⟩ (by have h : St u w2 (I0 ++ (J4 ++ (J5 ++ (J6 ++ R)))) := hS.to; simpa [List.append_assoc] using h)
/-- .. the counts -/
theorem BalP.setCounts (hL : BalP a x y xl xa σ I) {z5 z6 : Sl} {p5 p6 : List Int} {K5 K6 : Items} (h5 : OwnI z5 p5 K5) (h6 : OwnI z6 p6 K6) (hS : St u w (I ++ (K5 ++ (K6 ++ R)))) {K : World → Prop}
    (k : ∀ w' I', BalP a x y xl xa ⟨σ.vars, p5, p6⟩ I' → St u w' (I' ++ R) → K w') : StoreAt w a 5 [z5.val] fun w' => StoreAt w' a 6 [z6.val] K := by
  obtain ⟨x4, x5, x6, I0, J4, J5, J6, hC, o4, o5, o6, rfl⟩ := hL
  replace hS : St u w (I0 ++ (J4 ++ (J5 ++ (J6 ++ (K5 ++ (K6 ++ R)))))) := by simpa [List.append_assoc] using hS
  refine hC.store hS (by simp) ?_
  intro w2 I0 hC hS
  simp [putR] at hC
  refine hC.store hS (by simp) ?_
  intro w3 I0 hC hS
  simp [putR] at hC
  exact k w3 (I0 ++ (J4 ++ (K5 ++ K6))) ⟨x4, z5, z6, I0, J4, K5, K6, hC, o4, h5, h6, rfl⟩ (by have h : St u w3 (I0 ++ (J4 ++ (K5 ++ (K6 ++ R)))) := hS.to; simpa [List.append_assoc] using h)
theorem Src.ofL {l : List (List Int)} (hx : Src u w x l) (h0 : 0 ≤ i) (h1 : i < l.length) : ∃ f : Sl, w.cell? ((elA x i 1).add 0) = some f.val ∧ Read u f (nth l i) := by
  obtain ⟨r, hr, h5⟩ := hx.row h0 h1
  obtain ⟨f, rfl, hf⟩ := hr
  exact ⟨f, h5 0 _ rfl, hf⟩
theorem stps_len : ∀ {l : List StepD} {vars inner : List Int}, stpsT ds ss vars l = some inner → vars.length ≤ inner.length := by
  intro l
  induction l with
  | nil => intro vars inner h; rw [stpsT_nil] at h; cases h; exact Nat.le_refl _
  | cons s r ih =>
    intro vars inner h
    rw [stpsT_cons] at h
    split at h
    · cases h
    · have := ih h
      split at this
      · exact this
      · rw [List.length_append] at this; omega
theorem stps_up : ∀ {l : List StepD} {vars inner : List Int}, stpsT ds ss vars l = some inner → inner.length ≤ vars.length + cntL l := by
  intro l
  induction l with
  | nil => intro vars inner h; rw [stpsT_nil] at h; cases h; omega
  | cons s r ih =>
    intro vars inner h
    rw [stpsT_cons] at h
    rw [cntL_cons]
    split at h
    · cases h
    · have := ih h
      split at this
      · omega
      · rw [List.length_append, List.length_singleton] at this; omega
theorem kidF_nth (h0 : 0 ≤ i) (h1 : i < c.kids.length) (ho : c.op = 7 ∨ c.op = 8) (h8 : c.op = 8 → c.kids.length = (consL ds c.num).length) :
    nth (if c.op = 8 then armF ds c.num else List.replicate c.kids.length []) i = kidF ds c.op (nth (consL ds c.num) i) := by
  unfold kidF
  split
  · rename_i h
    exact armF_nth h0 (by have := h8 h; omega)
  · exact nth_of (by rw [List.getElem?_replicate, if_pos (by omega)])
theorem c_balChoose (hg : Sg u x y ds ss) (hl : Read u xl lent) (ha : Read u xa arms) (hL : BalP a x y xl xa σ I) (hS : St u w (I ++ R)) (hw : WfB ds arms B σ) (hax : Read u ax c.args) (hkx : Read u kx c.kids) (hnum : InI c.num)
    (hv : stpT ds ss σ.vars c = some t) (ho : c.op = 7 ∨ c.op = 8) (H : ∀ k ∈ c.kids, BlkB ds ss lent k) (hb : σ.vars.length + 3 + 4 * cntS c ≤ 10000) (hB : B + cntS c ≤ 10000) (har : arms.length + 1 + cntS c ≤ 10000) :
    Trip Tryz.prog 119 #[.pointer (some (a.add 0)), .agg #[.int .i64 c.op, .int .i64 c.num, .int .i64 into, ax.val, kx.val]] w (OpB u R a x y xl xa (coreB ds ss lent arms σ c)) := by
  classical
  refine of119j _ _ _ _ _ _ _ _ ?_
  unfold vc119j
  obtain ⟨hal, hk1, h7, h8, hkv⟩ := stp_choice hv ho
  obtain ⟨hin, _⟩ := stp_args hv
  have ha0 := argsIn_nth hin (i := 0) (by omega) (by omega)
  have hkn := hkx.n
  have hkl := hkx.le
  have hl1 := hw.l1
  have hl2 := hw.l2
  have hcore : coreB ds ss lent arms σ c = if c.op = 8 ∧ ¬ AlB arms lent σ.own (nth c.args 0) then none else (joinB (kdsB ds ss lent arms σ c.op (nth c.args 0) (consL ds c.num) c.kids)).map fun p => ⟨σ.vars, p.1, p.2⟩ := by
    unfold coreB
    rw [if_neg (by omega), if_neg (by omega), if_neg (by omega), if_pos ho]
  have hR := hL.rd hS
  refine ⟨fun _ => hax.ix (by omega) (by omega), nth c.args 0, fun _ => ((hax.mono hS.sub).int (by omega) (by omega)).1, _, fun _ => c_balAlive hR (hl.mono hS.sub) (ha.mono hS.sub) hw (by omega) _ _ (Nat.lt_succ_self _) ha0.1 ha0.2, fun hq => ?_, fun hq => ?_⟩
  · simp only [bls] at hq
    have hn : ¬ AlB arms lent σ.own (nth c.args 0) := fun hh => by rw [pB_t hh] at hq; exact absurd hq.2 (by simp)
    rw [hcore, if_pos ⟨hq.1, hn⟩]
    exact ⟨rfl, hS.sub⟩
  simp only [bls] at hq
  have hna : ¬ (c.op = 8 ∧ ¬ AlB arms lent σ.own (nth c.args 0)) := by
    rintro ⟨h1, h2⟩
    rcases hq with hq | hq
    · exact hq h1
    · exact h2 (pB_iff.1 hq)
  rw [hcore, if_neg hna]
  clear hcore hq hR
  have bad : ∀ (j : Int) (p : Option (List Int × List Int)) (w : World), 0 ≤ j → j < c.kids.length → Sub u w → (∀ p : List Int × List Int, joinB (kdsB ds ss lent arms σ c.op (nth c.args 0) (consL ds c.num) c.kids) = some p → False) →
      OpB u R a x y xl xa ((joinB (kdsB ds ss lent arms σ c.op (nth c.args 0) (consL ds c.num) c.kids)).map fun p => ⟨σ.vars, p.1, p.2⟩) (.bool false) w := by
    intro j p w j0 j1 hs hne
    rw [joinB_none fun p hp => hne p hp]
    exact ⟨rfl, hs⟩
  rw [hkn]
  refine St.make (α := List Int) [] hS ⟨Sl.mk none 0 0, rfl, ReadB.nil⟩ (by omega) (by omega) (by decide) ?_
  intro x7 w6 J0 hO0 hS0 hs0
  refine ⟨x7, rfl, ?_⟩
  refine ⟨fun z w => ∃ J, Own u z (if c.op = 8 then armF ds c.num else List.replicate c.kids.length []) J ∧ St u w (J ++ (I ++ R)), ⟨fun h8' => ?_, fun h8' => ?_⟩, ?_⟩
  · have h8' := of_decide_eq_true h8'
    have hR := hL.rd (hS0.to : St u w6 (I ++ R))
    refine ⟨x, y, ⟨hR.c0, hR.c1⟩, ?_⟩
    refine Mk.use (c_armFields hg hnum) (hS0.to : St u w6 (I ++ R)) ?_
    rintro _ w2 J2 ⟨z2, rfl, hO2⟩ hS2 hs2
    refine ⟨z2, rfl, rfl, rfl, rfl, rfl, rfl, J2, ?_, hS2⟩
    rw [if_pos h8']; exact hO2
  · have h8' := of_decide_eq_false h8'
    refine ⟨rfl, rfl, rfl, rfl, rfl, J0, ?_, hS0⟩
    rw [if_neg h8']
    simpa using hO0
  clear hO0 hS0 hs0 hS
  rintro zf w2 ⟨J, hOf, hS⟩
  obtain ⟨x4, e4, r4⟩ := (hL.rd (hS.to : St u w2 (I ++ (J ++ R)))).k4
  have x4n := r4.n
  refine ⟨x4, e4, ?_⟩
  rw [x4n]
  refine ⟨fun yv i w => 0 ≤ i ∧ i ≤ c.kids.length ∧ ((i = 0 ∧ yv.x = .pointer none ∧ St u w (J ++ (I ++ R))) ∨ (1 ≤ i ∧ ∃ (a1 : Addr) (x' y' xl' xa' : Sl) (σ1 : BalS) (I1 : Items), yv.x = .pointer (some a1) ∧ BalP a1 x' y' xl' xa' σ1 I1 ∧ St u w (J ++ (I ++ (I1 ++ R))) ∧ σ.vars.length ≤ σ1.own.length ∧ σ.vars.length ≤ σ1.tok.length ∧
      ∀ j : Int, 0 ≤ j → j < i → bkB ds ss lent (kidA ds arms c.op (nth c.args 0) σ.vars.length (nth (consL ds c.num) j)) (kidS σ (kidF ds c.op (nth (consL ds c.num) j))) σ.vars.length (nth c.kids j) = some (σ1.own.take σ.vars.length, σ1.tok.take σ.vars.length))), fun _ i _ => (c.kids.length - i).toNat, ⟨by omega, by omega, .inl ⟨rfl, rfl, hS⟩⟩, ?_⟩
  clear hS e4 r4
  rintro yv i w3 ⟨i0, i1, hcase⟩
  dsimp only
  refine ⟨fun hc => ?_, fun hc => ?_⟩
  · simp only [bls] at hc
    have hil : i < c.kids.length := by omega
    -- whatever else is owned
    obtain ⟨R1, hS, hback⟩ : ∃ R1, St u w3 (J ++ (I ++ R1)) ∧ ∀ {w' : World} {K : Items}, St u w' (K ++ (J ++ (I ++ R1))) → (i = 0 ∧ yv.x = .pointer none ∧ St u w' (K ++ (J ++ (I ++ R)))) ∨ (1 ≤ i ∧ ∃ (a1 : Addr) (x' y' xl' xa' : Sl) (σ1 : BalS) (I1 : Items), yv.x = .pointer (some a1) ∧ BalP a1 x' y' xl' xa' σ1 I1 ∧ St u w' (K ++ (J ++ (I ++ (I1 ++ R)))) ∧ σ.vars.length ≤ σ1.own.length ∧ σ.vars.length ≤ σ1.tok.length ∧
      ∀ j : Int, 0 ≤ j → j < i → bkB ds ss lent (kidA ds arms c.op (nth c.args 0) σ.vars.length (nth (consL ds c.num) j)) (kidS σ (kidF ds c.op (nth (consL ds c.num) j))) σ.vars.length (nth c.kids j) = some (σ1.own.take σ.vars.length, σ1.tok.take σ.vars.length)) := by
      rcases hcase with ⟨h0, h1, h2⟩ | ⟨h0, a1, x', y', xl', xa', σ1, I1, h1, h2, h3, h4, h5, h6⟩
      · exact ⟨R, h2, fun hh => .inl ⟨h0, h1, hh⟩⟩
      · exact ⟨I1 ++ R, h3, fun hh => .inr ⟨h0, a1, x', y', xl', xa', σ1, I1, h1, h2, hh, h4, h5, h6⟩⟩
    clear hcase
    have hmem := nth_mem (l := c.kids) i0 hil
    have hcm := cntK_mem c.kids hmem
    rw [cntS_eq] at hb hB har
    have hfn := kidF_nth (ds := ds) i0 hil ho h8
    have hff : (kidF ds c.op (nth (consL ds c.num) i)).length ≤ 3 := by
      unfold kidF; split
      · exact conF_len3 hg.sg.1 _
      · simp
    have hfl : i < (if c.op = 8 then armF ds c.num else List.replicate c.kids.length ([] : List Int)).length := by
      split
      · rename_i h; have := h8 h; unfold armF; rw [List.length_map]; omega
      · rw [List.length_replicate]; omega
    obtain ⟨g1, d1, d2, q1, t1⟩ := (hkx.src hS.sub).ofBlockD i0 hil
    refine go_ix hkx i0 hil ?_
    refine ⟨g1, _, ⟨d1, d2⟩, ?_⟩
    have hSI : St u w3 (I ++ (J ++ R1)) := hS.to
    have hcl := c_cloneB hL hSI
    refine Mk.usew hcl hS ?_
    rintro _ w4 J4 ⟨a4, rfl, hL4⟩ hS4 hs4
    refine ⟨a4, rfl, ?_⟩
    refine ⟨fun w' => ∃ (u' : World) (xa' : Sl) (J' : Items), Sub u u' ∧ Read u' xa' (kidA ds arms c.op (nth c.args 0) σ.vars.length (nth (consL ds c.num) i)) ∧ BalP a4 x y xl xa' σ J' ∧ St u' w' (J' ++ (J ++ (I ++ R1))), ⟨fun h8' => ?_, fun h8' => ?_⟩, ?_⟩
    · have h8' := of_decide_eq_true h8'
      have hR4 := hL.rd (hS4.to : St u w4 (I ++ (J4 ++ (J ++ R1))))
      refine ⟨xa, hR4.c3, hax.ix (by omega) (by omega), nth c.args 0, ((hax.mono hS4.sub).int (by omega) (by omega)).1, ?_⟩
      refine go_ix (hOf.read hS4) i0 hfl ?_
      obtain ⟨f, df, rff⟩ := (hOf.src hS4).ofL i0 hfl
      refine ⟨f, df, ?_⟩
      refine Mk.use (c_armsWith (c := nth (consL ds c.num) i) ha (by omega) rff ⟨by omega, by omega⟩ ⟨by omega, by omega⟩) hS4 ?_
      rintro _ w5 J5 ⟨z5, rfl, hO5⟩ hS5 hs5
      refine ⟨z5, rfl, ?_⟩
      obtain ⟨u', hu, hS5', hSu⟩ := hS5.freeze J5
      refine hL4.setArms (xa1 := z5) hS5' ?_
      intro w6 J6 hL6 hS6
      refine ⟨rfl, rfl, rfl, rfl, rfl, rfl, rfl, u', z5, J6, hu, ?_, hL6, hS6⟩
      have hr5 := hO5.read (by simpa using hSu : St u u' (J5 ++ []))
      rw [hfn] at hr5
      unfold kidA
      unfold kidF at hr5
      rw [if_pos h8'] at hr5 ⊢
      exact hr5
    · have h8' := of_decide_eq_false h8'
      refine ⟨rfl, rfl, rfl, rfl, rfl, rfl, rfl, u, xa, J4, .refl u, ?_, hL4, hS4⟩
      unfold kidA
      rw [if_neg h8']
      exact ha
    · rintro w5 ⟨u', xa', J5, hu, ha', hL5, hS5⟩
      have hOf' := hOf.mono hu
      obtain ⟨f, df, rff⟩ := (hOf'.src hS5).ofL i0 hfl
      rw [hfn] at rff
      refine go_ix (hOf'.read hS5) i0 hfl ?_
      refine ⟨f, df, ?_⟩
      have rfn := rff.n
      have hwk := hw.kid (op := c.op) (v := nth c.args 0) (k := nth (consL ds c.num) i) hg.sg.1 (fun _ => ⟨ha0.1, ha0.2, consL_nn ds c.num i⟩)
      have hvk := hkv i i0 hil
      have harm : (kidA ds arms c.op (nth c.args 0) σ.vars.length (nth (consL ds c.num) i)).length ≤ arms.length + 1 := by
        unfold kidA; split
        · rw [List.length_append, List.length_singleton]; exact Nat.le_refl _
        · omega
      have hbkd : bkB ds ss lent (kidA ds arms c.op (nth c.args 0) σ.vars.length (nth (consL ds c.num) i)) (kidS σ (kidF ds c.op (nth (consL ds c.num) i))) σ.vars.length (nth c.kids i) = match stsB ds ss lent (kidA ds arms c.op (nth c.args 0) σ.vars.length (nth (consL ds c.num) i)) (kidS σ (kidF ds c.op (nth (consL ds c.num) i))) (nth c.kids i).steps with
          | none => none
          | some σ' => endB σ' (nth c.kids i).result σ.vars.length := bkB_eq
      have hkid : ∀ {p}, joinB (kdsB ds ss lent arms σ c.op (nth c.args 0) (consL ds c.num) c.kids) = some p → bkB ds ss lent (kidA ds arms c.op (nth c.args 0) σ.vars.length (nth (consL ds c.num) i)) (kidS σ (kidF ds c.op (nth (consL ds c.num) i))) σ.vars.length (nth c.kids i) = some p := fun hp => kidsB_some hp i0 hil
      have hkv2 : (kidS σ (kidF ds c.op (nth (consL ds c.num) i))).vars = σ.vars ++ kidF ds c.op (nth (consL ds c.num) i) := rfl
      refine ⟨fun k w => ∃ J', BalP a4 x y xl xa' (kidS σ ((kidF ds c.op (nth (consL ds c.num) i)).take k.toNat)) J' ∧ St u' w (J' ++ (J ++ (I ++ R1))) ∧ 0 ≤ k ∧ k ≤ (kidF ds c.op (nth (consL ds c.num) i)).length, fun k _ => ((kidF ds c.op (nth (consL ds c.num) i)).length - k).toNat, ⟨J5, by rw [show (0 : Int).toNat = 0 from rfl, List.take_zero, kidS_nil]; exact hL5, hS5, by omega, by omega⟩, ?_⟩
      clear hL5 hS5 hOf'
      rintro k w6 ⟨J6, hL6, hS6, k0, k1⟩
      dsimp only
      refine ⟨fun hd => ?_, fun hd => ?_⟩
      · simp only [bls] at hd
        have hkl2 : k < (kidF ds c.op (nth (consL ds c.num) i)).length := by omega
        refine go_ix rff k0 hkl2 ?_
        refine ld_int (rff.mono hS6.sub) k0 hkl2 ?_
        intro _ _
        refine (c_bind hL6 hS6 ⟨?_, ?_, ?_⟩ ⟨by omega, by omega⟩ ⟨by omega, by omega⟩).mono' ?_
        · unfold kidS; simp only [List.length_append, List.length_take]; omega
        · unfold kidS; simp only [List.length_append, List.length_replicate, List.length_take]; omega
        · unfold kidS; simp only [List.length_append, List.length_replicate, List.length_take]; omega
        rintro _ w7 ⟨rfl, J7, hL7, hS7⟩
        refine ⟨rfl, ?_⟩
        refine go_wr (by omega) (by omega) ?_
        exact ⟨rfl, rfl, rfl, rfl, rfl, rfl, rfl, ⟨J7, by rw [kidS_succ k0 hkl2]; exact hL7, hS7, by omega, by omega⟩, by omega⟩
      · simp only [bls] at hd
        rw [show k.toNat = (kidF ds c.op (nth (consL ds c.num) i)).length from by omega, List.take_length] at hL6
        rw [blkT_eq] at hvk
        split at hvk
        · cases hvk
        · rename_i inner hin2
          split at hvk
          · rename_i hres
            have hcb : cntB (nth c.kids i) = cntL (nth c.kids i).steps := cntB_eq
            refine (H _ hmem u' w6 a4 x y xl xa' g1 (kidA ds arms c.op (nth c.args 0) σ.vars.length (nth (consL ds c.num) i)) (kidS σ (kidF ds c.op (nth (consL ds c.num) i))) J6 (J ++ (I ++ R1)) B inner (hg.mono hu) (hl.mono hu) ha' (t1.mono hu) hL6 hwk hS6 hin2 (by rw [hkv2, List.length_append]; omega) (by omega) (by omega)).mono' ?_
            intro r7 w7 hE
            cases hst : stsB ds ss lent (kidA ds arms c.op (nth c.args 0) σ.vars.length (nth (consL ds c.num) i)) (kidS σ (kidF ds c.op (nth (consL ds c.num) i))) (nth c.kids i).steps with
            | none =>
              rw [hst] at hE hbkd
              obtain ⟨rfl, hs7⟩ := hE
              refine ⟨false, rfl, fun hh => (by simp at hh), fun _ => bad i none w7 i0 hil (hu.trans hs7) fun p hp => ?_⟩
              have := hkid hp
              rw [hbkd] at this
              cases this
            | some σ7 =>
              rw [hst] at hE hbkd
              obtain ⟨rfl, J7, hL7, hS7⟩ := hE
              obtain ⟨hw7, ev7⟩ := wf_sts0 hg.sg _ (fun s _ k _ => wf_bk hg.sg k) _ _ _ _ hwk hin2 hst
              refine ⟨true, rfl, fun _ => ?_, fun hh => (by simp at hh)⟩
              have hlen7 : σ7.vars.length ≤ 100000 ∧ σ.vars.length ≤ σ7.vars.length := by
                rw [ev7]
                have h1 := stps_len hin2
                have h2 := stps_up hin2
                rw [List.length_append] at h1 h2
                omega
              refine (c_balEnd (xs := g1) (m := σ.vars.length) hL7 hS7 hw7 hlen7.1 hres.1 (by rw [ev7]; exact hres.2) hlen7.2).mono' ?_
              intro r8 w8 hE8
              dsimp only at hbkd
              cases hen : endB σ7 (nth c.kids i).result σ.vars.length with
              | none =>
                rw [hen] at hE8 hbkd
                obtain ⟨rfl, hs8⟩ := hE8
                refine ⟨false, rfl, fun _ => bad i none w8 i0 hil (hu.trans hs8) fun p hp => ?_, fun hh => (by simp at hh)⟩
                have := hkid hp
                rw [hbkd] at this
                cases this
              | some p8 =>
                rw [hen] at hE8 hbkd
                obtain ⟨rfl, σ8, J8, hL8, hS8, ev8, hw8, rfl⟩ := hE8
                have hl81 := hw8.l1
                have hl82 := hw8.l2
                rw [ev8] at hl81 hl82
                refine ⟨true, rfl, fun hh => (by simp at hh), fun _ => ?_⟩
                have hS8' := hS8.weakU hu
                rcases hback hS8' with ⟨h0, h1, h2⟩ | ⟨h0, a1, x', y', xl', xa1, σ1, I1, h1, h2, h3, h4, h5, h6⟩
                · rw [h1]
                  refine go_ptrE' balPtr ⟨fun _ => ?_, fun hh => (by simp at hh)⟩
                  refine go_wr (by omega) (by omega) ?_
                  refine ⟨rfl, rfl, rfl, rfl, rfl, ⟨by omega, by omega, .inr ⟨by omega, a4, x, y, xl, xa', σ8, J8, rfl, hL8, h2.perm (by
                    classical
                    exact List.perm_iff_count.2 fun a => by simp only [List.count_append]; omega), by omega, by omega, fun j j0 j1 => ?_⟩⟩, by omega⟩
                  have : j = i := by omega
                  subst this
                  exact hbkd
                · rw [h1]
                  refine go_ptrE' balPtr ⟨fun hh => (by simp at hh), fun _ => ?_⟩
                  obtain ⟨z5, z6, e5, e6, k5, k6, q5, q6⟩ := hL8.own_take (m := σ.vars.length) h3 (by omega) (by omega)
                  obtain ⟨y5, y6, f5, f6, m5, m6, s5, s6⟩ := h2.own_take (m := σ.vars.length) (R := J8 ++ (J ++ (I ++ R))) (h3.perm (by
                    classical
                    exact List.perm_iff_count.2 fun a => by simp only [List.count_append]; omega)) h4 h5
                  refine ⟨z5, e5, k5, a1, rfl, y5, f5, m5, _, c_slicesEq q5 s5, z6, fun _ => e6, fun _ => k6, a1, fun _ => rfl, y6, fun _ => f6, fun _ => m6, _, fun _ => c_slicesEq q6 s6, fun hq => ?_, fun hq => ?_⟩
                  · refine bad i none w8 i0 hil hS8'.sub fun p hp => ?_
                    have g1 := hkid hp
                    have g2 := kidsB_some hp (j := 0) (by omega) (by omega)
                    have g3 := h6 0 (by omega) (by omega)
                    rw [hbkd] at g1
                    rw [g2] at g3
                    cases g1
                    have g4 := Option.some.inj g3
                    rw [Prod.mk.injEq] at g4
                    simp [g4.1, g4.2] at hq
                  · simp at hq
                    refine go_wr (by omega) (by omega) ?_
                    refine ⟨rfl, rfl, rfl, rfl, rfl, ⟨by omega, by omega, .inr ⟨by omega, a1, x', y', xl', xa1, σ1, I1, rfl, h2, h3.to, h4, h5, fun j j0 j1 => ?_⟩⟩, by omega⟩
                    by_cases e : j = i
                    · subst e
                      rw [hbkd, hq.1, hq.2]
                    · exact h6 j j0 (by omega)
          · cases hvk
  · simp only [bls] at hc
    rcases hcase with ⟨h0, _, _⟩ | ⟨h0, a1, x', y', xl', xa1, σ1, I1, h1, h2, h3, h4, h5, h6⟩
    · omega
    · obtain ⟨y5, y6, f5, f6, m5, m6, s5, s6⟩ := h2.own_take (m := σ.vars.length) (R := J ++ (I ++ R)) (h3.perm (by
        classical
        exact List.perm_iff_count.2 fun a => by simp only [List.count_append]; omega)) h4 h5
      rw [kidsB_all (p := (σ1.own.take σ.vars.length, σ1.tok.take σ.vars.length)) (by intro hn; rw [hn] at hk1; simp at hk1) fun j j0 j1 => h6 j j0 (by omega), Option.map_some]
      rw [h1]
      refine ⟨a1, rfl, y5, f5, m5, a1, rfl, y6, f6, m6, ?_⟩
      refine Mk.usew (c_cloneInts s5) h3 ?_
      rintro _ w5 K5 ⟨z5, rfl, o5⟩ hS5 hs5
      refine ⟨z5, rfl, hs5, ?_⟩
      refine Mk.usew (c_cloneInts (s6.mono hs5)) hS5 ?_
      rintro _ w6 K6 ⟨z6, rfl, o6⟩ hS6 hs6
      refine ⟨z6, rfl, ?_⟩
      refine hL.setCounts o5.toI o6.toI (R := R) (hS6.to) ?_
      intro w7 I7 hL7 hS7
      exact ⟨rfl, I7, hL7, hS7⟩
end
end Go.Vc
