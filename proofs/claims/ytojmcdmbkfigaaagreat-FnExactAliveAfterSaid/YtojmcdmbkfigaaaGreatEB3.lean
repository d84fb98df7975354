/- Part of the proofs about the heaps and memories: a law is joined in the text whose name ends in W and the law. -/
import Derived.Test.YtojmcdmbkfigaaaGreatEB2
namespace Go.Vc
open Go Go.Proofs Go.RowKit
set_option linter.all false
/-- a type and whether there is one -/
def TyR (n : Int) (q : Bool) (o : Option Int) : Prop := (q = true → o = some n) ∧ (q = false → o = none)
section
variable {u v w : World} {x y z ax kx tx xs s : Sl} {vars args T W : List Int} {ds : List DeclD} {rs : List RoutD} {ss : List SigD} {n i t op num into : Int} {c : StepD} {b : BlockD} {kids : List BlockD} {fs : List (List Int)} {q : Bool}
theorem tyR_w (hw : wantB ds ss op num (nth T 0) = some (W, n)) : TyR n (decide (T = W)) (simB ds ss op num T) := by
  refine ⟨fun hq => ?_, fun hq => ?_⟩ <;> unfold simB <;> rw [hw] <;> dsimp only
  · rw [if_pos (of_decide_eq_true hq)]
  · rw [if_neg (of_decide_eq_false hq)]
theorem tyR_n (hw : wantB ds ss op num (nth T 0) = none) : TyR n false (simB ds ss op num T) := by
  refine ⟨fun hq => (by cases hq), fun hq => ?_⟩
  unfold simB; rw [hw]
theorem tyR_c {C : Prop} [Decidable C] (h1 : C → wantB ds ss op num (nth T 0) = some (W, n)) (h2 : ¬ C → wantB ds ss op num (nth T 0) = none) : TyR n (decide C && decide (T = W)) (simB ds ss op num T) := by
  by_cases hc : C
  · rw [decide_eq_true hc, Bool.true_and]; exact tyR_w (h1 hc)
  · rw [decide_eq_false hc, Bool.false_and]; exact tyR_n (h2 hc)
theorem c_simpleTypeA (hx : Read v x ds) (hs : Read v s ss) (hT : Read v tx T) (hsg : sigSigs ds ss) (hn : InI num) (hlent : op = 10 → 0 ≤ num → num < ss.length → (nth ss num).lent.length = 0) :
    ∃ (n : Int) (q : Bool), Fn Tryz.prog 117 #[.agg #[x.val, s.val], .int .i64 op, .int .i64 num, tx.val] v (.tuple #[.int .i64 n, .bool q]) ∧ TyR n q (simB ds ss op num T) := by
  classical
  have hTn := hT.n
  have hsn := hs.n
  have hS := St.refl v
  by_cases o0 : op = 0
  · refine ⟨0, decide (-999 ≤ num ∧ num ≤ 999) && decide (T = []), ?_, tyR_c (fun h => by unfold wantB; rw [if_pos o0, if_pos h]) (fun h => by unfold wantB; rw [if_pos o0, if_neg h])⟩
    refine of117 _ _ _ _ _ _ _ ?_
    unfold vc117
    repeat (first | refine ⟨fun h => absurd (of_decide_eq_true h) (by omega), fun _ => ?_⟩ | refine ⟨fun _ => ?_, fun h => absurd (of_decide_eq_false h) (by omega)⟩)
    refine ⟨?_, .refl _⟩
    have e : ((decide (num ≥ (-999)) && decide (num ≤ 999)) && decide ((tx.n : Int) = 0)) = (decide (-999 ≤ num ∧ num ≤ 999) && decide (T = [])) := by
      rw [Bool.eq_iff_iff]
      simp only [Bool.and_eq_true, decide_eq_true_eq, ← List.length_eq_zero_iff]
      constructor
      · intro h; omega
      · intro h; omega
    rw [e]
  by_cases o1 : op = 1 ∨ op = 2 ∨ op = 3 ∨ op = 4
  · refine ⟨0, decide (num = 0) && decide (T = [0, 0]), ?_, tyR_c (fun h => by unfold wantB; rw [if_neg o0, if_pos o1, if_pos h]) (fun h => by unfold wantB; rw [if_neg o0, if_pos o1, if_neg h])⟩
    refine of117 _ _ _ _ _ _ _ ?_
    unfold vc117
    rcases o1 with o1 | o1 | o1 | o1
    all_goals
      repeat (first | refine ⟨fun h => absurd (of_decide_eq_true h) (by omega), fun _ => ?_⟩ | refine ⟨fun _ => ?_, fun h => absurd (of_decide_eq_false h) (by omega)⟩)
      refine St.build (α := Int) hS (by (repeat' (first | exact VsOf.nil | apply VsOf.cons | (apply VOf.int; first | assumption | (constructor <;> first | omega | (simp only [List.length_set, List.length_append, List.length_replicate, List.length_cons, List.length_nil, List.length_take, List.length_drop, List.length_map, List.length_singleton] at *; omega))) | exact VOf.bool | exact VOf.str))) rfl (by decide) ?_
      intro z w1 J hO hS hs
      exact ⟨_, rfl, _, fun _ => c_slicesEqualK (hT.mono hs) (hO.read hS), rfl, hS.sub⟩
  by_cases o5 : op = 5
  · refine ⟨0, decide (num = 0) && decide (T = [0]), ?_, tyR_c (fun h => by unfold wantB; rw [if_neg o0, if_neg o1, if_pos o5, if_pos h]) (fun h => by unfold wantB; rw [if_neg o0, if_neg o1, if_pos o5, if_neg h])⟩
    refine of117 _ _ _ _ _ _ _ ?_
    unfold vc117
    repeat (first | refine ⟨fun h => absurd (of_decide_eq_true h) (by omega), fun _ => ?_⟩ | refine ⟨fun _ => ?_, fun h => absurd (of_decide_eq_false h) (by omega)⟩)
    refine St.build (α := Int) hS (by (repeat' (first | exact VsOf.nil | apply VsOf.cons | (apply VOf.int; first | assumption | (constructor <;> first | omega | (simp only [List.length_set, List.length_append, List.length_replicate, List.length_cons, List.length_nil, List.length_take, List.length_drop, List.length_map, List.length_singleton] at *; omega))) | exact VOf.bool | exact VOf.str))) rfl (by decide) ?_
    intro z w1 J hO hS hs
    exact ⟨_, rfl, _, fun _ => c_slicesEqualK (hT.mono hs) (hO.read hS), rfl, hS.sub⟩
  by_cases o6 : op = 6
  · obtain ⟨z, hz, hf⟩ := c_conAtA (n := num) hx hsg.1.sm hn
    have hct := conTyV_cases ds num
    refine ⟨conTyV ds num, decide (conTyV ds num ≥ 0) && decide (T = conF ds num), ?_, tyR_c (fun h => by unfold wantB; rw [if_neg o0, if_neg o1, if_neg o5, if_pos o6, if_pos (by omega)]) (fun h => by unfold wantB; rw [if_neg o0, if_neg o1, if_neg o5, if_pos o6, if_neg (by omega)])⟩
    refine of117 _ _ _ _ _ _ _ ?_
    unfold vc117
    repeat (first | refine ⟨fun h => absurd (of_decide_eq_true h) (by omega), fun _ => ?_⟩ | refine ⟨fun _ => ?_, fun h => absurd (of_decide_eq_false h) (by omega)⟩)
    exact ⟨_, z, hf, _, fun _ => c_slicesEqualK hT hz, rfl, hS.sub⟩
  by_cases o9 : op = 9
  · by_cases hb : 0 ≤ num ∧ num < ss.length
    · obtain ⟨px', lx', e1, e2, e3, i1, r1, r2⟩ := (hs.src (.refl v)).ofSigD hb.1 hb.2
      refine ⟨(nth ss num).result, decide (T = (nth ss num).params), ?_, tyR_w (by unfold wantB; rw [if_neg o0, if_neg o1, if_neg o5, if_neg o6, if_pos o9, if_pos hb])⟩
      refine of117 _ _ _ _ _ _ _ ?_
      unfold vc117
      repeat (first | refine ⟨fun h => absurd (of_decide_eq_true h) (by omega), fun _ => ?_⟩ | refine ⟨fun _ => ?_, fun h => absurd (of_decide_eq_false h) (by omega)⟩)
      refine ⟨fun hq => ?_, fun hq => ?_⟩
      · simp only [bls] at hq; omega
      refine ⟨hs.ix hb.1 hb.2, px', e1, hs.ix hb.1 hb.2, _, e3, ?_⟩
      repeat (first | refine ⟨fun h => absurd (of_decide_eq_true h) (by omega), fun _ => ?_⟩ | refine ⟨fun _ => ?_, fun h => absurd (of_decide_eq_false h) (by omega)⟩)
      exact ⟨_, c_slicesEqualK hT r1, rfl, hS.sub⟩
    · refine ⟨-1, false, ?_, tyR_n (by unfold wantB; rw [if_neg o0, if_neg o1, if_neg o5, if_neg o6, if_pos o9, if_neg hb])⟩
      refine of117 _ _ _ _ _ _ _ ?_
      unfold vc117
      repeat (first | refine ⟨fun h => absurd (of_decide_eq_true h) (by omega), fun _ => ?_⟩ | refine ⟨fun _ => ?_, fun h => absurd (of_decide_eq_false h) (by omega)⟩)
      refine ⟨fun hq => ⟨rfl, hS.sub⟩, fun hq => ?_⟩
      simp only [bls] at hq; omega
  by_cases o10 : op = 10
  · by_cases hb : 0 ≤ num ∧ num < ss.length
    · have hl0 := hlent o10 hb.1 hb.2
      have hpl : (nth ss num).params.length ≤ 3 := (hsg.2.2.2.2.2 num hb.1 hb.2).1.1
      have hbd := arrI_cases ds (nth (nth ss num).params (((nth ss num).params.length : Int) - 1)) (nth ss num).result
      obtain ⟨px', lx', e1, e2, e3, i1, r1, r2⟩ := (hs.src (.refl v)).ofSigD hb.1 hb.2
      have hpn := r1.n
      have hcap : px'.n ≤ px'.c := by obtain ⟨rows, hr, _⟩ := r1; exact hr.2.1
      by_cases hp1 : 1 ≤ (nth ss num).params.length
      · have hcut := r1.cut (lo := 0) (hi := ((nth ss num).params.length : Int) - 1) (by omega) (by omega) (by omega)
        rw [show (((nth ss num).params.length : Int) - 1).toNat = (nth ss num).params.length - 1 from by omega, show ((0 : Int)).toNat = 0 from rfl, List.drop_zero] at hcut
        refine ⟨arrI ds (nth (nth ss num).params (((nth ss num).params.length : Int) - 1)) (nth ss num).result, decide (arrI ds (nth (nth ss num).params (((nth ss num).params.length : Int) - 1)) (nth ss num).result ≥ 0) && decide (T = (nth ss num).params.take ((nth ss num).params.length - 1)), ?_,
          tyR_c (fun h => by unfold wantB; rw [if_neg o0, if_neg o1, if_neg o5, if_neg o6, if_neg o9, if_pos o10, if_pos ⟨hb.1, hb.2, hp1, hl0, by omega⟩]) (fun h => by unfold wantB; rw [if_neg o0, if_neg o1, if_neg o5, if_neg o6, if_neg o9, if_pos o10, if_neg (fun hh => h (by omega))])⟩
        refine of117 _ _ _ _ _ _ _ ?_
        unfold vc117
        repeat (first | refine ⟨fun h => absurd (of_decide_eq_true h) (by omega), fun _ => ?_⟩ | refine ⟨fun _ => ?_, fun h => absurd (of_decide_eq_false h) (by omega)⟩)
        refine ⟨fun hq => ?_, fun hq => ?_⟩
        · simp only [bls] at hq; omega
        refine ⟨hs.ix hb.1 hb.2, px', e1, hs.ix hb.1 hb.2, _, e3, ?_⟩
        refine ⟨fun h => absurd (of_decide_eq_true h) (by omega), fun _ => ?_⟩
        rw [hpn]
        refine go_wr (by omega) (by omega) ?_
        refine ⟨fun hq => ?_, fun hq => ?_⟩
        · simp only [bls] at hq; omega
        refine go_ix r1 (by omega) (by omega) ?_
        refine ld_int r1 (by omega) (by omega) fun _ _ => ?_
        refine ⟨_, c_kArrowOf hx hsg.1.1, ?_⟩
        exact ⟨fun _ => ⟨by omega, by omega, by omega⟩, _, fun _ => c_slicesEqualK hT hcut, rfl, hS.sub⟩
      · refine ⟨-1, false, ?_, tyR_n (by unfold wantB; rw [if_neg o0, if_neg o1, if_neg o5, if_neg o6, if_neg o9, if_pos o10, if_neg (fun hh => hp1 hh.2.2.1)])⟩
        refine of117 _ _ _ _ _ _ _ ?_
        unfold vc117
        repeat (first | refine ⟨fun h => absurd (of_decide_eq_true h) (by omega), fun _ => ?_⟩ | refine ⟨fun _ => ?_, fun h => absurd (of_decide_eq_false h) (by omega)⟩)
        refine ⟨fun hq => ?_, fun hq => ?_⟩
        · simp only [bls] at hq; omega
        refine ⟨hs.ix hb.1 hb.2, px', e1, hs.ix hb.1 hb.2, _, e3, ?_⟩
        refine ⟨fun h => absurd (of_decide_eq_true h) (by omega), fun _ => ?_⟩
        rw [hpn]
        refine go_wr (by omega) (by omega) ?_
        refine ⟨fun hq => ⟨rfl, hS.sub⟩, fun hq => ?_⟩
        simp only [bls] at hq; omega
    · refine ⟨-1, false, ?_, tyR_n (by unfold wantB; rw [if_neg o0, if_neg o1, if_neg o5, if_neg o6, if_neg o9, if_pos o10, if_neg (fun hh => hb ⟨hh.1, hh.2.1⟩)])⟩
      refine of117 _ _ _ _ _ _ _ ?_
      unfold vc117
      repeat (first | refine ⟨fun h => absurd (of_decide_eq_true h) (by omega), fun _ => ?_⟩ | refine ⟨fun _ => ?_, fun h => absurd (of_decide_eq_false h) (by omega)⟩)
      refine ⟨fun hq => ⟨rfl, hS.sub⟩, fun hq => ?_⟩
      simp only [bls] at hq; omega
  by_cases o11 : op = 11
  · have hw : wantB ds ss op num (nth T 0) = if num = 0 ∧ isArr ds (nth T 0) then some ([nth T 0, (nth ds (nth T 0 - 1)).frm], (nth ds (nth T 0 - 1)).to_) else none := by
      unfold wantB; rw [if_neg o0, if_neg o1, if_neg o5, if_neg o6, if_neg o9, if_neg o10, if_pos o11]
    by_cases hl2 : T.length = 2
    · obtain ⟨b, cc, z, q, hq1, hq2, hf⟩ := c_arrowAt (t := nth T 0) hx hsg.1.1
      have hTe : T = [nth T 0, nth T 1] := two_el hl2
      refine ⟨cc, (q && decide (nth T 1 = b)) && decide (num = 0), ?_, fun hq => ?_, fun hq => ?_⟩
      · refine of117 _ _ _ _ _ _ _ ?_
        unfold vc117
        repeat (first | refine ⟨fun h => absurd (of_decide_eq_true h) (by omega), fun _ => ?_⟩ | refine ⟨fun _ => ?_, fun h => absurd (of_decide_eq_false h) (by omega)⟩)
        refine ⟨fun hq => ?_, fun hq => ?_⟩
        · simp only [bls] at hq; omega
        refine go_ix hT (by omega) (by omega) ?_
        refine ld_int hT (by omega) (by omega) fun _ _ => ?_
        refine ⟨b, cc, z, q, hf, .refl _, ?_⟩
        refine go_ixg hT (fun _ => by omega) ?_
        refine ld_intg hT (fun _ => by omega) ?_
        exact ⟨rfl, .refl _⟩
      · simp only [Bool.and_eq_true, decide_eq_true_eq] at hq
        obtain ⟨⟨g1, g2⟩, g3⟩ := hq
        obtain ⟨e1, e2⟩ := hq2 g1
        unfold simB
        rw [hw, if_pos ⟨g3, hq1.1 g1⟩]
        dsimp only
        rw [if_pos (by rw [← e1, ← g2]; exact hTe), ← e2]
      · unfold simB
        rw [hw]
        by_cases hh : num = 0 ∧ isArr ds (nth T 0)
        · rw [if_pos hh]
          dsimp only
          have hqt := hq1.2 hh.2
          obtain ⟨e1, e2⟩ := hq2 hqt
          rw [if_neg]
          intro he
          rw [hqt, decide_eq_true hh.1] at hq
          simp only [Bool.true_and, Bool.and_true, decide_eq_false_iff_not] at hq
          apply hq
          rw [e1, he]
          rfl
        · rw [if_neg hh]
    · refine ⟨-1, false, ?_, fun hq => (by cases hq), fun hq => ?_⟩
      · refine of117 _ _ _ _ _ _ _ ?_
        unfold vc117
        repeat (first | refine ⟨fun h => absurd (of_decide_eq_true h) (by omega), fun _ => ?_⟩ | refine ⟨fun _ => ?_, fun h => absurd (of_decide_eq_false h) (by omega)⟩)
        refine ⟨fun hq => ⟨rfl, hS.sub⟩, fun hq => ?_⟩
        simp only [bls] at hq; omega
      · unfold simB
        rw [hw]
        split
        · rename_i W' n' he
          split at he
          · cases he
            rw [if_neg]
            intro he
            apply hl2
            rw [he]; rfl
          · cases he
        · rfl
  · refine ⟨-1, false, ?_, tyR_n (wantB_other (by omega))⟩
    refine of117 _ _ _ _ _ _ _ ?_
    unfold vc117
    repeat (first | refine ⟨fun h => absurd (of_decide_eq_true h) (by omega), fun _ => ?_⟩ | refine ⟨fun _ => ?_, fun h => absurd (of_decide_eq_false h) (by omega)⟩)
    exact ⟨rfl, .refl _⟩
end
end Go.Vc

namespace Go.Vc
open Go Go.Proofs Go.RowKit
set_option linter.all false
/-- signatures in memory, as the program holds them -/
structure Sg (v : World) (x s : Sl) (ds : List DeclD) (ss : List SigD) : Prop where
  hx : Read v x ds
  hs : Read v s ss
  sg : sigSigs ds ss
theorem Sg.mono {v w : World} {x y : Sl} {ds : List DeclD} {ss : List SigD} (h : Sg v x y ds ss) (hs : Sub v w) : Sg w x y ds ss := ⟨h.hx.mono hs, h.hs.mono hs, h.sg⟩
theorem Sg.sm {v : World} {x y : Sl} {ds : List DeclD} {ss : List SigD} (h : Sg v x y ds ss) : SmDs ds := h.sg.1.sm
def BtQ (ds : List DeclD) (ss : List SigD) (b : BlockD) : Prop := ∀ (v : World) (x s z xs : Sl) (vars : List Int), Sg v x s ds ss → Read v z vars → nonneg vars → Read v xs b.steps → InI b.result → vars.length + 4 * cntB b ≤ 10000 →
  Fn Tryz.prog 56 #[.agg #[x.val, s.val], z.val, .agg #[xs.val, .int .i64 b.result]] v (.int .i64 (gD (blkT ds ss vars b)))
/-- what a step's type is told to be -/
def StR (op n : Int) (q : Bool) (o : Option Int) : Prop := (q = true → (∃ t, o = some t) ∧ (¬ isCnt op → o = some n)) ∧ (q = false → o = none)
theorem StR.of {op n : Int} {q : Bool} {o : Option Int} (h : TyR n q o) : StR op n q o := ⟨fun hq => ⟨⟨n, h.1 hq⟩, fun _ => h.1 hq⟩, h.2⟩
section
variable {u v w : World} {x y z ax kx tx xs s fx : Sl} {vars args T W : List Int} {ds : List DeclD} {rs : List RoutD} {ss : List SigD} {n i t op num into : Int} {c : StepD} {b : BlockD} {kids : List BlockD} {fs : List (List Int)} {q : Bool}
theorem c_fieldsOfA (hx : Read v x ds) (hd : SmDs ds) (hn : InI n) : ∃ z : Sl, Read v z (conF ds n) ∧ Fn Tryz.prog 137 #[x.val, .int .i64 n] v z.val := by
  obtain ⟨z, hz, h⟩ := c_conAtA hx hd hn
  refine ⟨z, hz, ?_⟩
  refine of137 _ _ _ _ ?_
  unfold vc137
  exact ⟨_, z, h, rfl, .refl v⟩
theorem consL_len (hd : SmDs ds) : (consL ds n).length ≤ 3 := by
  unfold consL
  split
  · simp only [List.length_map, List.length_range]
    exact hd.cons _ (nth_mem (by omega) (by omega))
  · simp
theorem c_armFields (h : Sg v x s ds ss) (hn : InI n) : Mk Tryz.prog 116 #[.agg #[x.val, s.val], .int .i64 n] v fun r J => ∃ z, r = z.val ∧ Own v z (armF ds n) J := by
  refine of116 _ _ _ _ _ ?_
  unfold vc116
  have hcl := consL_len (n := n) h.sm
  refine Mk.use (c_implConsOf h.hx h.sm hn) (.refl v) ?_
  rintro _ w1 J1 ⟨z1, rfl, hO⟩ hS hs
  have r1n := (hO.read hS).n
  refine ⟨_, rfl, ?_⟩
  refine ⟨fun z2 i w => ∃ I, Own v z2 ((consL ds n).take i.toNat |>.map (conF ds)) I ∧ St v w (I ++ (J1 ++ [])) ∧ 0 ≤ i ∧ i ≤ (consL ds n).length, fun _ i _ => ((consL ds n).length - i).toNat, ⟨[], Own.nil v, hS, by omega, by omega⟩, ?_⟩
  rintro z2 i w ⟨I, hO2, hS, i0, i1⟩
  dsimp only
  have r1 := hO.read hS
  refine ⟨fun hi => ?_, fun hi => ?_⟩
  · simp only [bls] at hi
    refine go_ix r1 i0 (by omega) ?_
    refine ld_int r1 i0 (by omega) ?_
    intro c0 c1
    obtain ⟨z3, r3, hf⟩ := c_fieldsOfA (n := nth (consL ds n) i) h.hx h.sm ⟨c0, c1⟩
    refine ⟨z3, Trip.fr hf hS (fun r u' w' ⟨h1, h2⟩ _ h4 => ⟨h1, h4 h2⟩), ?_⟩
    refine St.build (α := List Int) (l := [conF ds (nth (consL ds n) i)]) hS (.cons (.list r3) .nil) rfl (by decide) ?_
    intro z4 w4 I4 hO4 hS4 hs4
    refine ⟨_, rfl, ?_⟩
    refine hO2.append hS4 (hO4.src hS4) (by simp; omega) (by decide) ?_
    intro z5 w5 I5 hO5 hS5
    refine ⟨_, rfl, ?_⟩
    refine go_wr (by omega) (by omega) ?_
    refine ⟨rfl, rfl, ⟨I5, ?_, hS5.to, by omega, by omega⟩, by omega⟩
    rw [take_nth i0 (by omega), List.map_append]
    exact hO5
  · simp only [bls] at hi
    rw [take_all (by omega)] at hO2
    exact ⟨I, hS.left, z2, rfl, hO2⟩
theorem c_kidsTypeI (h : Sg v x s ds ss) (hz : Read v z vars) (hv : nonneg vars) (hk : Read v kx kids) (hf : Read v fx fs) (hfl : kids.length = fs.length) (hk1 : 1 ≤ kids.length) (hfn : ∀ i : Int, nonneg (nth fs i) ∧ (nth fs i).length ≤ 3) (H : ∀ k ∈ kids, BtQ ds ss k) (hb : vars.length + 3 + 4 * cntK kids ≤ 10000) :
    Trip Tryz.prog 115 #[.agg #[x.val, s.val], z.val, kx.val, fx.val] v fun r w => ∃ (n : Int) (q : Bool), r = .tuple #[.int .i64 n, .bool q] ∧ TyR n q (same1 (kidsT ds ss vars fs kids)) ∧ Sub v w := by
  refine of115 _ _ _ _ _ _ _ ?_
  unfold vc115
  have hkn := hk.n
  have hkl := hk.le
  refine ⟨fun t i w => Sub v w ∧ 0 ≤ i ∧ i ≤ kids.length ∧ ∀ j : Int, 0 ≤ j → j < i → blkT ds ss (vars ++ nth fs j) (nth kids j) = some t, fun _ i _ => (kids.length - i).toNat, ⟨.refl v, by omega, by omega, fun j j0 j1 => by omega⟩, ?_⟩
  rintro t i w ⟨hw, i0, i1, hj⟩
  dsimp only
  refine ⟨fun hi => ?_, fun hi => ?_⟩
  · simp only [bls] at hi
    have hil : i < kids.length := by omega
    have hmem := nth_mem (l := kids) i0 hil
    have hcm := cntK_mem kids hmem
    obtain ⟨f1, e1, e2, j1, r1⟩ := (hk.src hw).ofBlockD i0 hil
    obtain ⟨row, ⟨g, rfl, hg⟩, hc⟩ := (hf.mono hw).row (i := i) i0 (by omega)
    have hfi := hfn i
    have hvn : nonneg (vars ++ nth fs i) := hv.app hfi.1
    refine go_ix hk i0 hil ?_
    refine ⟨f1, _, ⟨e1, e2⟩, ?_⟩
    refine go_ix hf i0 (by omega) ?_
    refine ⟨g, hc 0 _ rfl, ?_⟩
    refine St.build (α := List Int) (l := [vars, nth fs i]) (St.refl w) (.cons (.list (hz.mono hw)) (.cons (.list hg) .nil)) rfl (by decide) ?_
    intro z2 w2 I2 hO2 hS2 hs2
    refine ⟨_, rfl, hs2, ?_⟩
    refine Mk.usew (c_concat2 (hO2.read hS2) (by omega) (by omega)) hS2 ?_
    rintro _ w3 J3 ⟨z3, rfl, hO3⟩ hS3 hs3
    refine ⟨_, rfl, hs3, ?_⟩
    have r3 : Read w3 z3 (vars ++ nth fs i) := (hO3.ofInts (u' := w)).read hS3
    have hw3 : Sub v w3 := hw.trans hS3.sub
    have hT := H _ hmem w3 x s z3 f1 _ (h.mono hw3) r3 hvn (r1.mono hw3) j1 (by rw [List.length_append]; omega)
    refine hT.mono' ?_
    rintro _ w4 ⟨rfl, hs4⟩
    have hw4 := hw3.trans hs4
    refine ⟨_, rfl, fun hq => ⟨_, _, rfl, ⟨fun hq => (by cases hq), fun _ => ?_⟩, hw4⟩, fun hq => ?_⟩
    · simp only [bls] at hq
      cases hs : same1 (kidsT ds ss vars fs kids) with
      | none => rfl
      | some t' =>
        exfalso
        have h1 := kids_some hs i0 hil
        rw [h1, gD_some] at hq
        have hnn := blkT_nn h.sg _ _ _ hvn h1
        rcases hq with hq | ⟨hq, hq2⟩
        · omega
        · have h2 := hj 0 (by omega) (by omega)
          rw [kids_some hs (by omega) (by omega)] at h2
          cases h2
          exact hq2 rfl
    · simp only [bls] at hq
      refine go_wr (by omega) (by omega) ?_
      refine ⟨rfl, rfl, ⟨hw4, by omega, by omega, fun j j0 j1 => ?_⟩, by omega⟩
      by_cases e : j = i
      · subst e; exact gD_eq (by omega)
      · have h2 := hj j j0 (by omega)
        rcases hq.2 with h3 | h3
        · omega
        · rw [h3]; exact h2
  · simp only [bls] at hi
    refine ⟨_, _, rfl, ⟨fun _ => ?_, fun hq => (by cases hq)⟩, hw⟩
    exact kids_all (t := t) (by intro hn; rw [hn] at hk1; simp at hk1) fun j j0 j1 => hj j j0 (by omega)
theorem armF_nn3 (hd : typesOk ds) (i : Int) : nonneg (nth (armF ds n) i) ∧ (nth (armF ds n) i).length ≤ 3 := by
  unfold armF nth
  simp only [List.getD, List.getElem?_map]
  cases (consL ds n)[i.toNat]? with
  | none => exact (show nonneg ([] : List Int) ∧ ([] : List Int).length ≤ 3 from ⟨fun t ht => (by cases ht), Nat.zero_le _⟩)
  | some c => exact ⟨conF_nn hd c, conF_len3 hd c⟩
theorem typs_take (h0 : 0 ≤ i) (h1 : i < args.length) : typs vars (args.take (i + 1).toNat) = typs vars (args.take i.toNat) ++ [nth vars (nth args i)] := by
  rw [take_nth h0 h1]; unfold typs; rw [List.map_append]; rfl
theorem c_stepTypeI (h : Sg v x s ds ss) (hz : Read v z vars) (hv : nonneg vars) (ha : Read v ax c.args) (hk : Read v kx c.kids) (hi1 : InI c.num) (hi2 : InI c.into) (H : ∀ k ∈ c.kids, BtQ ds ss k) (hb : vars.length + 3 + 4 * cntS c ≤ 10000) :
    Trip Tryz.prog 84 #[.agg #[x.val, s.val], z.val, .agg #[.int .i64 c.op, .int .i64 c.num, .int .i64 c.into, ax.val, kx.val]] v fun r w => ∃ (n : Int) (q : Bool), r = .tuple #[.int .i64 n, .bool q] ∧ StR c.op n q (stpT ds ss vars c) ∧ Sub v w := by
  classical
  refine of84 _ _ _ _ _ _ _ _ _ _ ?_
  unfold vc84
  have han := ha.n
  have hal := ha.le
  have hkn := hk.n
  have hzn := hz.n
  have hsn := h.hs.n
  obtain ⟨hi3, hi4⟩ := hi2
  rw [cntS_eq] at hb
  have no : ∀ (w : World), Sub v w → stpT ds ss vars c = none → ∃ (n : Int) (q : Bool), Value.tuple #[.int .i64 (-1), .bool false] = .tuple #[.int .i64 n, .bool q] ∧ StR c.op n q (stpT ds ss vars c) ∧ Sub v w :=
    fun w hw hn => ⟨-1, false, rfl, ⟨fun hq => (by cases hq), fun _ => hn⟩, hw⟩
  refine St.make0 (α := Int) (St.refl v) (by omega) (by omega) (by decide) ?_
  intro z1 w1 I1 hO1 hS1 hs1
  refine ⟨_, rfl, ?_⟩
  refine ⟨fun z2 i w => ∃ I, Own v z2 (typs vars (c.args.take i.toNat)) I ∧ St v w (I ++ []) ∧ 0 ≤ i ∧ i ≤ c.args.length ∧ ∀ j : Int, 0 ≤ j → j < i → 0 ≤ nth c.args j ∧ nth c.args j < vars.length, fun _ i _ => (c.args.length - i).toNat, ⟨I1, hO1, hS1, by omega, by omega, fun j j0 j1 => by omega⟩, ?_⟩
  clear hO1 hS1 hs1
  rintro z2 i w ⟨I, hO, hS, i0, i1, hj⟩
  dsimp only
  have hw := hS.sub
  refine ⟨fun hi => ?_, fun hi => ?_⟩
  · simp only [bls] at hi
    refine go_ix ha i0 (by omega) ?_
    refine ld_int (ha.mono hw) i0 (by omega) ?_
    intro c0 c1
    refine ⟨fun hq => ?_, fun hq => ?_⟩
    · simp only [bls] at hq
      refine no w hw (stp_out fun hin => ?_)
      have := argsIn_nth hin i0 (by omega)
      omega
    · simp only [bls] at hq
      refine go_ix hz (by omega) (by omega) ?_
      refine ld_int (hz.mono hw) (by omega) (by omega) ?_
      intro d0 d1
      refine St.build (α := Int) (l := [nth vars (nth c.args i)]) hS (.cons (.int ⟨d0, d1⟩) .nil) rfl (by decide) ?_
      intro z3 w3 I3 hO3 hS3 hs3
      refine ⟨_, rfl, ?_⟩
      refine hO.append hS3 (hO3.src hS3) (by rw [typs_len]; simp; omega) (by decide) ?_
      intro z4 w4 I4 hO4 hS4
      refine ⟨_, rfl, ?_⟩
      refine go_wr (by omega) (by omega) ?_
      refine ⟨rfl, rfl, rfl, rfl, rfl, rfl, rfl, ⟨I4, ?_, hS4.to, by omega, by omega, fun j j0 j1 => ?_⟩, by omega⟩
      · rw [typs_take i0 (by omega)]; exact hO4
      · by_cases e : j = i
        · subst e; omega
        · exact hj j j0 (by omega)
  simp only [bls] at hi
  rw [take_all (by omega)] at hO
  have hin : argsIn vars c.args := argsIn_of fun j j0 j1 => hj j j0 (by omega)
  have hT := hO.read hS
  have hTn := hT.n
  rw [typs_len] at hTn
  clear hj
  have hg : (((!decide (c.op = 6)) || (decide (c.into < 1))) || (decide (c.into > (z.n : Int)))) = false → 0 ≤ c.into - 1 ∧ c.into - 1 < vars.length := fun hh => by simp only [bls] at hh; omega
  refine ⟨c.into - 1, fun hh _ => ?_, fun hh _ => ?_, nth vars (c.into - 1), fun hh _ => ?_, fun hq => ?_, fun hq => ?_⟩
  · have := hg hh
    exact inK_i64 (by omega) (by omega)
  · exact hz.ix (hg hh).1 (hg hh).2
  · exact ((hz.mono hw).int (hg hh).1 (hg hh).2).1
  · simp only [bls] at hq
    refine no w hw (stp_into fun hh => ?_)
    rcases hh with hh | ⟨h1, h2, h3, h4⟩ <;> omega
  simp only [bls] at hq
  have hinto : intoIn vars c.op c.into := by
    by_cases h0 : c.into = 0
    · exact .inl h0
    · exact .inr ⟨by omega, by omega, by omega, by omega⟩
  clear hq hg
  refine ⟨_, c_isCounting, fun hq => ?_, fun hq => ?_⟩
  · simp only [bls] at hq
    have hcn : isCnt c.op := by unfold isCnt; omega
    have heq := stp_cnt (ds := ds) (ss := ss) hinto hcn
    have hstp : stpT ds ss vars c = if cntOk ds c.op c.num (typs vars c.args) ∧ c.kids.length = 0 then some 0 else none := by
      rw [stpT_eq, if_pos ⟨hin, hinto⟩, if_pos hcn]
    have h1 : decide ((z2.n : Int) = 1) = true → c.args.length = 1 := fun hh => by simp only [bls] at hh; omega
    refine go_ixg hT (fun hh => by have := h1 hh; rw [typs_len]; omega) ?_
    refine ld_intg hT (fun hh => by have := h1 hh; rw [typs_len]; omega) ?_
    have hfin : ∀ (q : Bool), (q = true ↔ (cntOk ds c.op c.num (typs vars c.args) ∧ c.kids.length = 0)) → StR c.op (-1) q (stpT ds ss vars c) := by
      intro q hqi
      rw [hstp]
      refine ⟨fun hh => ⟨⟨0, if_pos (hqi.1 hh)⟩, fun hn => absurd hcn hn⟩, fun hh => if_neg fun h2 => ?_⟩
      rw [hqi.2 h2] at hh; cases hh
    refine ⟨fun hq2 => ?_, fun hq2 => ?_⟩
    · simp only [bls] at hq2
      refine go_ix hT (by omega) (by rw [typs_len]; omega) ?_
      refine ld_int hT (by omega) (by rw [typs_len]; omega) ?_
      intro _ _
      obtain ⟨b, cc, g, q, k1, k2, k3⟩ := c_arrowAt (t := nth (typs vars c.args) 0) (h.hx.mono hw) h.sm.len
      refine ⟨b, cc, g, q, k3, .refl w, -1, !q, rfl, hfin _ ?_, hw⟩
      constructor
      · intro hh
        simp only [bls] at hh
        refine ⟨⟨by rw [typs_len]; omega, by omega, by omega, fun _ hA => ?_⟩, by omega⟩
        rw [k1.2 hA] at hh; cases hh
      · rintro ⟨⟨_, _, _, h4⟩, _⟩
        cases hqv : q with
        | false => rfl
        | true => exact absurd (k1.1 hqv) (h4 (by omega))
    · refine ⟨-1, _, rfl, hfin _ ?_, hw⟩
      simp only [bls] at hq2
      constructor
      · intro hh
        simp only [bls] at hh
        refine ⟨⟨by rw [typs_len]; omega, by omega, by omega, fun ho => ?_⟩, by omega⟩
        exfalso
        omega
      · rintro ⟨⟨g1, g2, g3, _⟩, g5⟩
        rw [typs_len] at g1
        simp only [bls]
        omega
  have hcn : ¬ isCnt c.op := by
    simp only [bls] at hq
    unfold isCnt; omega
  clear hq
  by_cases o7 : c.op = 7
  · repeat (first | refine ⟨fun h => absurd (of_decide_eq_true h) (by omega), fun _ => ?_⟩ | refine ⟨fun _ => ?_, fun h => absurd (of_decide_eq_false h) (by omega)⟩)
    have h1 : (!decide ((z2.n : Int) = 1)) = false → c.args.length = 1 := fun hh => by simp only [bls] at hh; omega
    refine go_ixg hT (fun hh => by have := h1 hh; rw [typs_len]; omega) ?_
    refine ld_intg hT (fun hh => by have := h1 hh; rw [typs_len]; omega) ?_
    have hT1 : typs vars c.args = [0] ↔ (c.args.length = 1 ∧ nth (typs vars c.args) 0 = 0) := by
      constructor
      · intro he
        have := congrArg List.length he
        rw [typs_len] at this
        exact ⟨by simpa using this, by rw [he]; rfl⟩
      · rintro ⟨h1, h2⟩
        refine eq_nth (by rw [typs_len, h1]; rfl) fun j j0 j1 => ?_
        rw [typs_len] at j1
        rw [show j = 0 from by omega, h2]; rfl
    refine ⟨fun hq => ?_, fun hq => ?_⟩
    · simp only [bls] at hq
      refine no w hw ?_
      rw [stp_7 hin hinto o7, if_neg]
      rintro ⟨g1, g2, g3⟩
      have := hT1.1 g1
      omega
    · simp only [bls] at hq
      have hTe := hT1.2 ⟨by omega, by omega⟩
      refine St.make (α := List Int) [] hS ⟨Sl.mk none 0 0, rfl, ReadB.nil⟩ (by omega) (by omega) (by decide) ?_
      intro z3 w3 I3 hO3 hS3 hs3
      refine ⟨_, rfl, hs3, ?_⟩
      have hw3 := hw.trans hs3
      refine (c_kidsTypeI (h.mono hw3) (hz.mono hw3) hv (hk.mono hw3) (hO3.read hS3) (by simp; omega) (by omega) (fun i => ?_) H hb).mono' ?_
      · have : nth (List.replicate (2 : Int).toNat ([] : List Int)) i = [] := by
          unfold nth
          simp only [List.getD, List.getElem?_replicate]
          split <;> rfl
        rw [this]
        exact ⟨fun t ht => (by cases ht), by simp⟩
      rintro _ w4 ⟨n, q, rfl, hR, hs4⟩
      refine ⟨n, q, rfl, n, q, rfl, ?_, hw3.trans hs4⟩
      rw [stp_7 hin hinto o7, if_pos ⟨hTe, by omega, by omega⟩]
      exact .of hR
  by_cases o8 : c.op = 8
  · repeat (first | refine ⟨fun h => absurd (of_decide_eq_true h) (by omega), fun _ => ?_⟩ | refine ⟨fun _ => ?_, fun h => absurd (of_decide_eq_false h) (by omega)⟩)
    have hS' := hS
    refine Mk.use (c_armFields h hi1) hS ?_
    rintro _ w3 J3 ⟨z3, rfl, hO3⟩ hS3 hs3
    refine ⟨_, rfl, ?_⟩
    have hT := hO.read hS3
    have r3 := hO3.read hS3
    have r3n := r3.n
    have hw3 := hw.trans hs3
    have h1 : (!decide ((z2.n : Int) = 1)) = false → c.args.length = 1 := fun hh => by simp only [bls] at hh; omega
    refine go_ixg hT (fun hh => by have := h1 hh; rw [typs_len]; omega) ?_
    refine ld_intg hT (fun hh => by have := h1 hh; rw [typs_len]; omega) ?_
    have hT1 : typs vars c.args = [c.num] ↔ (c.args.length = 1 ∧ nth (typs vars c.args) 0 = c.num) := by
      constructor
      · intro he
        have := congrArg List.length he
        rw [typs_len] at this
        exact ⟨by simpa using this, by rw [he]; rfl⟩
      · rintro ⟨h1, h2⟩
        refine eq_nth (by rw [typs_len, h1]; rfl) fun j j0 j1 => ?_
        rw [typs_len] at j1
        rw [show j = 0 from by omega, h2]; rfl
    refine ⟨fun hq => ?_, fun hq => ?_⟩
    · simp only [bls] at hq
      refine no w3 hw3 ?_
      rw [stp_8 hin hinto o8, if_neg]
      rintro ⟨g1, g2, g3⟩
      have := hT1.1 g1
      omega
    · simp only [bls] at hq
      have hTe := hT1.2 ⟨by omega, by omega⟩
      refine (c_kidsTypeI (h.mono hw3) (hz.mono hw3) hv (hk.mono hw3) r3 (by omega) (by omega) (fun i => armF_nn3 h.sg.1 i) H hb).mono' ?_
      rintro _ w4 ⟨n, q, rfl, hR, hs4⟩
      refine ⟨n, q, rfl, n, q, rfl, ?_, hw3.trans hs4⟩
      rw [stp_8 hin hinto o8, if_pos ⟨hTe, by omega, by omega⟩]
      exact .of hR
  repeat (first | refine ⟨fun h => absurd (of_decide_eq_true h) (by omega), fun _ => ?_⟩ | refine ⟨fun _ => ?_, fun h => absurd (of_decide_eq_false h) (by omega)⟩)
  have hgl : (((decide (c.op = 10)) && (decide (c.num ≥ 0))) && (decide (c.num < (s.n : Int)))) = true → 0 ≤ c.num ∧ c.num < ss.length := fun hh => by simp only [bls] at hh; omega
  have hlx : ∃ g : Sl, (0 ≤ c.num ∧ c.num < ss.length → w.cell? ((elA s c.num 3).add 1) = some g.val ∧ g.n = (nth ss c.num).lent.length) := by
    by_cases hh : 0 ≤ c.num ∧ c.num < ss.length
    · obtain ⟨px', lx', e1, e2, e3, i1, r1, r2⟩ := ((h.hs.mono hw).src (.refl w)).ofSigD hh.1 hh.2
      exact ⟨lx', fun _ => ⟨e2, r2.n⟩⟩
    · exact ⟨Sl.mk none 0 0, fun h2 => absurd h2 hh⟩
  obtain ⟨g, hgx⟩ := hlx
  refine ⟨fun hh _ => h.hs.ix (hgl hh).1 (hgl hh).2, g, fun hh _ => (hgx (hgl hh)).1, fun hq => ?_, fun hq => ?_⟩
  · simp only [bls] at hq
    refine no w hw ?_
    rcases hq with hq | hq
    · exact stp_kids (by omega) o7 o8
    · by_cases hk0 : c.kids.length = 0
      · rw [(stp_simple hinto o7 o8 hcn hk0).1 hin]
        have hgn := (hgx ⟨by omega, by omega⟩).2
        unfold simB wantB
        rw [if_neg (by omega), if_neg (by omega), if_neg (by omega), if_neg (by omega), if_neg (by omega), if_pos (by omega), if_neg fun hh => by omega]
      · exact stp_kids hk0 o7 o8
  · simp only [bls] at hq
    have hk0 : c.kids.length = 0 := by omega
    obtain ⟨n, q, hf, hR⟩ := c_simpleTypeA (op := c.op) (num := c.num) (h.hx.mono hw) (h.hs.mono hw) hT h.sg hi1 (fun o10 n0 n1 => by have := (hgx ⟨n0, n1⟩).2; omega)
    refine ⟨n, q, hf, n, q, rfl, ?_, hw⟩
    rw [(stp_simple hinto o7 o8 hcn hk0).1 hin]
    exact .of hR
end
end Go.Vc

namespace Go.Vc
open Go Go.Proofs Go.RowKit
set_option linter.all false
/-- a normal form is valid -/
def nrmOk (ds : List DeclD) (rs : List RoutD) : Prop := sigSigs ds (rs.map sgOf) ∧ ∀ i : Int, 0 ≤ i → i < rs.length → cntB (nth rs i).body ≤ 600 ∧ blkT ds (rs.map sgOf) (nth rs i).params (nth rs i).body = some (nth rs i).result
def CntP (b : BlockD) : Prop := ∀ (v : World) (xs : Sl) (left : Int), Read v xs b.steps → 0 ≤ left → left ≤ 600 → Fn Tryz.prog 73 #[.agg #[xs.val, .int .i64 b.result], .int .i64 left] v (.int .i64 (if (cntB b : Int) ≤ left then left - cntB b else -1))
def CntQ (b : BlockD) : Prop := ∀ (u w : World) (xs : Sl) (n : Int) (a : Addr) (I R : Items), Read u xs b.steps → 0 ≤ n → n ≤ 600 → Cel a [.int .i64 n] I → St u w (I ++ R) →
  Trip Tryz.prog 82 #[.agg #[xs.val, .int .i64 b.result], .pointer (some (a.add 0))] w fun r w' => (n + cntB b ≤ 600 → r = .bool true ∧ ∃ I', Cel a [.int .i64 (n + cntB b)] I' ∧ St u w' (I' ++ R)) ∧ (600 < n + cntB b → r = .bool false ∧ Sub u w')
section
variable {u v w : World} {x y z ax kx tx xs s fx : Sl} {vars args T W : List Int} {ds : List DeclD} {rs : List RoutD} {ss : List SigD} {n i t op num into left : Int} {c : StepD} {b : BlockD} {kids : List BlockD} {fs : List (List Int)} {q : Bool} {a : Addr} {I R L : Items}
theorem drop_cons {α : Type} [Inhabited α] {l : List α} {i : Int} (h0 : 0 ≤ i) (h1 : i < l.length) : l.drop i.toNat = nth l i :: l.drop (i + 1).toNat := by
  rw [show (i + 1).toNat = i.toNat + 1 from by omega]
  have := nth_get h0 h1
  rw [List.drop_eq_getElem_cons (by omega)]
  congr 1
  rw [List.getElem?_eq_getElem (by omega)] at this
  exact Option.some.inj this
theorem drop_end {α : Type} {l : List α} {i : Int} (h1 : (l.length : Int) ≤ i) : l.drop i.toNat = [] := List.drop_eq_nil_of_le (by omega)
theorem cntL_nil : cntL [] = 0 := by rw [cntL]
theorem cntK_nil : cntK [] = 0 := by rw [cntK]
theorem c_blockTypeI (b : BlockD) : BtQ ds ss b := by
  refine blk_ind (P := BtQ ds ss) (fun b ih => ?_) b
  intro v x s z xs vars h hz hv hxs hi hb
  refine of56 _ _ _ _ _ _ _ ?_
  unfold vc56
  have hxn := hxs.n
  have hxl := hxs.le
  rw [cntB_eq] at hb
  rw [blkT_eq]
  refine Mk.use (c_cloneInts hz) (.refl v) ?_
  rintro _ w1 J1 ⟨z1, rfl, hO⟩ hS hs
  refine ⟨_, rfl, ?_⟩
  refine ⟨fun z2 i w => ∃ (I : Items) (inner : List Int), Own v z2 inner I ∧ St v w (I ++ []) ∧ 0 ≤ i ∧ i ≤ b.steps.length ∧ nonneg inner ∧ stpsT ds ss vars b.steps = stpsT ds ss inner (b.steps.drop i.toNat) ∧ inner.length + 4 * cntL (b.steps.drop i.toNat) ≤ 10000, fun _ i _ => (b.steps.length - i).toNat, ⟨J1, vars, hO, hS, by omega, by omega, hv, rfl, hb⟩, ?_⟩
  clear hO hS hs
  rintro z2 i w ⟨I, inner, hO, hS, i0, i1, hnn, heq, hbd⟩
  dsimp only
  have hz2 := hO.read hS
  have hz2n := hz2.n
  have hw := hS.sub
  refine ⟨fun hc => ?_, fun hc => ?_⟩
  · simp only [bls] at hc
    have hil : i < b.steps.length := by omega
    have hmem := nth_mem (l := b.steps) i0 hil
    have hdr := drop_cons (l := b.steps) i0 hil
    obtain ⟨f1, f2, e1, e2, e3, e4, e5, j1, j2, j3, r1, r2⟩ := (hxs.src hw).ofStepD i0 hil
    refine go_ix hxs i0 hil ?_
    rw [hdr, cntL_cons] at hbd
    rw [hdr, stpsT_cons] at heq
    refine ⟨_, _, _, f1, f2, ⟨e1, e2, e3, e4, e5⟩, ?_⟩
    refine (c_stepTypeI (c := nth b.steps i) (h.mono hw) hz2 hnn (r1.mono hw) (r2.mono hw) j2 j3 (ih _ hmem) (by omega)).mono' ?_
    rintro _ w2 ⟨n, q, rfl, hR, hs2⟩
    replace hS := hS.sub_w hs2
    refine ⟨n, q, rfl, fun hq => ⟨?_, hS.sub⟩, fun hq => ?_⟩
    · simp only [bls] at hq
      rw [hR.2 hq] at heq
      rw [heq]; rfl
    · simp only [bls] at hq
      obtain ⟨⟨t, ht⟩, hnc⟩ := hR.1 hq
      refine ⟨_, c_isCounting, fun hd => ?_, fun hd => ?_⟩
      · have hcn : ¬ isCnt (nth b.steps i).op := by simp only [bls] at hd; unfold isCnt; omega
        have htn := hnc hcn
        rw [ht] at htn
        cases htn
        rw [ht] at heq
        dsimp only at heq
        rw [if_neg hcn] at heq
        have hnn2 := stpT_nn h.sg hnn ht
        refine St.build (α := Int) (l := [n]) hS (.cons (.int ⟨by omega, by omega⟩) .nil) rfl (by decide) ?_
        intro z3 w3 I3 hO3 hS3 hs3
        refine ⟨_, rfl, ?_⟩
        refine hO.append hS3 (hO3.src hS3) (by simp; omega) (by decide) ?_
        intro z4 w4 I4 hO4 hS4
        refine ⟨_, rfl, ?_⟩
        refine go_wr (by omega) (by omega) ?_
        refine ⟨rfl, rfl, rfl, rfl, ⟨I4, _, hO4, hS4.to, by omega, by omega, hnn.app fun t ht => by rw [List.mem_singleton.1 ht]; exact hnn2, heq, ?_⟩, by omega⟩
        rw [List.length_append]
        simp only [List.length_singleton]
        omega
      · have hcn : isCnt (nth b.steps i).op := by simp only [bls] at hd; unfold isCnt; omega
        rw [ht] at heq
        dsimp only at heq
        rw [if_pos hcn] at heq
        refine go_wr (by omega) (by omega) ?_
        exact ⟨rfl, rfl, rfl, rfl, ⟨I, inner, hO, hS, by omega, by omega, hnn, heq, by omega⟩, by omega⟩
  · simp only [bls] at hc
    rw [drop_end (by omega), stpsT_nil] at heq
    rw [heq]
    dsimp only
    refine ⟨fun hq => ⟨?_, hw⟩, fun hq => ?_⟩
    · simp only [bls] at hq
      rw [if_neg (by omega)]; rfl
    · simp only [bls] at hq
      refine go_ix hz2 (by omega) (by omega) ?_
      refine ld_int hz2 (by omega) (by omega) ?_
      intro _ _
      refine ⟨?_, hw⟩
      rw [if_pos (by omega)]; rfl
theorem c_stepsLeft (b : BlockD) : CntP b := by
  refine blk_ind (P := CntP) (fun b ih => ?_) b
  intro v xs left hxs h0 h6
  refine of73 _ _ _ _ _ ?_
  unfold vc73
  have hxn := hxs.n
  have hxl := hxs.le
  rw [cntB_eq]
  refine ⟨fun l i w => w = v ∧ 0 ≤ i ∧ i ≤ b.steps.length ∧ 0 ≤ l ∧ l ≤ 600 ∧ l + cntL b.steps = left + cntL (b.steps.drop i.toNat), fun _ i _ => (b.steps.length - i).toNat, ⟨rfl, by omega, by omega, h0, h6, by rfl⟩, ?_⟩
  rintro l i _ ⟨rfl, i0, i1, l0, l1, hl⟩
  dsimp only
  refine ⟨fun hc => ?_, fun hc => ?_⟩
  · simp only [bls] at hc
    have hil : i < b.steps.length := by omega
    have hmem := nth_mem (l := b.steps) i0 hil
    rw [drop_cons i0 hil, cntL_cons, cntS_eq] at hl
    obtain ⟨f1, f2, e1, e2, e3, e4, e5, j1, j2, j3, r1, r2⟩ := (hxs.src (.refl _)).ofStepD i0 hil
    have r2n := r2.n
    have r2l := r2.le
    refine ⟨fun hq => ⟨?_, .refl _⟩, fun hq => ?_⟩
    · simp only [bls] at hq
      rw [if_neg (by omega)]
    simp only [bls] at hq
    refine go_wr (by omega) (by omega) ?_
    rename_i v
    refine ⟨fun l' k w => w = v ∧ 0 ≤ k ∧ k ≤ (nth b.steps i).kids.length ∧ 0 ≤ l' ∧ l' ≤ 600 ∧ l' + cntK (nth b.steps i).kids = l - 1 + cntK ((nth b.steps i).kids.drop k.toNat), fun _ k _ => ((nth b.steps i).kids.length - k).toNat, ⟨rfl, by omega, by omega, by omega, by omega, by rfl⟩, ?_⟩
    rintro l' k _ ⟨rfl, k0, k1, p0, p1, hk⟩
    dsimp only
    refine go_ix hxs i0 hil ?_
    refine ⟨f2, e5, fun hc => ?_, fun hc => ?_⟩
    · simp only [bls] at hc
      have hkl : k < (nth b.steps i).kids.length := by omega
      have hmk := nth_mem (l := (nth b.steps i).kids) k0 hkl
      rw [drop_cons k0 hkl, cntK_cons] at hk
      obtain ⟨g1, d1, d2, m1, t1⟩ := (r2.src (.refl _)).ofBlockD k0 hkl
      refine go_ix hxs i0 hil ?_
      refine ⟨f2, e5, ?_⟩
      refine go_ix r2 k0 hkl ?_
      refine ⟨g1, _, ⟨d1, d2⟩, _, ih _ hmem _ hmk _ _ _ t1 p0 p1, fun hq => ⟨?_, .refl _⟩, fun hq => ?_⟩
      · simp only [bls] at hq
        have hgt : ¬ ((cntB (nth (nth b.steps i).kids k) : Int) ≤ l') := fun hh => by rw [if_pos hh] at hq; omega
        rw [if_neg (by omega)]
      · simp only [bls] at hq
        have hle : (cntB (nth (nth b.steps i).kids k) : Int) ≤ l' := Classical.byContradiction fun hh => by rw [if_neg hh] at hq; omega
        rw [if_pos hle] at hq ⊢
        refine go_wr (by omega) (by omega) ?_
        exact ⟨rfl, rfl, ⟨rfl, by omega, by omega, by omega, by omega, by omega⟩, by omega⟩
    · simp only [bls] at hc
      rw [drop_end (by omega), cntK_nil] at hk
      refine go_wr (by omega) (by omega) ?_
      exact ⟨rfl, rfl, ⟨rfl, by omega, by omega, by omega, by omega, by omega⟩, by omega⟩
  · simp only [bls] at hc
    rw [drop_end (by omega), cntL_nil] at hl
    refine ⟨?_, .refl _⟩
    rw [if_pos (by omega)]
    congr 1; omega
theorem c_stepsOf (hxs : Read v xs b.steps) : Fn Tryz.prog 47 #[.agg #[xs.val, .int .i64 b.result]] v (.int .i64 (if cntB b ≤ 600 then cntB b else -1)) := by
  refine of47 _ _ _ _ ?_
  unfold vc47
  refine ⟨_, c_stepsLeft b v xs 600 hxs (by omega) (by omega), fun hq => ⟨?_, .refl v⟩, fun hq => ?_⟩
  · simp only [bls] at hq
    rw [if_neg fun hh => by rw [if_pos (by omega)] at hq; omega]
  · simp only [bls] at hq
    have hle : cntB b ≤ 600 := Classical.byContradiction fun hh => by rw [if_neg (by omega)] at hq; omega
    rw [if_pos (by omega)] at hq ⊢
    refine go_wr (by omega) (by omega) ?_
    refine ⟨?_, .refl v⟩
    rw [if_pos hle]
    congr 1; omega
theorem c_countSteps (b : BlockD) : CntQ b := by
  refine blk_ind (P := CntQ) (fun b ih => ?_) b
  intro u w xs n a I R hxs h0 h6 hC hS
  refine of82 _ _ _ _ _ ?_
  unfold vc82
  have hxn := hxs.n
  have hxl := hxs.le
  rw [cntB_eq]
  refine ⟨fun i w => ∃ (I : Items) (m : Int), Cel a [.int .i64 m] I ∧ St u w (I ++ R) ∧ 0 ≤ i ∧ i ≤ b.steps.length ∧ 0 ≤ m ∧ m ≤ 600 ∧ m + cntL (b.steps.drop i.toNat) = n + cntL b.steps, fun i _ => (b.steps.length - i).toNat, ⟨I, n, hC, hS, by omega, by omega, h0, h6, by rfl⟩, ?_⟩
  clear hC hS
  rintro i w ⟨I, m, hC, hS, i0, i1, m0, m1, hm⟩
  dsimp only
  refine ⟨fun hc => ?_, fun hc => ?_⟩
  · simp only [bls] at hc
    have hil : i < b.steps.length := by omega
    have hmem := nth_mem (l := b.steps) i0 hil
    rw [drop_cons i0 hil, cntL_cons, cntS_eq] at hm
    obtain ⟨f1, f2, e1, e2, e3, e4, e5, j1, j2, j3, r1, r2⟩ := (hxs.src hS.sub).ofStepD i0 hil
    have r2n := r2.n
    have r2l := r2.le
    refine go_ix hxs i0 hil ?_
    refine ⟨_, _, _, f1, f2, ⟨e1, e2, e3, e4, e5⟩, _, hC.load hS rfl, ?_⟩
    refine go_wr (by omega) (by omega) ?_
    refine hC.store hS (by simp) ?_
    intro w1 I1 hC hS
    simp [putR] at hC
    refine ⟨_, hC.load hS rfl, fun hq => ?_, fun hq => ?_⟩
    · simp only [bls] at hq
      exact ⟨fun hh => by omega, fun _ => ⟨rfl, hS.sub⟩⟩
    simp only [bls] at hq
    refine ⟨fun k w => ∃ (I : Items) (m' : Int), Cel a [.int .i64 m'] I ∧ St u w (I ++ R) ∧ 0 ≤ k ∧ k ≤ (nth b.steps i).kids.length ∧ 0 ≤ m' ∧ m' ≤ 600 ∧ m' + cntK ((nth b.steps i).kids.drop k.toNat) = m + 1 + cntK (nth b.steps i).kids, fun k _ => ((nth b.steps i).kids.length - k).toNat, ⟨I1, m + 1, hC, hS, by omega, by omega, by omega, by omega, by rfl⟩, ?_⟩
    clear hC hS
    rintro k w2 ⟨I2, m', hC, hS, k0, k1, p0, p1, hk⟩
    dsimp only
    refine ⟨fun hc => ?_, fun hc => ?_⟩
    · simp only [bls] at hc
      have hkl : k < (nth b.steps i).kids.length := by omega
      have hmk := nth_mem (l := (nth b.steps i).kids) k0 hkl
      rw [drop_cons k0 hkl, cntK_cons] at hk
      obtain ⟨g1, d1, d2, q1, t1⟩ := (r2.src hS.sub).ofBlockD k0 hkl
      refine go_ix r2 k0 hkl ?_
      refine ⟨g1, _, ⟨d1, d2⟩, ?_⟩
      refine (ih _ hmem _ hmk _ _ _ _ _ _ _ t1 p0 p1 hC hS).mono' ?_
      rintro r w3 ⟨hA, hB⟩
      rcases Int.lt_or_le 600 (m' + cntB (nth (nth b.steps i).kids k)) with hgt | hle
      · obtain ⟨rfl, hs3⟩ := hB hgt
        refine ⟨false, rfl, fun _ => ⟨fun hh => by omega, fun _ => ⟨rfl, hs3⟩⟩, fun hq => (by cases hq)⟩
      · obtain ⟨rfl, I3, hC3, hS3⟩ := hA hle
        refine ⟨true, rfl, fun hq => (by cases hq), fun _ => ?_⟩
        refine go_wr (by omega) (by omega) ?_
        exact ⟨rfl, rfl, rfl, rfl, rfl, rfl, rfl, ⟨I3, _, hC3, hS3, by omega, by omega, by omega, by omega, by omega⟩, by omega⟩
    · simp only [bls] at hc
      rw [drop_end (by omega), cntK_nil] at hk
      refine go_wr (by omega) (by omega) ?_
      exact ⟨rfl, rfl, ⟨I2, m', hC, hS, by omega, by omega, by omega, by omega, by omega⟩, by omega⟩
  · simp only [bls] at hc
    rw [drop_end (by omega), cntL_nil] at hm
    have e : m = n + cntL b.steps := by omega
    subst e
    exact ⟨fun _ => ⟨rfl, I, hC, hS⟩, fun hh => by omega⟩
theorem c_implStepsOf (hxs : Read v xs b.steps) : Fn Tryz.prog 55 #[.agg #[xs.val, .int .i64 b.result]] v (.int .i64 (if cntB b ≤ 600 then cntB b else -1)) := by
  refine of55 _ _ _ _ ?_
  unfold vc55
  refine St.box (vals := [.int .i64 0]) (St.refl v) fun a w1 I1 hC hS hs => ?_
  refine hC.store hS (by simp) ?_
  intro w2 I2 hC hS
  simp [putR] at hC
  refine (c_countSteps b v w2 xs 0 a I2 [] hxs (by omega) (by omega) hC hS).mono' ?_
  rintro r w3 ⟨hA, hB⟩
  by_cases hle : cntB b ≤ 600
  · obtain ⟨rfl, I3, hC3, hS3⟩ := hA (by omega)
    refine ⟨true, rfl, fun hq => (by cases hq), fun _ => ⟨_, hC3.load hS3 rfl, ?_, hS3.sub⟩⟩
    rw [if_pos hle]
    congr 1; omega
  · obtain ⟨rfl, hs3⟩ := hB (by omega)
    refine ⟨false, rfl, fun _ => ⟨?_, hs3⟩, fun hq => (by cases hq)⟩
    rw [if_neg hle]
end
end Go.Vc

namespace Go.Vc
open Go Go.Proofs Go.RowKit
set_option linter.all false
def fnR (r : RoutD) : FuncD := ⟨r.params, r.result⟩
section
variable {u v w : World} {x y z ax kx tx xs s fx : Sl} {vars args T W : List Int} {ds : List DeclD} {rs : List RoutD} {ss : List SigD} {n i t op num into left : Int} {c : StepD} {b : BlockD} {kids : List BlockD} {fs : List (List Int)} {q : Bool} {a : Addr} {I R L : Items}
theorem nth_fnR (rs : List RoutD) (i : Int) : nth (rs.map fnR) i = fnR (nth rs i) := by
  unfold nth List.getD
  rw [List.getElem?_map]
  cases rs[i.toNat]? <;> rfl
theorem sig_iff : sigSigs ds (rs.map sgOf) ↔ rs.length ≤ 4 ∧ fnSigs ds (rs.map fnR) ∧ ∀ i : Int, 0 ≤ i → i < rs.length → lentOk (nth rs i).params (nth rs i).lent := by
  unfold sigSigs fnSigs
  simp only [List.length_map, nth_sg, nth_fnR]
  constructor
  · rintro ⟨h1, h2, h3, h4, h5, h6⟩
    exact ⟨h3, ⟨h1, h2, h3, fun i i0 i1 => (h6 i i0 i1).1, h4, h5⟩, fun i i0 i1 => (h6 i i0 i1).2⟩
  · rintro ⟨h3, ⟨h1, h2, _, h6, h4, h5⟩, h7⟩
    exact ⟨h1, h2, h3, h4, h5, fun i i0 i1 => ⟨h6 i i0 i1, h7 i i0 i1⟩⟩
theorem c_sigsOf (hy : Read v y rs) : Mk Tryz.prog 71 #[.agg #[x.val, y.val]] v fun r J => ∃ z, r = .agg #[x.val, z.val] ∧ Own v z (rs.map fnR) J := by
  refine of71 _ _ _ _ ?_
  unfold vc71
  have hyn := hy.n
  have hyl := hy.le
  have hS := St.refl v
  refine St.build (α := FuncD) hS (by (repeat' (first | exact VsOf.nil | apply VsOf.cons | (apply VOf.int; first | assumption | (constructor <;> first | omega | (simp only [List.length_set, List.length_append, List.length_replicate, List.length_cons, List.length_nil, List.length_take, List.length_drop, List.length_map, List.length_singleton] at *; omega))) | exact VOf.bool | exact VOf.str))) rfl (by decide) ?_
  intro z0 w0 I0 hO0 hS hs
  refine ⟨_, rfl, ?_⟩
  refine ⟨fun i z w => ∃ I, Own v z ((rs.take i.toNat).map fnR) I ∧ St v w (I ++ []) ∧ 0 ≤ i ∧ i ≤ rs.length, fun i _ _ => (rs.length - i).toNat, ⟨I0, hO0, hS, by omega, by omega⟩, ?_⟩
  clear hO0 hS hs
  rintro i z w ⟨I, hO, hS, i0, i1⟩
  dsimp only
  refine ⟨fun hi => ?_, fun hi => ?_⟩
  · simp only [bls] at hi
    have hil : i < rs.length := by omega
    obtain ⟨f1, f2, f3, e1, e2, e3, e4, e5, j1, j2, r1, r2, r3⟩ := (hy.src hS.sub).ofRoutD i0 hil
    refine go_ix hy i0 hil ?_
    refine ⟨f1, e1, ?_⟩
    refine go_ix hy i0 hil ?_
    refine ⟨_, e3, ?_⟩
    refine St.build (α := FuncD) (l := [fnR (nth rs i)]) hS (.cons ⟨rfl, f1, rfl, j1, r1⟩ .nil) rfl (by decide) ?_
    intro x4 w4 I4 hO4 hS hs
    refine ⟨_, rfl, hs, ?_⟩
    refine Own.append hO hS (Own.src hO4 hS) (by simp; omega) (by decide) ?_
    intro x5 w5 I5 hO5 hS
    refine ⟨_, rfl, ?_⟩
    refine go_wr (by omega) (by omega) ?_
    refine ⟨rfl, rfl, rfl, rfl, rfl, ⟨I5, ?_, hS.to, by omega, by omega⟩, by omega⟩
    rw [take_nth i0 hil, List.map_append]
    exact hO5
  · simp only [bls] at hi
    rw [take_all (by omega)] at hO
    exact ⟨I, by simpa using hS, z, rfl, hO⟩
theorem c_validNormalSigs (hx : Read v x ds) (hy : Read v y rs) : Fn Tryz.prog 46 #[.agg #[x.val, y.val]] v (.bool (pB (sigSigs ds (rs.map sgOf)))) := by
  refine of46 _ _ _ _ ?_
  unfold vc46
  have hyn := hy.n
  have hyl := hy.le
  refine ⟨fun hc => ?_, fun hc => ⟨?_, .refl v⟩⟩
  · simp only [bls] at hc
    refine Mk.use (c_sigsOf hy) (.refl v) ?_
    rintro _ w1 J1 ⟨z, rfl, hO⟩ hS hs
    refine ⟨_, _, rfl, _, c_specValidSigs (hx.mono hs) (hO.read hS), fun hq => ⟨?_, hs⟩, fun hq => ?_⟩
    · simp only [bls] at hq
      rw [pB_f]
      intro hh
      rw [pB_t (sig_iff.1 hh).2.1] at hq
      cases hq
    · simp only [bls] at hq
      have hsg := pB_iff.1 hq
      refine ⟨fun i w => Sub w1 w ∧ 0 ≤ i ∧ i ≤ rs.length ∧ ∀ j : Int, 0 ≤ j → j < i → lentOk (nth rs j).params (nth rs j).lent, fun i _ => (rs.length - i).toNat, ⟨.refl _, by omega, by omega, fun j j0 j1 => by omega⟩, ?_⟩
      rintro i w ⟨hw1, i0, i1, hj⟩
      dsimp only
      have hw := hs.trans hw1
      refine ⟨fun hi => ?_, fun hi => ?_⟩
      · simp only [bls] at hi
        have hil : i < rs.length := by omega
        obtain ⟨f1, f2, f3, e1, e2, e3, e4, e5, j1, j2, r1, r2, r3⟩ := (hy.src hw).ofRoutD i0 hil
        refine go_ix hy i0 hil ?_
        refine ⟨f1, e1, ?_⟩
        refine go_ix hy i0 hil ?_
        refine ⟨f2, e2, _, c_validLent (r1.mono hw) (r2.mono hw), fun hq => ⟨?_, hw⟩, fun hq => ?_⟩
        · simp only [bls] at hq
          rw [pB_f]
          intro hh
          rw [lentB_iff.2 ((sig_iff.1 hh).2.2 i i0 hil)] at hq
          cases hq
        · simp only [bls] at hq
          refine go_wr (by omega) (by omega) ?_
          refine ⟨rfl, rfl, ⟨hw1, by omega, by omega, fun j j0 j1 => ?_⟩, by omega⟩
          by_cases e : j = i
          · subst e; exact lentB_iff.1 hq
          · exact hj j j0 (by omega)
      · simp only [bls] at hi
        refine ⟨?_, hw⟩
        rw [pB_t]
        exact sig_iff.2 ⟨by omega, hsg, fun j j0 j1 => hj j j0 (by omega)⟩
  · simp only [bls] at hc
    rw [pB_f]
    intro hh
    have := (sig_iff.1 hh).1
    omega
theorem nrm_bound (h : sigSigs ds (rs.map sgOf)) (h0 : 0 ≤ i) (h1 : i < rs.length) : nonneg (nth rs i).params ∧ (nth rs i).params.length ≤ 3 := by
  have := sig_nn (i := i) h h0 (by rw [List.length_map]; exact h1)
  rw [nth_sg] at this
  exact ⟨this.1, this.2.2⟩
theorem c_validNormal (hx : Read v x ds) (hy : Read v y rs) : Fn Tryz.prog 27 #[.agg #[x.val, y.val]] v (.bool (pB (nrmOk ds rs))) := by
  refine of27 _ _ _ _ ?_
  unfold vc27
  have hyn := hy.n
  have hyl := hy.le
  refine ⟨_, c_validNormalSigs hx hy, fun hq => ⟨?_, .refl v⟩, fun hq => ?_⟩
  · simp only [bls] at hq
    rw [pB_f]
    intro hh
    rw [pB_t hh.1] at hq
    cases hq
  simp only [bls] at hq
  have hsg := pB_iff.1 hq
  refine ⟨fun i w => w = v ∧ 0 ≤ i ∧ i ≤ rs.length ∧ ∀ j : Int, 0 ≤ j → j < i → cntB (nth rs j).body ≤ 600 ∧ blkT ds (rs.map sgOf) (nth rs j).params (nth rs j).body = some (nth rs j).result, fun i _ => (rs.length - i).toNat, ⟨rfl, by omega, by omega, fun j j0 j1 => by omega⟩, ?_⟩
  rintro i _ ⟨rfl, i0, i1, hj⟩
  dsimp only
  refine ⟨fun hi => ?_, fun hi => ?_⟩
  · simp only [bls] at hi
    have hil : i < rs.length := by omega
    obtain ⟨f1, f2, f3, e1, e2, e3, e4, e5, j1, j2, r1, r2, r3⟩ := (hy.src (.refl _)).ofRoutD i0 hil
    obtain ⟨hnn, hpl⟩ := nrm_bound hsg i0 hil
    have hrr := sig_nn (i := i) hsg i0 (by rw [List.length_map]; exact hil)
    rw [nth_sg] at hrr
    refine go_ix hy i0 hil ?_
    refine ⟨f1, f2, _, f3, _, ⟨e1, e2, e3, e4, e5⟩, _, c_stepsOf (b := (nth rs i).body) r3, gD (blkT ds (rs.map sgOf) (nth rs i).params (nth rs i).body), fun hc => ?_, fun hc => ⟨?_, .refl _⟩, fun hc => ?_⟩
    · simp only [bls] at hc
      have hle : cntB (nth rs i).body ≤ 600 := Classical.byContradiction fun hh => by rw [if_neg hh] at hc; omega
      exact c_blockTypeS (nth rs i).body _ _ _ _ _ _ ⟨hx, hy, hsg⟩ r1 hnn r3 j2 (by omega)
    · rw [pB_f]
      intro hh
      obtain ⟨g1, g2⟩ := hh.2 i i0 hil
      rw [if_pos g1, g2, gD_some] at hc
      simp at hc
      omega
    · simp only [bls] at hc
      have hle : cntB (nth rs i).body ≤ 600 := Classical.byContradiction fun hh => by rw [if_neg hh] at hc; omega
      refine go_wr (by omega) (by omega) ?_
      refine ⟨rfl, rfl, ⟨rfl, by omega, by omega, fun j j0 j1 => ?_⟩, by omega⟩
      by_cases e : j = i
      · subst e
        refine ⟨hle, ?_⟩
        have hr0 : 0 ≤ (nth rs j).result := hrr.2.1.1
        rw [← hc.2]
        exact gD_eq (by rw [hc.2]; exact hr0)
      · exact hj j j0 (by omega)
  · simp only [bls] at hi
    refine ⟨?_, .refl _⟩
    rw [pB_t]
    exact ⟨hsg, fun j j0 j1 => hj j j0 (by omega)⟩
theorem c_normalSigs (hx : Read v x ds) (hy : Read v y rs) : Mk Tryz.prog 54 #[.agg #[x.val, y.val]] v fun r J => ∃ s z, r = .tuple #[.agg #[s.val, z.val], .bool (pB (sigSigs ds (rs.map sgOf)))] ∧ (sigSigs ds (rs.map sgOf) → s = x ∧ Own v z (rs.map sgOf) J) := by
  refine of54 _ _ _ _ ?_
  unfold vc54
  have hyn := hy.n
  have hyl := hy.le
  refine ⟨fun hq => ?_, fun hq => ?_⟩
  · simp only [bls] at hq
    have hno : ¬ sigSigs ds (rs.map sgOf) := fun h => by have := h.2.2.1; rw [List.length_map] at this; omega
    exact ⟨[], St.refl v, ⟨none, 0, 0⟩, ⟨none, 0, 0⟩, by rw [pB_f hno]; rfl, fun h => absurd h hno⟩
  simp only [bls] at hq
  refine ⟨fun i z w => ∃ I, Own v z ((rs.take i.toNat).map sgOf) I ∧ St v w (I ++ []) ∧ 0 ≤ i ∧ i ≤ rs.length, fun i _ _ => (rs.length - i).toNat, ⟨[], Own.nil v, St.refl v, by omega, by omega⟩, ?_⟩
  rintro i z w ⟨I, hO, hS, i0, i1⟩
  dsimp only
  refine ⟨fun hi => ?_, fun hi => ?_⟩
  · simp only [bls] at hi
    have hil : i < rs.length := by omega
    obtain ⟨f1, f2, f3, e1, e2, e3, e4, e5, j1, j2, r1, r2, r3⟩ := (hy.src hS.sub).ofRoutD i0 hil
    refine go_ix hy i0 hil ?_
    refine ⟨f1, f2, _, f3, _, ⟨e1, e2, e3, e4, e5⟩, ?_⟩
    refine St.build (α := SigD) (l := [sgOf (nth rs i)]) hS (.cons ⟨rfl, f1, f2, rfl, j1, r1, r2⟩ .nil) rfl (by decide) ?_
    intro x4 w4 I4 hO4 hS hs
    refine ⟨_, rfl, ?_⟩
    refine Own.append hO hS (Own.src hO4 hS) (by simp; omega) (by decide) ?_
    intro x5 w5 I5 hO5 hS
    refine ⟨_, rfl, ?_⟩
    refine go_wr (by omega) (by omega) ?_
    refine ⟨rfl, rfl, rfl, rfl, rfl, ⟨I5, ?_, hS.to, by omega, by omega⟩, by omega⟩
    rw [take_nth i0 hil, List.map_append]
    exact hO5
  · simp only [bls] at hi
    rw [take_all (by omega)] at hO
    refine ⟨_, c_implValidSigs (hx.mono hS.sub) (hO.read hS), ?_⟩
    exact ⟨I, by simpa using hS, x, z, rfl, fun _ => ⟨rfl, hO⟩⟩
theorem c_implValidNormal (hx : Read v x ds) (hy : Read v y rs) : Fn Tryz.prog 32 #[.agg #[x.val, y.val]] v (.bool (pB (nrmOk ds rs))) := by
  refine of32 _ _ _ _ ?_
  unfold vc32
  have hyn := hy.n
  have hyl := hy.le
  refine Mk.use (c_normalSigs hx hy) (.refl v) ?_
  rintro _ w1 J1 ⟨s, z, rfl, hO⟩ hS hs
  refine ⟨s, z, _, rfl, fun hq => ⟨?_, hs⟩, fun hq => ?_⟩
  · simp only [bls] at hq
    rw [pB_f]
    intro hh
    rw [pB_t hh.1] at hq
    cases hq
  simp only [bls] at hq
  have hsg := pB_iff.1 hq
  obtain ⟨rfl, hO2⟩ := hO hsg
  clear hO
  have hO := hO2
  clear hO2
  have hz := hO.read hS
  clear hO hS
  refine ⟨fun i w => Sub w1 w ∧ 0 ≤ i ∧ i ≤ rs.length ∧ ∀ j : Int, 0 ≤ j → j < i → cntB (nth rs j).body ≤ 600 ∧ blkT ds (rs.map sgOf) (nth rs j).params (nth rs j).body = some (nth rs j).result, fun i _ => (rs.length - i).toNat, ⟨.refl _, by omega, by omega, fun j j0 j1 => by omega⟩, ?_⟩
  rintro i w ⟨hw1, i0, i1, hj⟩
  dsimp only
  have hw := hs.trans hw1
  refine ⟨fun hi => ?_, fun hi => ?_⟩
  · simp only [bls] at hi
    have hil : i < rs.length := by omega
    obtain ⟨f1, f2, f3, e1, e2, e3, e4, e5, j1, j2, r1, r2, r3⟩ := (hy.src hw).ofRoutD i0 hil
    obtain ⟨hnn, hpl⟩ := nrm_bound hsg i0 hil
    have hrr := sig_nn (i := i) hsg i0 (by rw [List.length_map]; exact hil)
    rw [nth_sg] at hrr
    refine go_ix hy i0 hil ?_
    refine ⟨f1, f2, _, f3, _, ⟨e1, e2, e3, e4, e5⟩, _, c_implStepsOf (b := (nth rs i).body) (r3.mono hw), fun hc => ?_, fun hc => ⟨.refl _, ?_, hw⟩⟩
    · simp only [bls] at hc
      have hle : cntB (nth rs i).body ≤ 600 := Classical.byContradiction fun hh => by rw [if_neg hh] at hc; omega
      refine (c_blockTypeI (nth rs i).body _ _ _ _ _ _ ⟨hx.mono hw, hz.mono hw1, hsg⟩ (r1.mono hw) hnn (r3.mono hw) j2 (by omega)).mono' ?_
      rintro _ w2 ⟨rfl, hs2⟩
      refine ⟨_, rfl, hs2, fun hc => ⟨?_, hw.trans hs2⟩, fun hc => ?_⟩
      · simp only [bls] at hc
        rw [pB_f]
        intro hh
        obtain ⟨g1, g2⟩ := hh.2 i i0 hil
        rw [g2, gD_some] at hc
        exact absurd rfl hc
      · simp only [bls] at hc
        refine go_wr (by omega) (by omega) ?_
        refine ⟨rfl, rfl, rfl, rfl, ⟨hw1.trans hs2, by omega, by omega, fun j j0 j1 => ?_⟩, by omega⟩
        by_cases e : j = i
        · subst e
          refine ⟨hle, ?_⟩
          have hr0 : 0 ≤ (nth rs j).result := hrr.2.1.1
          rw [← hc]
          exact gD_eq (by rw [hc]; exact hr0)
        · exact hj j j0 (by omega)
    · rw [pB_f]
      intro hh
      obtain ⟨g1, g2⟩ := hh.2 i i0 hil
      rw [if_pos g1] at hc
      simp only [bls] at hc
      omega
  · simp only [bls] at hi
    refine ⟨?_, hw⟩
    rw [pB_t]
    exact ⟨hsg, fun j j0 j1 => hj j j0 (by omega)⟩
end
end Go.Vc
