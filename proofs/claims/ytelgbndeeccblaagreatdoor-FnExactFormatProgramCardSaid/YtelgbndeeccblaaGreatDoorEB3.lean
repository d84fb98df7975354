/- Part of the proofs about the heaps and memories: a law is joined in the text whose name ends in W and the law. -/
import Derived.Test.YtelgbndeeccblaaGreatDoorEB2
namespace Go.Vc
open Go Go.Proofs Go.RowKit
set_option linter.all false
/-- a type and whether there is one -/
def TyR (n : Int) (q : Bool) (o : Option Int) : Prop := (q = true → o = some n) ∧ (q = false → o = none)
section
variable {u v w : World} {x y z ax kx tx xs s : Sl} {vars args T W : List Int} {ds : List DeclD} {rs : List RoutD} {ss : List SigD} {n i t op num into : Int} {c : StepD} {b : BlockD} {kids : List BlockD} {fs : List (List Int)} {q : Bool}
theorem tyR_w (hw : wantB ds ss op num (nth T 0) = some (W, n)) : TyR n (decide (T = W)) (simB ds ss op num T) := by
  refine ⟨fun hq => ?_, fun hq => ?_⟩ <;> unfold simB <;> rw [hw] <;> dsimp only
  · rw [if_pos (of_decide_eq_true hq)]
  · rw [if_neg (of_decide_eq_false hq)]
theorem tyR_n (hw : wantB ds ss op num (nth T 0) = none) : TyR n false (simB ds ss op num T) := by
  refine ⟨fun hq => (by cases hq), fun hq => ?_⟩
  unfold simB; rw [hw]
theorem tyR_c {C : Prop} [Decidable C] (h1 : C → wantB ds ss op num (nth T 0) = some (W, n)) (h2 : ¬ C → wantB ds ss op num (nth T 0) = none) : TyR n (decide C && decide (T = W)) (simB ds ss op num T) := by
  by_cases hc : C
  · rw [decide_eq_true hc, Bool.true_and]; exact tyR_w (h1 hc)
  · rw [decide_eq_false hc, Bool.false_and]; exact tyR_n (h2 hc)
theorem c_simpleTypeA (hx : Read v x ds) (hs : Read v s ss) (hT : Read v tx T) (hsg : sigSigs ds ss) (hn : InI num) (hlent : op = 10 → 0 ≤ num → num < ss.length → (nth ss num).lent.length = 0) :
    ∃ (n : Int) (q : Bool), Fn Tryz.prog 174 #[.agg #[x.val, s.val], .int .i64 op, .int .i64 num, tx.val] v (.tuple #[.int .i64 n, .bool q]) ∧ TyR n q (simB ds ss op num T) := by
  classical
  have hTn := hT.n
  have hsn := hs.n
  have hS := St.refl v
  by_cases o0 : op = 0
  · refine ⟨0, decide (-999 ≤ num ∧ num ≤ 999) && decide (T = []), ?_, tyR_c (fun h => by unfold wantB; rw [if_pos o0, if_pos h]) (fun h => by unfold wantB; rw [if_pos o0, if_neg h])⟩
    refine of174 _ _ _ _ _ _ _ ?_
    unfold vc174
    repeat (first | refine ⟨fun h => absurd (of_decide_eq_true h) (by omega), fun _ => ?_⟩ | refine ⟨fun _ => ?_, fun h => absurd (of_decide_eq_false h) (by omega)⟩)
    refine ⟨?_, .refl _⟩
    have e : ((decide (num ≥ (-999)) && decide (num ≤ 999)) && decide ((tx.n : Int) = 0)) = (decide (-999 ≤ num ∧ num ≤ 999) && decide (T = [])) := by
      rw [Bool.eq_iff_iff]
      simp only [Bool.and_eq_true, decide_eq_true_eq, ← List.length_eq_zero_iff]
      constructor
      · intro h; omega
      · intro h; omega
    rw [e]
  by_cases o1 : op = 1 ∨ op = 2 ∨ op = 3 ∨ op = 4
  · refine ⟨0, decide (num = 0) && decide (T = [0, 0]), ?_, tyR_c (fun h => by unfold wantB; rw [if_neg o0, if_pos o1, if_pos h]) (fun h => by unfold wantB; rw [if_neg o0, if_pos o1, if_neg h])⟩
    refine of174 _ _ _ _ _ _ _ ?_
    unfold vc174
    rcases o1 with o1 | o1 | o1 | o1
    all_goals
      repeat (first | refine ⟨fun h => absurd (of_decide_eq_true h) (by omega), fun _ => ?_⟩ | refine ⟨fun _ => ?_, fun h => absurd (of_decide_eq_false h) (by omega)⟩)
      refine St.build (α := Int) hS (by (repeat' (first | exact VsOf.nil | apply VsOf.cons | (apply VOf.int; first | assumption | (constructor <;> first | omega | (simp only [List.length_set, List.length_append, List.length_replicate, List.length_cons, List.length_nil, List.length_take, List.length_drop, List.length_map, List.length_singleton] at *; omega))) | exact VOf.bool | exact VOf.str))) rfl (by decide) ?_
      intro z w1 J hO hS hs
      exact ⟨_, rfl, _, fun _ => c_slicesEqualK (hT.mono hs) (hO.read hS), rfl, hS.sub⟩
  by_cases o5 : op = 5
  · refine ⟨0, decide (num = 0) && decide (T = [0]), ?_, tyR_c (fun h => by unfold wantB; rw [if_neg o0, if_neg o1, if_pos o5, if_pos h]) (fun h => by unfold wantB; rw [if_neg o0, if_neg o1, if_pos o5, if_neg h])⟩
    refine of174 _ _ _ _ _ _ _ ?_
    unfold vc174
    repeat (first | refine ⟨fun h => absurd (of_decide_eq_true h) (by omega), fun _ => ?_⟩ | refine ⟨fun _ => ?_, fun h => absurd (of_decide_eq_false h) (by omega)⟩)
    refine St.build (α := Int) hS (by (repeat' (first | exact VsOf.nil | apply VsOf.cons | (apply VOf.int; first | assumption | (constructor <;> first | omega | (simp only [List.length_set, List.length_append, List.length_replicate, List.length_cons, List.length_nil, List.length_take, List.length_drop, List.length_map, List.length_singleton] at *; omega))) | exact VOf.bool | exact VOf.str))) rfl (by decide) ?_
    intro z w1 J hO hS hs
    exact ⟨_, rfl, _, fun _ => c_slicesEqualK (hT.mono hs) (hO.read hS), rfl, hS.sub⟩
  by_cases o6 : op = 6
  · obtain ⟨z, hz, hf⟩ := c_conAtA (n := num) hx hsg.1.sm hn
    have hct := conTyV_cases ds num
    refine ⟨conTyV ds num, decide (conTyV ds num ≥ 0) && decide (T = conF ds num), ?_, tyR_c (fun h => by unfold wantB; rw [if_neg o0, if_neg o1, if_neg o5, if_pos o6, if_pos (by omega)]) (fun h => by unfold wantB; rw [if_neg o0, if_neg o1, if_neg o5, if_pos o6, if_neg (by omega)])⟩
    refine of174 _ _ _ _ _ _ _ ?_
    unfold vc174
    repeat (first | refine ⟨fun h => absurd (of_decide_eq_true h) (by omega), fun _ => ?_⟩ | refine ⟨fun _ => ?_, fun h => absurd (of_decide_eq_false h) (by omega)⟩)
    exact ⟨_, z, hf, _, fun _ => c_slicesEqualK hT hz, rfl, hS.sub⟩
  by_cases o9 : op = 9
  · by_cases hb : 0 ≤ num ∧ num < ss.length
    · obtain ⟨px', lx', e1, e2, e3, i1, r1, r2⟩ := (hs.src (.refl v)).ofSigD hb.1 hb.2
      refine ⟨(nth ss num).result, decide (T = (nth ss num).params), ?_, tyR_w (by unfold wantB; rw [if_neg o0, if_neg o1, if_neg o5, if_neg o6, if_pos o9, if_pos hb])⟩
      refine of174 _ _ _ _ _ _ _ ?_
      unfold vc174
      repeat (first | refine ⟨fun h => absurd (of_decide_eq_true h) (by omega), fun _ => ?_⟩ | refine ⟨fun _ => ?_, fun h => absurd (of_decide_eq_false h) (by omega)⟩)
      refine ⟨fun hq => ?_, fun hq => ?_⟩
      · simp only [bls] at hq; omega
      refine ⟨hs.ix hb.1 hb.2, px', e1, hs.ix hb.1 hb.2, _, e3, ?_⟩
      repeat (first | refine ⟨fun h => absurd (of_decide_eq_true h) (by omega), fun _ => ?_⟩ | refine ⟨fun _ => ?_, fun h => absurd (of_decide_eq_false h) (by omega)⟩)
      exact ⟨_, c_slicesEqualK hT r1, rfl, hS.sub⟩
    · refine ⟨-1, false, ?_, tyR_n (by unfold wantB; rw [if_neg o0, if_neg o1, if_neg o5, if_neg o6, if_pos o9, if_neg hb])⟩
      refine of174 _ _ _ _ _ _ _ ?_
      unfold vc174
      repeat (first | refine ⟨fun h => absurd (of_decide_eq_true h) (by omega), fun _ => ?_⟩ | refine ⟨fun _ => ?_, fun h => absurd (of_decide_eq_false h) (by omega)⟩)
      refine ⟨fun hq => ⟨rfl, hS.sub⟩, fun hq => ?_⟩
      simp only [bls] at hq; omega
  by_cases o10 : op = 10
  · by_cases hb : 0 ≤ num ∧ num < ss.length
    · have hl0 := hlent o10 hb.1 hb.2
      have hpl : (nth ss num).params.length ≤ 3 := (hsg.2.2.2.2.2 num hb.1 hb.2).1.1
      have hbd := arrI_cases ds (nth (nth ss num).params (((nth ss num).params.length : Int) - 1)) (nth ss num).result
      obtain ⟨px', lx', e1, e2, e3, i1, r1, r2⟩ := (hs.src (.refl v)).ofSigD hb.1 hb.2
      have hpn := r1.n
      have hcap : px'.n ≤ px'.c := by obtain ⟨rows, hr, _⟩ := r1; exact hr.2.1
      by_cases hp1 : 1 ≤ (nth ss num).params.length
      · have hcut := r1.cut (lo := 0) (hi := ((nth ss num).params.length : Int) - 1) (by omega) (by omega) (by omega)
        rw [show (((nth ss num).params.length : Int) - 1).toNat = (nth ss num).params.length - 1 from by omega, show ((0 : Int)).toNat = 0 from rfl, List.drop_zero] at hcut
        refine ⟨arrI ds (nth (nth ss num).params (((nth ss num).params.length : Int) - 1)) (nth ss num).result, decide (arrI ds (nth (nth ss num).params (((nth ss num).params.length : Int) - 1)) (nth ss num).result ≥ 0) && decide (T = (nth ss num).params.take ((nth ss num).params.length - 1)), ?_,
          tyR_c (fun h => by unfold wantB; rw [if_neg o0, if_neg o1, if_neg o5, if_neg o6, if_neg o9, if_pos o10, if_pos ⟨hb.1, hb.2, hp1, hl0, by omega⟩]) (fun h => by unfold wantB; rw [if_neg o0, if_neg o1, if_neg o5, if_neg o6, if_neg o9, if_pos o10, if_neg (fun hh => h (by omega))])⟩
        refine of174 _ _ _ _ _ _ _ ?_
        unfold vc174
        repeat (first | refine ⟨fun h => absurd (of_decide_eq_true h) (by omega), fun _ => ?_⟩ | refine ⟨fun _ => ?_, fun h => absurd (of_decide_eq_false h) (by omega)⟩)
        refine ⟨fun hq => ?_, fun hq => ?_⟩
        · simp only [bls] at hq; omega
        refine ⟨hs.ix hb.1 hb.2, px', e1, hs.ix hb.1 hb.2, _, e3, ?_⟩
        refine ⟨fun h => absurd (of_decide_eq_true h) (by omega), fun _ => ?_⟩
        rw [hpn]
        refine go_wr (by omega) (by omega) ?_
        refine ⟨fun hq => ?_, fun hq => ?_⟩
        · simp only [bls] at hq; omega
        refine go_ix r1 (by omega) (by omega) ?_
        refine ld_int r1 (by omega) (by omega) fun _ _ => ?_
        refine ⟨_, c_kArrowOf hx hsg.1.1, ?_⟩
        exact ⟨fun _ => ⟨by omega, by omega, by omega⟩, _, fun _ => c_slicesEqualK hT hcut, rfl, hS.sub⟩
      · refine ⟨-1, false, ?_, tyR_n (by unfold wantB; rw [if_neg o0, if_neg o1, if_neg o5, if_neg o6, if_neg o9, if_pos o10, if_neg (fun hh => hp1 hh.2.2.1)])⟩
        refine of174 _ _ _ _ _ _ _ ?_
        unfold vc174
        repeat (first | refine ⟨fun h => absurd (of_decide_eq_true h) (by omega), fun _ => ?_⟩ | refine ⟨fun _ => ?_, fun h => absurd (of_decide_eq_false h) (by omega)⟩)
        refine ⟨fun hq => ?_, fun hq => ?_⟩
        · simp only [bls] at hq; omega
        refine ⟨hs.ix hb.1 hb.2, px', e1, hs.ix hb.1 hb.2, _, e3, ?_⟩
        refine ⟨fun h => absurd (of_decide_eq_true h) (by omega), fun _ => ?_⟩
        rw [hpn]
        refine go_wr (by omega) (by omega) ?_
        refine ⟨fun hq => ⟨rfl, hS.sub⟩, fun hq => ?_⟩
        simp only [bls] at hq; omega
    · refine ⟨-1, false, ?_, tyR_n (by unfold wantB; rw [if_neg o0, if_neg o1, if_neg o5, if_neg o6, if_neg o9, if_pos o10, if_neg (fun hh => hb ⟨hh.1, hh.2.1⟩)])⟩
      refine of174 _ _ _ _ _ _ _ ?_
      unfold vc174
      repeat (first | refine ⟨fun h => absurd (of_decide_eq_true h) (by omega), fun _ => ?_⟩ | refine ⟨fun _ => ?_, fun h => absurd (of_decide_eq_false h) (by omega)⟩)
      refine ⟨fun hq => ⟨rfl, hS.sub⟩, fun hq => ?_⟩
      simp only [bls] at hq; omega
  by_cases o11 : op = 11
  · have hw : wantB ds ss op num (nth T 0) = if num = 0 ∧ isArr ds (nth T 0) then some ([nth T 0, (nth ds (nth T 0 - 1)).frm], (nth ds (nth T 0 - 1)).to_) else none := by
      unfold wantB; rw [if_neg o0, if_neg o1, if_neg o5, if_neg o6, if_neg o9, if_neg o10, if_pos o11]
    by_cases hl2 : T.length = 2
    · obtain ⟨b, cc, z, q, hq1, hq2, hf⟩ := c_arrowAt (t := nth T 0) hx hsg.1.1
      have hTe : T = [nth T 0, nth T 1] := two_el hl2
      refine ⟨cc, (q && decide (nth T 1 = b)) && decide (num = 0), ?_, fun hq => ?_, fun hq => ?_⟩
      · refine of174 _ _ _ _ _ _ _ ?_
        unfold vc174
        repeat (first | refine ⟨fun h => absurd (of_decide_eq_true h) (by omega), fun _ => ?_⟩ | refine ⟨fun _ => ?_, fun h => absurd (of_decide_eq_false h) (by omega)⟩)
        refine ⟨fun hq => ?_, fun hq => ?_⟩
        · simp only [bls] at hq; omega
        refine go_ix hT (by omega) (by omega) ?_
        refine ld_int hT (by omega) (by omega) fun _ _ => ?_
        refine ⟨b, cc, z, q, hf, .refl _, ?_⟩
        refine go_ixg hT (fun _ => by omega) ?_
        refine ld_intg hT (fun _ => by omega) ?_
        exact ⟨rfl, .refl _⟩
      · simp only [Bool.and_eq_true, decide_eq_true_eq] at hq
        obtain ⟨⟨g1, g2⟩, g3⟩ := hq
        obtain ⟨e1, e2⟩ := hq2 g1
        unfold simB
        rw [hw, if_pos ⟨g3, hq1.1 g1⟩]
        dsimp only
        rw [if_pos (by rw [← e1, ← g2]; exact hTe), ← e2]
      · unfold simB
        rw [hw]
        by_cases hh : num = 0 ∧ isArr ds (nth T 0)
        · rw [if_pos hh]
          dsimp only
          have hqt := hq1.2 hh.2
          obtain ⟨e1, e2⟩ := hq2 hqt
          rw [if_neg]
          intro he
          rw [hqt, decide_eq_true hh.1] at hq
          simp only [Bool.true_and, Bool.and_true, decide_eq_false_iff_not] at hq
          apply hq
          rw [e1, he]
          rfl
        · rw [if_neg hh]
    · refine ⟨-1, false, ?_, fun hq => (by cases hq), fun hq => ?_⟩
      · refine of174 _ _ _ _ _ _ _ ?_
        unfold vc174
        repeat (first | refine ⟨fun h => absurd (of_decide_eq_true h) (by omega), fun _ => ?_⟩ | refine ⟨fun _ => ?_, fun h => absurd (of_decide_eq_false h) (by omega)⟩)
        refine ⟨fun hq => ⟨rfl, hS.sub⟩, fun hq => ?_⟩
        simp only [bls] at hq; omega
      · unfold simB
        rw [hw]
        split
        · rename_i W' n' he
          split at he
          · cases he
            rw [if_neg]
            intro he
            apply hl2
            rw [he]; rfl
          · cases he
        · rfl
  · refine ⟨-1, false, ?_, tyR_n (wantB_other (by omega))⟩
    refine of174 _ _ _ _ _ _ _ ?_
    unfold vc174
    repeat (first | refine ⟨fun h => absurd (of_decide_eq_true h) (by omega), fun _ => ?_⟩ | refine ⟨fun _ => ?_, fun h => absurd (of_decide_eq_false h) (by omega)⟩)
    exact ⟨rfl, .refl _⟩
end
end Go.Vc
