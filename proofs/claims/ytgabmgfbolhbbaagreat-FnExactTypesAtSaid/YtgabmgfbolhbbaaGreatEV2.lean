/- Part of the proofs about the heaps and memories: a law is joined in the text whose name ends in W and the law. -/
import Derived.Test.YtgabmgfbolhbbaaGreatEV1
namespace Go.Vc
open Go Go.Proofs Go.RowKit
set_option linter.all false
section
variable {u w : World} {v v' : VwD} {a : Addr} {r t n i o e_ at_ f m : Int} {k k' : RegK} {x y z ax jx px lx cx : Sl} {I R L : Items} {N B B' : Nat} {ds : List DeclD} {ss : List SigD} {ps : List ProcD} {c : InstrD} {ts : List Int}
theorem arrI_some (h0 : 0 ≤ i) (h1 : i < ds.length) (h : arrP ds f t i) (hm : ∀ j : Int, 0 ≤ j → j < i → ¬ arrP ds f t j) : arrI ds f t = i + 1 := by
  have hex : ∃ k : Nat, k < ds.length ∧ arrP ds f t k := ⟨i.toNat, by omega, by rw [show ((i.toNat : Nat) : Int) = i from by omega]; exact h⟩
  unfold arrI
  rw [if_pos hex]
  have h2 := leastM_spec hex
  have h3 := leastM_le (p := fun k : Nat => k < ds.length ∧ arrP ds f t k) (k := i.toNat) ⟨by omega, by rw [show ((i.toNat : Nat) : Int) = i from by omega]; exact h⟩
  have h4 : ¬ (leastM (fun k : Nat => k < ds.length ∧ arrP ds f t k) : Int) < i := fun hh => hm _ (by omega) hh h2.2
  omega
theorem arrI_none (h : ∀ j : Int, 0 ≤ j → j < ds.length → ¬ arrP ds f t j) : arrI ds f t = -1 := by
  unfold arrI
  rw [if_neg]
  rintro ⟨k, hk, hp⟩
  exact h k (by omega) (by omega) hp
theorem arrI_bd (hl : ds.length ≤ 4) : arrI ds f t = -1 ∨ (1 ≤ arrI ds f t ∧ arrI ds f t ≤ 4) := by
  unfold arrI
  split
  · rename_i hex
    have := (leastM_spec hex).1
    omega
  · exact .inl rfl
theorem c_arrowOf {v : World} (hx : Read v x ds) (hl : ds.length ≤ 4) : Fn Tryz.prog 112 #[x.val, .int .i64 f, .int .i64 t] v (.int .i64 (arrI ds f t)) := by
  refine of112 _ _ _ _ _ ?_
  unfold vc112
  have hn := hx.n
  refine ⟨fun i w => v = w ∧ 0 ≤ i ∧ i ≤ ds.length ∧ ∀ j : Int, 0 ≤ j → j < i → ¬ arrP ds f t j, fun i _ => (ds.length - i).toNat, ⟨rfl, by omega, by omega, fun j j0 j1 => by omega⟩, ?_⟩
  rintro i _ ⟨rfl, i0, i1, hj⟩
  refine ⟨fun hi => ?_, fun hi => ?_⟩
  · simp only [bls] at hi
    have hil : i < ds.length := by omega
    obtain ⟨f_cons, e1, e2, e3, j1, j2, r1⟩ := (hx.src (.refl v)).ofDeclD i0 hil
    have hcn := r1.n
    refine go_ix hx i0 hil ?_
    refine ⟨f_cons, e3, ?_⟩
    refine go_ixg hx (fun _ => ⟨i0, hil⟩) ?_
    refine ⟨_, fun _ => e1, ?_⟩
    refine go_ixg hx (fun _ => ⟨i0, hil⟩) ?_
    refine ⟨_, fun _ => e2, ?_⟩
    refine ⟨fun hq => ?_, fun hq => ?_⟩
    · simp only [bls] at hq
      refine go_wr (by omega) (by omega) ?_
      exact ⟨by rw [arrI_some i0 hil ⟨by omega, hq.1.2, hq.2⟩ hj], .refl _⟩
    · refine go_wr (by omega) (by omega) ?_
      refine ⟨⟨rfl, by omega, by omega, fun j j0 j1 => ?_⟩, by dsimp only; omega⟩
      by_cases e : j = i
      · subst e
        rintro ⟨q1, q2, q3⟩
        have : f_cons.n = 0 := by omega
        simp [this, q2, q3] at hq
      · exact hj j j0 (by omega)
  · simp only [bls] at hi
    exact ⟨by rw [arrI_none fun j j0 j1 => hj j j0 (by omega)], .refl _⟩
theorem c_isArrow {v : World} (hx : Read v x ds) (hl : ds.length ≤ 4) : ∃ q, (q = true ↔ isArr ds n) ∧ Fn Tryz.prog 113 #[x.val, .int .i64 n] v (.bool q) := by
  classical
  refine ⟨decide (isArr ds n), by simp, ?_⟩
  refine of113 _ _ _ _ ?_
  unfold vc113
  have hn := hx.n
  refine ⟨_, c_inRange, ?_⟩
  have hg : (decide (1 ≤ n) && decide (n ≤ (x.n : Int))) = true → 1 ≤ n ∧ n ≤ ds.length := fun h => by simp only [bls] at h; omega
  refine go_wrg (fun h => by have := hg h; omega) ?_
  refine go_ixg hx (fun h => by have := hg h; omega) ?_
  refine ldg_decl_cons (hx.src (.refl v)) (fun h => by have := hg h; omega) ?_
  intro g hr
  refine ⟨?_, .refl _⟩
  congr 1
  rw [Bool.eq_iff_iff]
  simp only [Bool.and_eq_true, decide_eq_true_eq]
  constructor
  · intro h
    have := (hr (by simp only [Bool.and_eq_true, decide_eq_true_eq]; exact h.1)).n
    exact ⟨h.1.1, by omega, by omega⟩
  · rintro ⟨q1, q2, q3⟩
    have := (hr (by simp only [Bool.and_eq_true, decide_eq_true_eq]; omega)).n
    exact ⟨⟨q1, by omega⟩, by omega⟩
theorem c_vCall {n1 rr : Int} (h : InD u x y ax jx ds ps N e_ at_ c) (hop : c.op = 9 ∨ c.op = 24 ∨ c.op = 10) (hV : Vst a v I) (hS : St u w (I ++ R)) (hw : Wf N B v) (hB : B ≤ 1099511627776) :
    Trip Tryz.prog 74 #[.pointer (some (a.add 0)), .agg #[x.val, y.val], .agg #[px.val, lx.val, .int .i64 rr, .int .i64 n1, cx.val], .agg #[.int .i64 c.op, .int .i64 c.dst, .int .i64 c.num, .int .i64 c.into, ax.val, jx.val]] w (OpR u R a (passV ds (ps.map sigOf) rr c v)) := by
  classical
  refine of74 _ _ _ _ _ _ _ _ _ _ _ _ _ _ _ _ ?_
  unfold vc74
  have hdst := h.dst
  have hnum : 0 ≤ c.num ∧ c.num < ps.length := by
    rcases hop with hop | hop | hop
    · exact h.call (.inl hop)
    · exact h.call (.inr hop)
    · have := (numV_close hop).1 h.ok.2.2.2.2.2.2.2.2.1
      rw [List.length_map] at this
      exact ⟨this.1, this.2.1⟩
  obtain ⟨px', lx', cx', e1, e2, e3, e4, e5, i1, i2, r1, r2, r3⟩ := (h.hy.src hS.sub).ofProcD hnum.1 hnum.2
  have hsp := h.sg.2.2.2.2.2 c.num hnum.1 (by rw [List.length_map]; exact hnum.2)
  rw [nth_sig] at hsp
  have hpl : (nth ps c.num).params.length ≤ 3 := hsp.1.1
  have hrt : typeB ds.length (nth ps c.num).result = true := hsp.1.2.2
  have hdl := h.sg.1.1
  unfold typeB at hrt
  simp only [Bool.and_eq_true, decide_eq_true_eq] at hrt
  have hpn := r1.n
  refine go_ix h.hy hnum.1 hnum.2 ?_
  refine ⟨px', lx', _, _, cx', ⟨e1, e2, e3, e4, e5⟩, ?_⟩
  have hsig : nth (ps.map sigOf) c.num = sigOf (nth ps c.num) := nth_sig _ _
  have ep : (sigOf (nth ps c.num)).params = (nth ps c.num).params := rfl
  have er : (sigOf (nth ps c.num)).result = (nth ps c.num).result := rfl
  rcases hop with hop | hop | hop
  · repeat (first | refine ⟨fun h => absurd (of_decide_eq_true h) (by omega), fun _ => ?_⟩ | refine ⟨fun _ => ?_, fun h => absurd (of_decide_eq_false h) (by omega)⟩)
    have e : passV ds (ps.map sigOf) rr c v = (argsV (ps.map sigOf) c (nth ps c.num).params v).bind fun v' => setW v' c.dst (nth ps c.num).result (ownOf (nth ps c.num).result) := by
      unfold passV
      rw [if_neg (by omega), if_neg (by omega), if_neg (by omega), if_neg (by omega), if_neg (by omega), if_pos hop, hsig, ep, er]
    rw [e]
    refine OpR.bind (c_takeArgs (x := x) h.hy h.hax r1 hV hS hw hB h.call h.args) fun v' I' w' hn hV hS => ?_
    exact c_vSetOwned hV hS (argsV_wf hw h.args hn) hdst.1 hdst.2 (by constructor <;> omega)
  · repeat (first | refine ⟨fun h => absurd (of_decide_eq_true h) (by omega), fun _ => ?_⟩ | refine ⟨fun _ => ?_, fun h => absurd (of_decide_eq_false h) (by omega)⟩)
    have e : passV ds (ps.map sigOf) rr c v = (argsV (ps.map sigOf) c (nth ps c.num).params v).bind fun v' => if (nth ps c.num).result = rr ∧ closedV v' then some v' else none := by
      unfold passV
      rw [if_neg (by omega), if_neg (by omega), if_neg (by omega), if_neg (by omega), if_neg (by omega), if_neg (by omega), if_pos hop, hsig, ep, er]
    rw [e]
    refine OpR.use (c_takeArgs (x := x) h.hy h.hax r1 hV hS hw hB h.call h.args) (fun hn w' hs => ?_) (fun v' I' w' hn hV hS => ?_)
    · rw [hn]
      exact ⟨false, rfl, false, (fun h => by cases h), rfl, hs⟩
    obtain ⟨q, hq, hf⟩ := c_vClosed (hV.rd hS) (argsV_wf hw h.args hn)
    rw [hn, Option.bind_some]
    refine ⟨true, rfl, q, fun _ => hf, ?_⟩
    by_cases hk : (nth ps c.num).result = rr ∧ closedV v'
    · rw [if_pos hk, hq.2 hk.2]
      exact ⟨I', by simp [hk.1], hV, hS⟩
    · rw [if_neg hk]
      refine ⟨?_, hS.sub⟩
      congr 1
      rw [Bool.eq_false_iff]
      intro hh
      simp only [Bool.and_eq_true, decide_eq_true_eq] at hh
      exact hk ⟨hh.1.2, hq.1 hh.2⟩
  · repeat (first | refine ⟨fun h => absurd (of_decide_eq_true h) (by omega), fun _ => ?_⟩ | refine ⟨fun _ => ?_, fun h => absurd (of_decide_eq_false h) (by omega)⟩)
    have hlo := h.al
    rw [(arg_10 hop).1, hsig, ep] at hlo
    have hah := h.ah
    rw [(arg_10 hop).2, hsig, ep] at hah
    have hcap : px'.n ≤ px'.c := by obtain ⟨rows, hr, _⟩ := r1; exact hr.2.1
    rw [hpn]
    refine go_wr (by omega) (by omega) ?_
    refine go_ix r1 (by omega) (by omega) ?_
    refine ld_int (r1.mono hS.sub) (by omega) (by omega) fun _ _ => ?_
    refine ⟨_, c_arrowOf (h.hx.mono hS.sub) hdl, ?_⟩
    have hbd := arrI_bd (ds := ds) (f := nth (nth ps c.num).params (((nth ps c.num).params.length : Int) - 1)) (t := (nth ps c.num).result) hdl
    have e : passV ds (ps.map sigOf) rr c v = if 0 < arrI ds (nth (nth ps c.num).params (((nth ps c.num).params.length : Int) - 1)) (nth ps c.num).result then (argsV (ps.map sigOf) c ((nth ps c.num).params.take ((nth ps c.num).params.length - 1)) v).bind fun v' => setW v' c.dst (arrI ds (nth (nth ps c.num).params (((nth ps c.num).params.length : Int) - 1)) (nth ps c.num).result) (ownOf (arrI ds (nth (nth ps c.num).params (((nth ps c.num).params.length : Int) - 1)) (nth ps c.num).result)) else none := by
      unfold passV
      rw [if_neg (by omega), if_neg (by omega), if_neg (by omega), if_neg (by omega), if_neg (by omega), if_neg (by omega), if_neg (by omega), if_pos hop, hsig, ep, er]
    rw [e]
    generalize arrI ds (nth (nth ps c.num).params (((nth ps c.num).params.length : Int) - 1)) (nth ps c.num).result = A at *
    refine go_wrg (fun _ => ⟨by omega, by omega⟩) ?_
    refine ⟨fun _ => ⟨by omega, by omega, by omega⟩, fun hq => ?_, fun hq => ?_⟩
    · simp only [bls] at hq
      rw [if_pos hq]
      have hcut := r1.cut (lo := 0) (hi := ((nth ps c.num).params.length : Int) - 1) (by omega) (by omega) (by omega)
      rw [show (((nth ps c.num).params.length : Int) - 1).toNat = (nth ps c.num).params.length - 1 from by omega] at hcut
      rw [show ((0 : Int)).toNat = 0 from rfl, List.drop_zero] at hcut
      refine OpR.bind (c_takeArgs (x := x) h.hy h.hax hcut hV hS hw hB h.call h.args) fun v' I' w' hn hV hS => ?_
      exact c_vSetOwned hV hS (argsV_wf hw h.args hn) hdst.1 hdst.2 (by constructor <;> omega)
    · simp only [bls] at hq
      rw [if_neg (by omega)]
      exact ⟨rfl, hS.sub⟩
end
end Go.Vc

namespace Go.Vc
open Go Go.Proofs Go.RowKit
set_option linter.all false
section
variable {u w : World} {v v' : VwD} {a : Addr} {r t n i o e_ at_ f m : Int} {k k' : RegK} {x y z ax jx px lx cx : Sl} {I R L : Items} {N B B' : Nat} {ds : List DeclD} {ss : List SigD} {ps : List ProcD} {c : InstrD} {ts : List Int}
theorem isArr_to (h : typesOk ds) (hk : isArr ds t) : (0 ≤ (nth ds (t - 1)).frm ∧ (nth ds (t - 1)).frm ≤ 4) ∧ (0 ≤ (nth ds (t - 1)).to_ ∧ (nth ds (t - 1)).to_ ≤ 4) := by
  have hl := h.1
  obtain ⟨k1, k2, _⟩ := hk
  obtain ⟨h1, h2, _⟩ := declOk_easy (h.2 (t - 1) (by omega) (by omega))
  unfold typeB at h1 h2
  simp only [Bool.and_eq_true, decide_eq_true_eq] at h1 h2
  omega
theorem c_vApply {rr : Int} (h : InD u x y ax jx ds ps N e_ at_ c) (hop : c.op = 11) (hV : Vst a v I) (hS : St u w (I ++ R)) (hw : Wf N B v) (hB : B ≤ 1099511627776) :
    Trip Tryz.prog 75 #[.pointer (some (a.add 0)), .agg #[x.val, y.val], .agg #[.int .i64 c.op, .int .i64 c.dst, .int .i64 c.num, .int .i64 c.into, ax.val, jx.val]] w (OpR u R a (passV ds (ps.map sigOf) rr c v)) := by
  classical
  refine of75 _ _ _ _ _ _ _ _ _ _ _ ?_
  unfold vc75
  have hl := hw.lenI
  have hlo := h.al
  rw [(arg_2 (by omega)).1] at hlo
  have hA0 := h.args 0 (by omega) (by omega)
  have hdst := h.dst
  have hsm := hw.sm _ hA0.1 hA0.2
  have hdl := h.sg.1.1
  obtain ⟨x1, e1, r1, _⟩ := hV.so1 hS
  refine ⟨x1, e1, ?_⟩
  refine go_ix h.hax (by omega) (by omega) ?_
  refine ld_int (h.hax.mono hS.sub) (by omega) (by omega) fun _ _ => ?_
  refine go_col r1 hA0.1 (by omega) ?_
  have htI := ld_colI r1 hA0.1 (by omega)
  refine ld_col r1 hA0.1 (by omega) ?_
  obtain ⟨q, hq, hf⟩ := c_isArrow (n := (v.reg (nth c.args 0)).typ) (h.hx.mono hS.sub) hdl
  refine ⟨q, hf, ?_⟩
  have e : passV ds (ps.map sigOf) rr c v = if isArr ds (v.reg (nth c.args 0)).typ then (argsV (ps.map sigOf) c [(v.reg (nth c.args 0)).typ, (nth ds ((v.reg (nth c.args 0)).typ - 1)).frm] v).bind fun v' => setW v' c.dst (nth ds ((v.reg (nth c.args 0)).typ - 1)).to_ (ownOf (nth ds ((v.reg (nth c.args 0)).typ - 1)).to_) else none := by
    (unfold passV; repeat (first | rw [if_neg (by omega)] | rw [if_pos (by omega)]))
  rw [e]
  refine ⟨fun hc => ?_, fun hc => ?_⟩
  · rw [if_neg (fun hk => by rw [hq.2 hk] at hc; cases hc)]
    exact ⟨rfl, hS.sub⟩
  have hk : isArr ds (v.reg (nth c.args 0)).typ := hq.1 (by simpa using hc)
  rw [if_pos hk]
  obtain ⟨⟨b1, b2⟩, b3, b4⟩ := isArr_to h.sg.1 hk
  obtain ⟨k1, k2, _⟩ := hk
  obtain ⟨f_cons, g1, g2, g3, j1, j2, r3⟩ := (h.hx.src hS.sub).ofDeclD (i := (v.reg (nth c.args 0)).typ - 1) (by omega) (by omega)
  refine go_wr (by omega) (by omega) ?_
  refine go_ix h.hx (by omega) (by omega) ?_
  refine ⟨_, _, f_cons, ⟨g1, g2, g3⟩, ?_⟩
  refine St.build (α := Int) hS (by (repeat' (first | exact VsOf.nil | apply VsOf.cons | (apply VOf.int; first | assumption | (constructor <;> first | omega | (simp only [List.length_set, List.length_append, List.length_replicate, List.length_cons, List.length_nil, List.length_take, List.length_drop, List.length_map, List.length_singleton] at *; omega))) | exact VOf.bool | exact VOf.str))) rfl (by decide) ?_
  intro x2 w2 I2 hO hS hs
  refine ⟨_, rfl, ?_⟩
  obtain ⟨u1, hs1, hS1, hJ⟩ := hS.freeze I2
  have h1 := h.mono hs1
  refine OpR.bind ((c_takeArgs (x := x) h1.hy h1.hax (hO.read1 hJ) hV hS1 hw hB h.call h.args).mono' fun r w' hr => hr.weak hs1) fun v' I' w' hn hV hS => ?_
  exact c_vSetOwned hV hS (argsV_wf hw h.args hn) hdst.1 hdst.2 (by constructor <;> omega)
theorem c_vPass {n1 rr : Int} (hrr : 0 ≤ rr ∧ rr ≤ 1000) (h : InD u x y ax jx ds ps N e_ at_ c) (hV : Vst a v I) (hS : St u w (I ++ R)) (hw : Wf N B v) (hB : B ≤ 1099511627776) :
    Trip Tryz.prog 47 #[.pointer (some (a.add 0)), .agg #[x.val, y.val], .agg #[px.val, lx.val, .int .i64 rr, .int .i64 n1, cx.val], .agg #[.int .i64 c.op, .int .i64 c.dst, .int .i64 c.num, .int .i64 c.into, ax.val, jx.val]] w (OpR u R a (passV ds (ps.map sigOf) rr c v)) := by
  classical
  refine of47 _ _ _ _ _ _ _ _ _ _ _ _ _ _ _ _ ?_
  unfold vc47
  have hl := hw.lenI
  have hdst := h.dst
  have hlo := h.al
  have hop := h.ok.1
  unfold opOk at hop
  have hop : c.op = 0 ∨ (c.op = 1 ∨ c.op = 2 ∨ c.op = 3 ∨ c.op = 4) ∨ c.op = 5 ∨ c.op = 20 ∨ c.op = 6 ∨ (c.op = 9 ∨ c.op = 24 ∨ c.op = 10) ∨ c.op = 11 ∨ c.op = 14 ∨ c.op = 15 ∨ (c.op = 16 ∨ c.op = 17) ∨ c.op = 18 ∨ c.op = 19 ∨ c.op = 21 ∨ c.op = 23 ∨ c.op = 22 := by omega
  rcases hop with hop | hop | hop | hop | hop | hop | hop | hop | hop | hop | hop | hop | hop | hop | hop
  · repeat (first | refine ⟨fun h => absurd (of_decide_eq_true h) (by omega), fun _ => ?_⟩ | refine ⟨fun _ => ?_, fun h => absurd (of_decide_eq_false h) (by omega)⟩)
    rw [show passV ds (ps.map sigOf) rr c v = setW v c.dst 0 0 from by (unfold passV; repeat (first | rw [if_neg (by omega)] | rw [if_pos (by omega)]))]
    exact OpR.ret (c_vSet hV hS hw hdst.1 hdst.2 (by constructor <;> omega))
  · rw [show passV ds (ps.map sigOf) rr c v = (argsV (ps.map sigOf) c [0, 0] v).bind fun v' => setW v' c.dst 0 0 from by (unfold passV; repeat (first | rw [if_neg (by omega)] | rw [if_pos (by omega)]))]
    rcases hop with hop | hop | hop | hop
    all_goals
      repeat (first | refine ⟨fun h => absurd (of_decide_eq_true h) (by omega), fun _ => ?_⟩ | refine ⟨fun _ => ?_, fun h => absurd (of_decide_eq_false h) (by omega)⟩)
      refine St.build (α := Int) hS (by (repeat' (first | exact VsOf.nil | apply VsOf.cons | (apply VOf.int; first | assumption | (constructor <;> first | omega | (simp only [List.length_set, List.length_append, List.length_replicate, List.length_cons, List.length_nil, List.length_take, List.length_drop, List.length_map, List.length_singleton] at *; omega))) | exact VOf.bool | exact VOf.str))) rfl (by decide) ?_
      intro x2 w2 I2 hO hS hs
      refine ⟨_, rfl, ?_⟩
      obtain ⟨u1, hs1, hS1, hJ⟩ := hS.freeze I2
      have h1 := h.mono hs1
      refine OpR.bind ((c_takeArgs (x := x) h1.hy h1.hax (hO.read1 hJ) hV hS1 hw hB h.call h.args).mono' fun r w' hr => hr.weak hs1) fun v' I' w' hn hV hS => ?_
      exact c_vSet hV hS (argsV_wf hw h.args hn) hdst.1 hdst.2 (by constructor <;> omega)
  · rw [show passV ds (ps.map sigOf) rr c v = (argsV (ps.map sigOf) c [0] v).bind fun v' => setW v' c.dst 0 0 from by (unfold passV; repeat (first | rw [if_neg (by omega)] | rw [if_pos (by omega)]))]
    repeat (first | refine ⟨fun h => absurd (of_decide_eq_true h) (by omega), fun _ => ?_⟩ | refine ⟨fun _ => ?_, fun h => absurd (of_decide_eq_false h) (by omega)⟩)
    refine St.build (α := Int) hS (by (repeat' (first | exact VsOf.nil | apply VsOf.cons | (apply VOf.int; first | assumption | (constructor <;> first | omega | (simp only [List.length_set, List.length_append, List.length_replicate, List.length_cons, List.length_nil, List.length_take, List.length_drop, List.length_map, List.length_singleton] at *; omega))) | exact VOf.bool | exact VOf.str))) rfl (by decide) ?_
    intro x2 w2 I2 hO hS hs
    refine ⟨_, rfl, ?_⟩
    obtain ⟨u1, hs1, hS1, hJ⟩ := hS.freeze I2
    have h1 := h.mono hs1
    refine OpR.bind ((c_takeArgs (x := x) h1.hy h1.hax (hO.read1 hJ) hV hS1 hw hB h.call h.args).mono' fun r w' hr => hr.weak hs1) fun v' I' w' hn hV hS => ?_
    exact c_vSet hV hS (argsV_wf hw h.args hn) hdst.1 hdst.2 (by constructor <;> omega)
  · rw [show passV ds (ps.map sigOf) rr c v = argsV (ps.map sigOf) c [0] v from by (unfold passV; repeat (first | rw [if_neg (by omega)] | rw [if_pos (by omega)]))]
    repeat (first | refine ⟨fun h => absurd (of_decide_eq_true h) (by omega), fun _ => ?_⟩ | refine ⟨fun _ => ?_, fun h => absurd (of_decide_eq_false h) (by omega)⟩)
    refine St.build (α := Int) hS (by (repeat' (first | exact VsOf.nil | apply VsOf.cons | (apply VOf.int; first | assumption | (constructor <;> first | omega | (simp only [List.length_set, List.length_append, List.length_replicate, List.length_cons, List.length_nil, List.length_take, List.length_drop, List.length_map, List.length_singleton] at *; omega))) | exact VOf.bool | exact VOf.str))) rfl (by decide) ?_
    intro x2 w2 I2 hO hS hs
    refine ⟨_, rfl, ?_⟩
    obtain ⟨u1, hs1, hS1, hJ⟩ := hS.freeze I2
    have h1 := h.mono hs1
    exact OpR.ret ((c_takeArgs (x := x) h1.hy h1.hax (hO.read1 hJ) hV hS1 hw hB h.call h.args).mono' fun r w' hr => hr.weak hs1)
  · rw [show passV ds (ps.map sigOf) rr c v = (argsV (ps.map sigOf) c (conF ds c.num) v).bind fun v' => (intoV c v').bind fun v' => setW v' c.dst (conTyV ds c.num) (ownOf (conTyV ds c.num)) from by (unfold passV; repeat (first | rw [if_neg (by omega)] | rw [if_pos (by omega)]))]
    repeat (first | refine ⟨fun h => absurd (of_decide_eq_true h) (by omega), fun _ => ?_⟩ | refine ⟨fun _ => ?_, fun h => absurd (of_decide_eq_false h) (by omega)⟩)
    exact OpR.ret (c_vBuild h hop hV hS hw hB)
  · rcases hop with hop | hop | hop
    all_goals
      repeat (first | refine ⟨fun h => absurd (of_decide_eq_true h) (by omega), fun _ => ?_⟩ | refine ⟨fun _ => ?_, fun h => absurd (of_decide_eq_false h) (by omega)⟩)
      exact OpR.ret (c_vCall h (by omega) hV hS hw hB)
  · repeat (first | refine ⟨fun h => absurd (of_decide_eq_true h) (by omega), fun _ => ?_⟩ | refine ⟨fun _ => ?_, fun h => absurd (of_decide_eq_false h) (by omega)⟩)
    exact OpR.ret (c_vApply h hop hV hS hw hB)
  · rw [show passV ds (ps.map sigOf) rr c v = if 1 ≤ (v.reg (nth c.args 0)).typ ∧ Al v (nth c.args 0) then some (incV v (nth c.args 0)) else none from by (unfold passV; repeat (first | rw [if_neg (by omega)] | rw [if_pos (by omega)]))]
    rw [(arg_1 (by omega)).1] at hlo
    have hA0 := h.args 0 (by omega) (by omega)
    have hown := hw.own0 _ hA0.1 hA0.2
    repeat (first | refine ⟨fun h => absurd (of_decide_eq_true h) (by omega), fun _ => ?_⟩ | refine ⟨fun _ => ?_, fun h => absurd (of_decide_eq_false h) (by omega)⟩)
    obtain ⟨x1, e1, r1, _⟩ := hV.so1 hS
    obtain ⟨x2, e2, r2, st2⟩ := hV.so2 hS
    refine ⟨x1, e1, ?_⟩
    refine go_ix h.hax (by omega) (by omega) ?_
    refine ld_int (h.hax.mono hS.sub) (by omega) (by omega) fun _ _ => ?_
    refine go_col r1 hA0.1 (by omega) ?_
    refine ld_col r1 hA0.1 (by omega) ?_
    refine go_ixg h.hax (fun _ => ⟨by omega, by omega⟩) ?_
    refine ld_intg (h.hax.mono hS.sub) (fun _ => ⟨by omega, by omega⟩) ?_
    refine ⟨_, fun _ => c_vAlive (hV.rd hS) hw hA0.1 hA0.2, ?_⟩
    refine ⟨fun hq => ?_, fun hq => ?_⟩
    · simp only [bls] at hq
      rw [if_neg]
      · exact ⟨rfl, hS.sub⟩
      · rintro ⟨q1, q2⟩
        rcases hq with hq | hq
        · omega
        · simp [alB, q2] at hq
    · simp only [bls] at hq
      rw [if_pos ⟨hq.1, by simpa [alB] using hq.2⟩]
      refine ⟨x2, e2, ?_⟩
      refine go_ix h.hax (by omega) (by omega) ?_
      refine ld_int (h.hax.mono hS.sub) (by omega) (by omega) fun _ _ => ?_
      refine ⟨x2, e2, ?_⟩
      refine go_ix h.hax (by omega) (by omega) ?_
      refine ld_int (h.hax.mono hS.sub) (by omega) (by omega) fun _ _ => ?_
      refine go_col r2 hA0.1 (by omega) ?_
      refine ld_col r2 hA0.1 (by omega) ?_
      refine go_wr (by omega) (by omega) ?_
      refine go_col r2 hA0.1 (by omega) ?_
      refine st2 hA0.1 (by omega) (by constructor <;> omega) rfl ?_
      intro w1 I1 hV hS
      exact ⟨I1, rfl, hV, hS⟩
  · rw [show passV ds (ps.map sigOf) rr c v = if 0 < (v.reg (nth c.args 0)).typ then takeV v (nth c.args 0) else none from by (unfold passV; repeat (first | rw [if_neg (by omega)] | rw [if_pos (by omega)]))]
    rw [(arg_1 (by omega)).1] at hlo
    have hA0 := h.args 0 (by omega) (by omega)
    repeat (first | refine ⟨fun h => absurd (of_decide_eq_true h) (by omega), fun _ => ?_⟩ | refine ⟨fun _ => ?_, fun h => absurd (of_decide_eq_false h) (by omega)⟩)
    obtain ⟨x1, e1, r1, _⟩ := hV.so1 hS
    refine ⟨x1, e1, ?_⟩
    refine go_ix h.hax (by omega) (by omega) ?_
    refine ld_int (h.hax.mono hS.sub) (by omega) (by omega) fun _ _ => ?_
    refine go_col r1 hA0.1 (by omega) ?_
    refine ld_col r1 hA0.1 (by omega) ?_
    refine go_ixg h.hax (fun _ => ⟨by omega, by omega⟩) ?_
    refine ld_intg (h.hax.mono hS.sub) (fun _ => ⟨by omega, by omega⟩) ?_
    refine ⟨fun hq => ?_, fun hq => ?_⟩
    · simp only [bls] at hq
      rw [if_pos hq]
      exact OpR.ret (c_vTake hV hS hw hB hA0.1 hA0.2)
    · simp only [bls] at hq
      rw [if_neg (by omega)]
      exact ⟨rfl, hS.sub⟩
  · rw [show passV ds (ps.map sigOf) rr c v = openV ds c v from by (unfold passV; repeat (first | rw [if_neg (by omega)] | rw [if_pos (by omega)]))]
    rcases hop with hop | hop
    all_goals
      repeat (first | refine ⟨fun h => absurd (of_decide_eq_true h) (by omega), fun _ => ?_⟩ | refine ⟨fun _ => ?_, fun h => absurd (of_decide_eq_false h) (by omega)⟩)
      exact OpR.ret (c_vOpen h (by omega) hV hS hw hB)
  · rw [show passV ds (ps.map sigOf) rr c v = if 0 ≤ (v.reg (nth c.args 0)).typ then (takeV v (nth c.args 0)).bind fun v' => setW v' c.dst (v.reg (nth c.args 0)).typ (ownOf (v.reg (nth c.args 0)).typ) else none from by (unfold passV; repeat (first | rw [if_neg (by omega)] | rw [if_pos (by omega)]))]
    rw [(arg_1 (by omega)).1] at hlo
    have hA0 := h.args 0 (by omega) (by omega)
    have hsm := hw.sm _ hA0.1 hA0.2
    repeat (first | refine ⟨fun h => absurd (of_decide_eq_true h) (by omega), fun _ => ?_⟩ | refine ⟨fun _ => ?_, fun h => absurd (of_decide_eq_false h) (by omega)⟩)
    obtain ⟨x1, e1, r1, _⟩ := hV.so1 hS
    refine ⟨x1, e1, ?_⟩
    refine go_ix h.hax (by omega) (by omega) ?_
    refine ld_int (h.hax.mono hS.sub) (by omega) (by omega) fun _ _ => ?_
    refine go_col r1 hA0.1 (by omega) ?_
    refine ld_col r1 hA0.1 (by omega) ?_
    refine go_ixg h.hax (fun _ => ⟨by omega, by omega⟩) ?_
    refine ld_intg (h.hax.mono hS.sub) (fun _ => ⟨by omega, by omega⟩) ?_
    refine ⟨fun hq => ?_, fun hq => ?_⟩
    · simp only [bls] at hq
      rw [if_pos hq]
      refine OpR.bind (c_vTake hV hS hw hB hA0.1 hA0.2) fun v' I' w' hn hV hS => ?_
      exact c_vSetOwned hV hS (takeV_wf hw hA0.1 hA0.2 hn) hdst.1 hdst.2 (by constructor <;> omega)
    · simp only [bls] at hq
      rw [if_neg (by omega)]
      exact ⟨rfl, hS.sub⟩
  · rw [show passV ds (ps.map sigOf) rr c v = loadV ds c v from by (unfold passV; repeat (first | rw [if_neg (by omega)] | rw [if_pos (by omega)]))]
    repeat (first | refine ⟨fun h => absurd (of_decide_eq_true h) (by omega), fun _ => ?_⟩ | refine ⟨fun _ => ?_, fun h => absurd (of_decide_eq_false h) (by omega)⟩)
    exact OpR.ret (c_vLoad h hop hV hS hw hB)
  · rw [show passV ds (ps.map sigOf) rr c v = if (v.reg (nth c.args 0)).typ = c.num ∧ Al v (nth c.args 0) then some v else none from by (unfold passV; repeat (first | rw [if_neg (by omega)] | rw [if_pos (by omega)]))]
    rw [(arg_1 (by omega)).1] at hlo
    have hA0 := h.args 0 (by omega) (by omega)
    repeat (first | refine ⟨fun h => absurd (of_decide_eq_true h) (by omega), fun _ => ?_⟩ | refine ⟨fun _ => ?_, fun h => absurd (of_decide_eq_false h) (by omega)⟩)
    obtain ⟨x1, e1, r1, _⟩ := hV.so1 hS
    refine ⟨x1, e1, ?_⟩
    refine go_ix h.hax (by omega) (by omega) ?_
    refine ld_int (h.hax.mono hS.sub) (by omega) (by omega) fun _ _ => ?_
    refine go_col r1 hA0.1 (by omega) ?_
    refine ld_col r1 hA0.1 (by omega) ?_
    refine go_ixg h.hax (fun _ => ⟨by omega, by omega⟩) ?_
    refine ld_intg (h.hax.mono hS.sub) (fun _ => ⟨by omega, by omega⟩) ?_
    refine ⟨_, fun _ => c_vAlive (hV.rd hS) hw hA0.1 hA0.2, ?_⟩
    by_cases hk : (v.reg (nth c.args 0)).typ = c.num ∧ Al v (nth c.args 0)
    · rw [if_pos hk]
      exact ⟨I, by simp [hk.1, alB, hk.2], hV, hS⟩
    · rw [if_neg hk]
      refine ⟨?_, hS.sub⟩
      congr 1
      rw [Bool.eq_false_iff]
      intro hh
      simp only [Bool.and_eq_true, decide_eq_true_eq, alB] at hh
      exact hk hh
  · rw [show passV ds (ps.map sigOf) rr c v = (argsV (ps.map sigOf) c [rr] v).bind fun v' => if closedV v' then some v' else none from by (unfold passV; repeat (first | rw [if_neg (by omega)] | rw [if_pos (by omega)]))]
    repeat (first | refine ⟨fun h => absurd (of_decide_eq_true h) (by omega), fun _ => ?_⟩ | refine ⟨fun _ => ?_, fun h => absurd (of_decide_eq_false h) (by omega)⟩)
    refine St.build (α := Int) hS (by (repeat' (first | exact VsOf.nil | apply VsOf.cons | (apply VOf.int; first | assumption | (constructor <;> first | omega | (simp only [List.length_set, List.length_append, List.length_replicate, List.length_cons, List.length_nil, List.length_take, List.length_drop, List.length_map, List.length_singleton] at *; omega))) | exact VOf.bool | exact VOf.str))) rfl (by decide) ?_
    intro x2 w2 I2 hO hS hs
    refine ⟨_, rfl, ?_⟩
    obtain ⟨u1, hs1, hS1, hJ⟩ := hS.freeze I2
    have h1 := h.mono hs1
    refine OpR.use ((c_takeArgs (x := x) h1.hy h1.hax (hO.read1 hJ) hV hS1 hw hB h.call h.args).mono' fun r w' hr => hr.weak hs1) (fun hn w' hs => ?_) (fun v' I' w' hn hV hS => ?_)
    · rw [hn]
      exact ⟨false, rfl, false, (fun h => by cases h), rfl, hs⟩
    obtain ⟨q, hq, hf⟩ := c_vClosed (hV.rd hS) (argsV_wf hw h.args hn)
    rw [hn, Option.bind_some]
    refine ⟨true, rfl, q, fun _ => hf, ?_⟩
    by_cases hk : closedV v'
    · rw [if_pos hk, hq.2 hk]
      exact ⟨I', rfl, hV, hS⟩
    · rw [if_neg hk]
      refine ⟨?_, hS.sub⟩
      congr 1
      rw [Bool.eq_false_iff]
      intro hh
      simp only [Bool.true_and] at hh
      exact hk (hq.1 hh)
  · rw [show passV ds (ps.map sigOf) rr c v = some v from by (unfold passV; repeat (first | rw [if_neg (by omega)] | rw [if_pos (by omega)]))]
    repeat (first | refine ⟨fun h => absurd (of_decide_eq_true h) (by omega), fun _ => ?_⟩ | refine ⟨fun _ => ?_, fun h => absurd (of_decide_eq_false h) (by omega)⟩)
    exact ⟨I, rfl, hV, hS⟩
end
end Go.Vc

namespace Go.Vc
open Go Go.Proofs Go.RowKit
set_option linter.all false
/-- an instruction of a valid image -/
structure InP (ds : List DeclD) (ss : List SigD) (N : Nat) (e_ at_ : Int) (c : InstrD) : Prop where
  sg : sigSigs ds ss
  ok : instrOk ds ss N e_ at_ c
  hN : N ≤ 2000
section
variable {u w : World} {v v' : VwD} {a : Addr} {r t n i o e_ at_ f m rr : Int} {k k' : RegK} {x y z ax jx px lx cx : Sl} {I R L : Items} {N B B' : Nat} {ds : List DeclD} {ss : List SigD} {ps : List ProcD} {c : InstrD} {ts : List Int} {F F' : List (Option VwD)}
theorem InD.P (h : InD u x y ax jx ds ps N e_ at_ c) : InP ds (ps.map sigOf) N e_ at_ c := ⟨h.sg, h.ok, h.hN⟩
theorem InP.args (h : InP ds ss N e_ at_ c) : ∀ k : Int, 0 ≤ k → k < c.args.length → 0 ≤ nth c.args k ∧ nth c.args k < N := fun k k0 k1 => by
  have := List.all_eq_true.1 h.ok.2.1 _ (nth_mem k0 k1)
  unfold laterB at this
  simp only [Bool.and_eq_true, decide_eq_true_eq] at this
  omega
theorem InP.dst (h : InP ds ss N e_ at_ c) : 0 ≤ c.dst ∧ c.dst < N := h.ok.2.2.1
theorem InP.al (h : InP ds ss N e_ at_ c) : argLo ds ss c.op c.num ≤ c.args.length := h.ok.2.2.2.2.2.2.2.2.2.1
theorem InP.ah (h : InP ds ss N e_ at_ c) : (c.args.length : Int) ≤ argHi ds ss c.op c.num := h.ok.2.2.2.2.2.2.2.2.2.2
theorem setW_wf (hw : Wf N B v) (hB : 1 ≤ B) (h0 : 0 ≤ r) (h1 : r < N) (ht : 0 ≤ t ∧ t ≤ 1000) (ho : 0 ≤ o ∧ o ≤ 1) (h : setW v r t o = some v') : Wf N B v' ∧ v' = setV v r t o := by
  unfold setW at h
  split at h
  · cases h
  · cases h; exact ⟨hw.setV h0 h1 ht ho hB, rfl⟩
theorem ownOf_bd : 0 ≤ ownOf t ∧ ownOf t ≤ 1 := by unfold ownOf; split <;> omega
theorem incV_wf (hw : Wf N B v) (h0 : 0 ≤ r) (h1 : r < N) : Wf N (B + 1) (incV v r) := by
  have ho := hw.own0 r h0 h1
  exact hw.upd h0 h1 (by omega) ⟨by dsimp only; omega, by dsimp only; omega⟩ rfl (hw.neg r h0 h1) (hw.con r h0 h1) (hw.sm r h0 h1)
theorem decV_wf (hw : Wf N B v) (h0 : 0 ≤ r) (h1 : r < N) (h2 : 1 ≤ (v.reg r).own) : Wf N B (decV v r) := by
  have ho := hw.own0 r h0 h1
  exact hw.upd h0 h1 (Nat.le_refl _) ⟨by dsimp only; omega, by dsimp only; omega⟩ rfl (hw.neg r h0 h1) (hw.con r h0 h1) (hw.sm r h0 h1)
theorem conV_wf (hw : Wf N B v) (h0 : 0 ≤ r) (h1 : r < N) (h2 : -1 ≤ n ∧ n ≤ 1000) (h3 : 0 ≤ (v.reg r).typ) : Wf N B (conV v r n) := by
  have ho := hw.own0 r h0 h1
  exact hw.upd h0 h1 (Nat.le_refl _) ⟨by dsimp only; omega, by dsimp only; omega⟩ rfl ⟨(hw.neg r h0 h1).1, fun hh => by dsimp only at hh; omega⟩ h2 (hw.sm r h0 h1)
theorem incsV_wf (hw : Wf N B v) (hA : ∀ k : Int, 0 ≤ k → k < c.args.length → 0 ≤ nth c.args k ∧ nth c.args k < N) {i : Nat} (hi : i + 1 ≤ c.args.length) : Wf N (B + i) (incsV c i v) := by
  induction i with
  | zero => exact hw
  | succ i ih =>
    have hb := hA (i + 1) (by omega) (by omega)
    exact incV_wf (ih (by omega)) hb.1 hb.2
theorem setV_noFrm (hw : Wf N B v) (h0 : 0 ≤ r) (h1 : r < N) (j : Int) (j0 : 0 ≤ j) (j1 : j < N) : ((setV v r t o).reg j).frm ≠ r := by
  have hl := hw.lenI
  rw [setV_reg h0 (by omega) j j0 (by omega)]
  split
  · dsimp only; omega
  · unfold clr1
    split
    · dsimp only; omega
    · assumption
theorem passV_wf (h : InP ds ss N e_ at_ c) (hrr : 0 ≤ rr ∧ rr ≤ 1000) (hw : Wf N B v) (hB : 1 ≤ B) (hp : passV ds ss rr c v = some v') : Wf N (B + 3) v' := by
  classical
  have hdst := h.dst
  have hlo := h.al
  have hah := h.ah
  have hop := h.ok.1
  have hdl := h.sg.1.1
  unfold opOk at hop
  have hop : c.op = 0 ∨ (c.op = 1 ∨ c.op = 2 ∨ c.op = 3 ∨ c.op = 4) ∨ c.op = 5 ∨ c.op = 20 ∨ c.op = 6 ∨ c.op = 9 ∨ c.op = 24 ∨ c.op = 10 ∨ c.op = 11 ∨ c.op = 14 ∨ c.op = 15 ∨ (c.op = 16 ∨ c.op = 17) ∨ c.op = 18 ∨ c.op = 19 ∨ c.op = 21 ∨ c.op = 23 ∨ c.op = 22 := by omega
  rcases hop with hop | hop | hop | hop | hop | hop | hop | hop | hop | hop | hop | hop | hop | hop | hop | hop | hop
  · rw [show passV ds ss rr c v = setW v c.dst 0 0 from by (unfold passV; repeat (first | rw [if_neg (by omega)] | rw [if_pos (by omega)]))] at hp
    exact (setW_wf hw hB hdst.1 hdst.2 (by omega) (by omega) hp).1.mono (by omega)
  · rw [show passV ds ss rr c v = (argsV ss c [0, 0] v).bind fun v' => setW v' c.dst 0 0 from by (unfold passV; repeat (first | rw [if_neg (by omega)] | rw [if_pos (by omega)]))] at hp
    obtain ⟨v1, h1, hp⟩ := Option.bind_eq_some_iff.1 hp
    exact (setW_wf (argsV_wf hw h.args h1) hB hdst.1 hdst.2 (by omega) (by omega) hp).1.mono (by omega)
  · rw [show passV ds ss rr c v = (argsV ss c [0] v).bind fun v' => setW v' c.dst 0 0 from by (unfold passV; repeat (first | rw [if_neg (by omega)] | rw [if_pos (by omega)]))] at hp
    obtain ⟨v1, h1, hp⟩ := Option.bind_eq_some_iff.1 hp
    exact (setW_wf (argsV_wf hw h.args h1) hB hdst.1 hdst.2 (by omega) (by omega) hp).1.mono (by omega)
  · rw [show passV ds ss rr c v = argsV ss c [0] v from by (unfold passV; repeat (first | rw [if_neg (by omega)] | rw [if_pos (by omega)]))] at hp
    exact (argsV_wf hw h.args hp).mono (by omega)
  · rw [show passV ds ss rr c v = (argsV ss c (conF ds c.num) v).bind fun v' => (intoV c v').bind fun v' => setW v' c.dst (conTyV ds c.num) (ownOf (conTyV ds c.num)) from by (unfold passV; repeat (first | rw [if_neg (by omega)] | rw [if_pos (by omega)]))] at hp
    obtain ⟨v1, h1, hp⟩ := Option.bind_eq_some_iff.1 hp
    obtain ⟨v2, h2, hp⟩ := Option.bind_eq_some_iff.1 hp
    have w1 := argsV_wf hw h.args h1
    have w2 : Wf N B v2 := by
      unfold intoV at h2
      split at h2
      · cases h2; exact w1
      split at h2
      · cases h2
      · cases h2; exact w1.keep (by omega)
    have hv := (numV_con hop).1 h.ok.2.2.2.2.2.2.2.2.1
    have hc := (conI_iff (ds := ds) (c := c.num)).2 ⟨hv.1, hv.2⟩
    have hb := conTyV_bd (n := c.num) h.sg.1
    have : 0 ≤ conTyV ds c.num := by unfold conTyV; rw [if_neg (by omega)]; omega
    exact (setW_wf w2 hB hdst.1 hdst.2 (by omega) ownOf_bd hp).1.mono (by omega)
  · rw [show passV ds ss rr c v = (argsV ss c (nth ss c.num).params v).bind fun v' => setW v' c.dst (nth ss c.num).result (ownOf (nth ss c.num).result) from by (unfold passV; repeat (first | rw [if_neg (by omega)] | rw [if_pos (by omega)]))] at hp
    obtain ⟨v1, h1, hp⟩ := Option.bind_eq_some_iff.1 hp
    have hv := (numV_call (.inl hop)).1 h.ok.2.2.2.2.2.2.2.2.1
    have ht := (h.sg.2.2.2.2.2 c.num hv.1 hv.2).1.2.2
    unfold typeB at ht
    simp only [Bool.and_eq_true, decide_eq_true_eq] at ht
    exact (setW_wf (argsV_wf hw h.args h1) hB hdst.1 hdst.2 (by omega) ownOf_bd hp).1.mono (by omega)
  · rw [show passV ds ss rr c v = (argsV ss c (nth ss c.num).params v).bind fun v' => if (nth ss c.num).result = rr ∧ closedV v' then some v' else none from by (unfold passV; repeat (first | rw [if_neg (by omega)] | rw [if_pos (by omega)]))] at hp
    obtain ⟨v1, h1, hp⟩ := Option.bind_eq_some_iff.1 hp
    split at hp
    · cases hp; exact (argsV_wf hw h.args h1).mono (by omega)
    · cases hp
  · rw [show passV ds ss rr c v = if 0 < arrI ds (nth (nth ss c.num).params (((nth ss c.num).params.length : Int) - 1)) (nth ss c.num).result then (argsV ss c ((nth ss c.num).params.take ((nth ss c.num).params.length - 1)) v).bind fun v' => setW v' c.dst (arrI ds (nth (nth ss c.num).params (((nth ss c.num).params.length : Int) - 1)) (nth ss c.num).result) (ownOf (arrI ds (nth (nth ss c.num).params (((nth ss c.num).params.length : Int) - 1)) (nth ss c.num).result)) else none from by (unfold passV; repeat (first | rw [if_neg (by omega)] | rw [if_pos (by omega)]))] at hp
    have hbd := arrI_bd (ds := ds) (f := nth (nth ss c.num).params (((nth ss c.num).params.length : Int) - 1)) (t := (nth ss c.num).result) hdl
    split at hp
    · obtain ⟨v1, h1, hp⟩ := Option.bind_eq_some_iff.1 hp
      exact (setW_wf (argsV_wf hw h.args h1) hB hdst.1 hdst.2 (by omega) ownOf_bd hp).1.mono (by omega)
    · cases hp
  · rw [show passV ds ss rr c v = if isArr ds (v.reg (nth c.args 0)).typ then (argsV ss c [(v.reg (nth c.args 0)).typ, (nth ds ((v.reg (nth c.args 0)).typ - 1)).frm] v).bind fun v' => setW v' c.dst (nth ds ((v.reg (nth c.args 0)).typ - 1)).to_ (ownOf (nth ds ((v.reg (nth c.args 0)).typ - 1)).to_) else none from by (unfold passV; repeat (first | rw [if_neg (by omega)] | rw [if_pos (by omega)]))] at hp
    split at hp
    · rename_i hk
      obtain ⟨_, b3, b4⟩ := isArr_to h.sg.1 hk
      obtain ⟨v1, h1, hp⟩ := Option.bind_eq_some_iff.1 hp
      exact (setW_wf (argsV_wf hw h.args h1) hB hdst.1 hdst.2 (by omega) ownOf_bd hp).1.mono (by omega)
    · cases hp
  · rw [show passV ds ss rr c v = if 1 ≤ (v.reg (nth c.args 0)).typ ∧ Al v (nth c.args 0) then some (incV v (nth c.args 0)) else none from by (unfold passV; repeat (first | rw [if_neg (by omega)] | rw [if_pos (by omega)]))] at hp
    rw [(arg_1 (by omega)).1] at hlo
    have hA0 := h.args 0 (by omega) (by omega)
    split at hp
    · cases hp; exact (incV_wf hw hA0.1 hA0.2).mono (by omega)
    · cases hp
  · rw [show passV ds ss rr c v = if 0 < (v.reg (nth c.args 0)).typ then takeV v (nth c.args 0) else none from by (unfold passV; repeat (first | rw [if_neg (by omega)] | rw [if_pos (by omega)]))] at hp
    rw [(arg_1 (by omega)).1] at hlo
    have hA0 := h.args 0 (by omega) (by omega)
    split at hp
    · exact (takeV_wf hw hA0.1 hA0.2 hp).mono (by omega)
    · cases hp
  · rw [show passV ds ss rr c v = openV ds c v from by (unfold passV; repeat (first | rw [if_neg (by omega)] | rw [if_pos (by omega)]))] at hp
    rw [(arg_16 hop).1] at hlo
    rw [(arg_16 hop).2] at hah
    have hA0 := h.args 0 (by omega) (by omega)
    have hcf := conF_sm (n := (v.reg (nth c.args 0)).con) h.sg.1
    unfold openV at hp
    split at hp
    · rename_i hk
      dsimp only at hp
      have hl := hw.lenI
      have hAl : ∀ k : Int, 0 ≤ k → k < c.args.length → 0 ≤ nth c.args k ∧ nth c.args k < v.regs.length := fun k k0 k1 => by have := h.args k k0 k1; omega
      have w1 := incsV_wf hw h.args (i := c.args.length - 1) (by omega)
      obtain ⟨b1, b2, b3, b4, b5, b6, b7, b8, b9⟩ := incsV_reg (v := v) (i := c.args.length - 1) hAl (by omega) _ hA0.1
      have w2 := decV_wf w1 hA0.1 hA0.2 (by have := hk.2.1; omega)
      cases hp
      split
      · exact (w2.keep (by omega)).mono (by omega)
      · exact w2.mono (by omega)
    · cases hp
  · rw [show passV ds ss rr c v = if 0 ≤ (v.reg (nth c.args 0)).typ then (takeV v (nth c.args 0)).bind fun v' => setW v' c.dst (v.reg (nth c.args 0)).typ (ownOf (v.reg (nth c.args 0)).typ) else none from by (unfold passV; repeat (first | rw [if_neg (by omega)] | rw [if_pos (by omega)]))] at hp
    rw [(arg_1 (by omega)).1] at hlo
    have hA0 := h.args 0 (by omega) (by omega)
    have hsm := hw.sm _ hA0.1 hA0.2
    split at hp
    · obtain ⟨v1, h1, hp⟩ := Option.bind_eq_some_iff.1 hp
      exact (setW_wf (takeV_wf hw hA0.1 hA0.2 h1) hB hdst.1 hdst.2 (by omega) ownOf_bd hp).1.mono (by omega)
    · cases hp
  · rw [show passV ds ss rr c v = loadV ds c v from by (unfold passV; repeat (first | rw [if_neg (by omega)] | rw [if_pos (by omega)]))] at hp
    rw [(arg_1 (by omega)).1] at hlo
    have hA0 := h.args 0 (by omega) (by omega)
    have hnum := (numV_load hop).1 h.ok.2.2.2.2.2.2.2.2.1
    unfold loadV at hp
    split at hp
    · rename_i hk
      obtain ⟨v1, h1, rfl⟩ := Option.map_eq_some_iff.1 hp
      have hty := conF_typ (n := (v.reg (nth c.args 0)).con) h.sg.1 hnum.1 hk.2.2
      obtain ⟨w1, e1⟩ := setW_wf hw hB hdst.1 hdst.2 (by omega) (by omega) h1
      have hl1 := w1.lenI
      split
      · exact w1.mono (by omega)
      · rename_i hne
        refine (w1.link hdst.1 hdst.2 hA0.1 hA0.2 hne (i := c.num) (by omega) ?_ ?_ rfl).mono (by omega)
        · rw [e1, setV_reg hdst.1 (by have := hw.lenI; omega) _ hdst.1 (by have := hw.lenI; omega), if_pos rfl]
          exact hty.1
        · intro j j0 j1
          rw [e1]
          exact setV_noFrm hw hdst.1 hdst.2 j j0 j1
    · cases hp
  · rw [show passV ds ss rr c v = if (v.reg (nth c.args 0)).typ = c.num ∧ Al v (nth c.args 0) then some v else none from by (unfold passV; repeat (first | rw [if_neg (by omega)] | rw [if_pos (by omega)]))] at hp
    split at hp
    · cases hp; exact hw.mono (by omega)
    · cases hp
  · rw [show passV ds ss rr c v = (argsV ss c [rr] v).bind fun v' => if closedV v' then some v' else none from by (unfold passV; repeat (first | rw [if_neg (by omega)] | rw [if_pos (by omega)]))] at hp
    obtain ⟨v1, h1, hp⟩ := Option.bind_eq_some_iff.1 hp
    split at hp
    · cases hp; exact (argsV_wf hw h.args h1).mono (by omega)
    · cases hp
  · rw [show passV ds ss rr c v = some v from by (unfold passV; repeat (first | rw [if_neg (by omega)] | rw [if_pos (by omega)]))] at hp
    cases hp; exact hw.mono (by omega)
/-! ### joins -/
theorem zip_reg {v1 v2 : List RegK} (h : v1.length = v2.length) {j : Int} (j0 : 0 ≤ j) (j1 : j < v1.length) : nth (List.zipWith joinR v1 v2) j = joinR (nth v1 j) (nth v2 j) := by
  refine nth_of ?_
  rw [List.getElem?_zipWith, nth_get j0 j1, nth_get j0 (by omega)]
theorem joinV_wf {v1 v2 : VwD} (h1 : Wf N B v1) (h2 : Wf N B v2) (h : joinV v1 v2 = some v') : Wf N B v' := by
  unfold joinV at h
  split at h
  case isFalse => cases h
  cases h
  have hl1 := h1.lenI
  have hl2 := h2.lenI
  have e : ∀ j : Int, 0 ≤ j → j < N → (VwD.mk (List.zipWith joinR v1.regs v2.regs) v1.kept).reg j = joinR (v1.reg j) (v2.reg j) := fun j j0 j1 => zip_reg (by omega) j0 (by omega)
  obtain ⟨f, hf⟩ := h1.rank
  refine ⟨by simp only [List.length_zipWith]; omega, h1.klen, fun j j0 j1 => ?_, fun j j0 j1 => ?_, fun j j0 j1 => ?_, fun j j0 j1 => ?_, fun j j0 j1 => ?_, h1.kept_, f, fun j j0 j1 => ?_⟩
  all_goals rw [e j j0 j1]
  · exact h1.own0 j j0 j1
  · have := h1.frm j j0 j1
    unfold joinR
    dsimp only
    repeat' split
    all_goals exact ⟨by omega, by omega⟩
  · have := h1.neg j j0 j1
    unfold joinR
    dsimp only
    refine ⟨by split <;> omega, fun hh => ?_⟩
    refine ⟨?_, ?_, ?_⟩
    · split
      · rfl
      · rename_i hn
        simp only [not_or, Decidable.not_not] at hn
        rw [if_pos hn.1] at hh
        exact (this.2 hh).1
    · rw [if_pos (.inl hh)]
    · rw [if_pos (.inl hh)]
  · have := h1.con j j0 j1
    unfold joinR
    dsimp only
    split
    · exact ⟨by omega, by omega⟩
    · exact this
  · have := h1.sm j j0 j1
    unfold joinR
    dsimp only
    refine ⟨by split <;> omega, ?_, ?_⟩
    · repeat' split
      all_goals omega
    · repeat' split
      all_goals omega
  · intro hh
    have : (joinR (v1.reg j) (v2.reg j)).frm = (v1.reg j).frm := by
      revert hh
      unfold joinR
      dsimp only
      split
      · split
        · intro hh; omega
        · intro _; rfl
      · split
        · intro hh; omega
        · intro _; rfl
    rw [this] at hh ⊢
    exact hf j j0 j1 hh
/-- all that is known is well-formed -/
def WfF (N B : Nat) (F : List (Option VwD)) : Prop := ∀ (i : Int) (v : VwD), nth F i = some v → Wf N B v
theorem WfF.mono (h : WfF N B F) (hb : B ≤ B') : WfF N B' F := fun i v hv => (h i v hv).mono hb
theorem WfF.set (h : WfF N B F) (hv : Wf N B v) (h0 : 0 ≤ i) (h1 : i < F.length) : WfF N B (F.set i.toNat (some v)) := by
  intro j v2 hj
  by_cases j0 : 0 ≤ j
  · rw [nth_set _ _ _ _ h0 h1 j0] at hj
    split at hj
    · cases hj; exact hv
    · exact h j v2 hj
  · have e : nth (F.set i.toNat (some v)) j = nth (F.set i.toNat (some v)) 0 := by unfold nth; rw [show j.toNat = (0 : Int).toNat from by omega]
    rw [e, nth_set _ _ _ _ h0 h1 (Int.le_refl 0)] at hj
    split at hj
    · cases hj; exact hv
    · exact h 0 v2 hj
theorem bringV_wf (h : WfF N B F) (hv : Wf N B v) (h0 : 0 ≤ i) (h1 : i < F.length) (hb : bringV F i v = some F') : WfF N B F' ∧ F'.length = F.length := by
  unfold bringV at hb
  split at hb
  · cases hb; exact ⟨h.set hv h0 h1, by simp⟩
  · rename_i v0 hv0
    obtain ⟨v1, h2, rfl⟩ := Option.map_eq_some_iff.1 hb
    exact ⟨h.set (joinV_wf (h i _ hv0) hv h2) h0 h1, by simp⟩
end
end Go.Vc

namespace Go.Vc
open Go Go.Proofs Go.RowKit
set_option linter.all false
section
variable {u v w : World} {x y z : Sl} {l m : List Int}
theorem c_sameInts (hx : Read v x l) (hy : Read v y m) : Fn Tryz.prog 110 #[x.val, y.val] v (.bool (decide (l = m))) := by
  refine of110 _ _ _ _ ?_
  unfold vc110
  have hxn := hx.n
  have hyn := hy.n
  have hxl := hx.le
  rw [hxn, hyn]
  refine ⟨fun hc => ?_, fun hc => ?_⟩
  · simp only [bls] at hc
    exact ⟨by rw [decide_eq_false (fun h => hc (by rw [h]))], .refl v⟩
  simp only [bls] at hc
  refine ⟨fun i w => v = w ∧ 0 ≤ i ∧ i ≤ l.length ∧ ∀ j : Int, 0 ≤ j → j < i → nth l j = nth m j, fun i _ => (l.length - i).toNat, ⟨rfl, by omega, by omega, fun j j0 j1 => by omega⟩, ?_⟩
  rintro i _ ⟨rfl, i0, i1, hj⟩
  refine ⟨fun hi => ?_, fun hi => ?_⟩
  · simp only [bls] at hi
    refine go_ix hx i0 (by omega) ?_
    refine ld_int hx i0 (by omega) fun _ _ => ?_
    refine go_ix hy i0 (by omega) ?_
    refine ld_int hy i0 (by omega) fun _ _ => ?_
    refine ⟨fun hd => ?_, fun hd => ?_⟩
    · simp only [bls] at hd
      exact ⟨by rw [decide_eq_false (fun h => hd (by rw [h]))], .refl v⟩
    · simp only [bls] at hd
      refine go_wr (by omega) (by omega) ?_
      refine ⟨⟨rfl, by omega, by omega, fun j j0 j1 => ?_⟩, by dsimp only; omega⟩
      by_cases e : j = i
      · subst e; exact hd
      · exact hj j j0 (by omega)
  · simp only [bls] at hi
    have : l = m := by
      refine List.ext_getElem (by omega) fun k k1 k2 => ?_
      have := hj k (by omega) (by omega)
      unfold nth at this
      simpa [List.getD, k1, k2] using this
    exact ⟨by rw [decide_eq_true this], .refl v⟩
end
section
variable {u w : World} {v v' o : VwD} {a a1 : Addr} {r t n i e_ at_ f m rr : Int} {k k' : RegK} {x y z ax jx px lx cx : Sl} {I R L : Items} {N B B' : Nat} {ds : List DeclD} {ss : List SigD} {ps : List ProcD} {c : InstrD} {ts : List Int} {F F' : List (Option VwD)} {g : RegK → Int}
theorem c_copied (hO : VRd u a o) : Mk Tryz.prog 46 #[.pointer (some (a.add 0))] u fun r J => ∃ a' : Addr, r = .pointer (some (a'.add 0)) ∧ Vst a' o J := by
  refine of46 _ _ _ ?_
  unfold vc46
  obtain ⟨x1, x2, x3, x4, x5, x6, x7, ⟨e1, r1⟩, ⟨e2, r2⟩, ⟨e3, r3⟩, ⟨e4, r4⟩, ⟨e5, r5⟩, ⟨e6, r6⟩, ⟨e7, r7⟩⟩ := hO
  refine ⟨x1, e1, x2, e2, x3, e3, x4, e4, x5, e5, x6, e6, x7, e7, ?_⟩
  refine Mk.use (c_copyInts r1) (.refl u) ?_
  rintro _ w1 K1 ⟨z1, rfl, o1⟩ hS hs
  refine ⟨_, rfl, hs, ?_⟩
  refine Mk.use (c_copyInts r2) hS ?_
  rintro _ w2 K2 ⟨z2, rfl, o2⟩ hS hs
  refine ⟨_, rfl, hs, ?_⟩
  refine Mk.use (c_copyInts r3) hS ?_
  rintro _ w3 K3 ⟨z3, rfl, o3⟩ hS hs
  refine ⟨_, rfl, hs, ?_⟩
  refine Mk.use (c_copyInts r4) hS ?_
  rintro _ w4 K4 ⟨z4, rfl, o4⟩ hS hs
  refine ⟨_, rfl, hs, ?_⟩
  refine Mk.use (c_copyInts r5) hS ?_
  rintro _ w5 K5 ⟨z5, rfl, o5⟩ hS hs
  refine ⟨_, rfl, hs, ?_⟩
  refine Mk.use (c_copyInts r6) hS ?_
  rintro _ w6 K6 ⟨z6, rfl, o6⟩ hS hs
  refine ⟨_, rfl, hs, ?_⟩
  refine Mk.use (c_copyInts r7) hS ?_
  rintro _ w7 K7 ⟨z7, rfl, o7⟩ hS hs
  refine ⟨_, rfl, ?_⟩
  refine St.box (vals := [z1.val, z2.val, z3.val, z4.val, z5.val, z6.val, z7.val]) hS ?_
  intro a' w8 I0 hC hS hs
  refine ⟨I0 ++ (K1 ++ (K2 ++ (K3 ++ (K4 ++ (K5 ++ (K6 ++ K7)))))), hS.perm (by
    classical
    exact List.perm_iff_count.2 fun a => by simp only [List.count_append, List.count_nil]; omega), a', rfl, z1, z2, z3, z4, z5, z6, z7, I0, K1, K2, K3, K4, K5, K6, K7, hC, o1.toI, o2.toI, o3.toI, o4.toI, o5.toI, o6.toI, o7.toI, rfl⟩
theorem go_up {K : Prop} (hr : Read w x ((v.upd r k).regs.map g)) (h0 : 0 ≤ r) (h1 : r < v.regs.length) (kk : K) : IxOk x r ∧ K := go_col hr h0 (by rw [VwD.upd_len]; exact h1) kk
theorem go_upg {C K : Prop} (hr : Read w x ((v.upd r k).regs.map g)) (h0 : 0 ≤ r) (h1 : r < v.regs.length) (kk : K) : (C → IxOk x r) ∧ K := go_colg hr (fun _ => ⟨h0, by rw [VwD.upd_len]; exact h1⟩) kk
theorem ld_up {K : Int → Prop} (hr : Read w x ((v.upd r k).regs.map g)) (h0 : 0 ≤ r) (h1 : r < v.regs.length) (kk : K (g k)) : ∃ n, w.cell? ((elA x r 1).add 0) = some (.int .i64 n) ∧ K n := by
  refine ld_col hr h0 (by rw [VwD.upd_len]; exact h1) ?_
  rw [VwD.upd_self h0 h1]; exact kk
theorem ld_upg {C : Prop} {K : Int → Prop} (hr : Read w x ((v.upd r k).regs.map g)) (h0 : 0 ≤ r) (h1 : r < v.regs.length) (kk : K (g k)) : ∃ n, (C → w.cell? ((elA x r 1).add 0) = some (.int .i64 n)) ∧ K n := by
  refine ld_colg hr (fun _ => ⟨h0, by rw [VwD.upd_len]; exact h1⟩) ?_
  rw [VwD.upd_self h0 h1]; exact kk
theorem VwD.upd_id (h0 : 0 ≤ r) (h1 : r < v.regs.length) : v.upd r (v.reg r) = v := by
  refine VwD.ext' VwD.upd_len (fun j j0 j1 => ?_) rfl
  rw [VwD.upd_reg h0 h1 j j0]
  split
  · rename_i e; rw [e]
  · rfl
theorem lentN_and (p q : RegK) : min (lentN p) (lentN q) = lentN ⟨0, 0, p.lent && q.lent, 0, 0, 0⟩ := by
  unfold lentN
  cases p.lent <;> cases q.lent <;> decide
theorem c_merge (hO : VRd u a1 o) (hV : Vst a v I) (hS : St u w (I ++ R)) (hw : Wf N B v) (ho : Wf N B o) : Trip Tryz.prog 67 #[.pointer (some (a.add 0)), .pointer (some (a1.add 0))] w (OpR u R a (joinV v o)) := by
  refine of67 _ _ _ _ ?_
  unfold vc67
  have hl := hw.lenI
  have hlo := ho.lenI
  obtain ⟨x2, e2, r2, _⟩ := hV.so2 hS
  obtain ⟨x6, e6, r6, _⟩ := hV.so6 hS
  obtain ⟨y2, g2, s2⟩ := (hO.mono hS.sub).k2
  obtain ⟨y6, g6, s6⟩ := (hO.mono hS.sub).k6
  have hb := r2.le
  simp only [List.length_map] at hb
  refine ⟨x2, e2, y2, g2, _, c_sameInts r2 s2, ?_⟩
  refine ⟨x6, fun _ => e6, y6, fun _ => g6, _, fun _ => c_sameInts r6 s6, ?_⟩
  unfold joinV
  refine ⟨fun hc => ?_, fun hc => ?_⟩
  · simp only [bls] at hc
    rw [if_neg (fun hh => by
      rcases hc with hc | hc
      · exact hc hh.1
      · exact hc hh.2)]
    exact ⟨rfl, hS.sub⟩
  simp only [bls] at hc
  rw [if_pos hc]
  refine ⟨fun k w' => ∃ v' I', Vst a v' I' ∧ St u w' (I' ++ R) ∧ 0 ≤ k ∧ k ≤ N ∧ v'.regs.length = v.regs.length ∧ v'.kept = v.kept ∧ (∀ j : Int, 0 ≤ j → j < N → v'.reg j = if j < k then joinR (v.reg j) (o.reg j) else v.reg j), fun k _ => (N - k).toNat, ⟨v, I, hV, hS, by omega, by omega, rfl, rfl, fun j j0 j1 => by rw [if_neg (by omega)]⟩, ?_⟩
  clear hV hS e2 r2 e6 r6 g2 s2 g6 s6
  rintro k w ⟨v', I', hV, hS, k0, k1, hl', hk', hj⟩
  dsimp only
  obtain ⟨x1, e1, r1, _⟩ := hV.so1 hS
  have hn := r1.n
  simp only [List.length_map] at hn
  refine ⟨x1, e1, fun hi => ?_, fun hi => ?_⟩
  · simp only [bls] at hi
    have hk1 : k < v'.regs.length := by omega
    have hk2 : k < o.regs.length := by omega
    have hjk := hj k k0 (by omega)
    rw [if_neg (by omega)] at hjk
    clear e1 r1 hn
    generalize hA : v.reg k = A at hjk
    have hk1u : ∀ {K : RegK}, k < (v'.upd k K).regs.length := by intro K; rw [VwD.upd_len]; exact hk1
    rw [← VwD.upd_id k0 hk1 (v := v'), hjk] at hV
    obtain ⟨x1, e1, r1, st1⟩ := hV.so1 hS
    obtain ⟨y1, g1, s1⟩ := (hO.mono hS.sub).k1
    refine ⟨x1, e1, ?_⟩
    refine go_up r1 k0 hk1 ?_
    refine ld_up r1 k0 hk1 ?_
    refine ⟨y1, g1, ?_⟩
    refine go_col s1 k0 hk2 ?_
    refine ld_col s1 k0 hk2 ?_
    refine ⟨fun hq1 => ?_, fun hq1 => ?_⟩
    · simp only [bls] at hq1
      refine ⟨x1, e1, ?_⟩
      refine go_up r1 k0 hk1 ?_
      refine st1 k0 hk1u (by constructor <;> omega) rfl ?_
      clear hV hS st1 e1 r1
      intro w2 I2 hV hS
      rw [VwD.upd_upd, VwD.upd_self k0 hk1] at hV
      try dsimp only at hV
      obtain ⟨x5, e5, r5, st5⟩ := hV.so5 hS
      refine ⟨x5, e5, ?_⟩
      refine go_up r5 k0 hk1 ?_
      refine st5 k0 hk1u (by constructor <;> omega) rfl ?_
      clear hV hS st5 e5 r5
      intro w3 I3 hV hS
      rw [VwD.upd_upd, VwD.upd_self k0 hk1] at hV
      try dsimp only at hV
      obtain ⟨x5, e5, r5, st5⟩ := hV.so5 hS
      obtain ⟨y5, g5, s5⟩ := (hO.mono hS.sub).k5
      refine ⟨x5, e5, ?_⟩
      refine go_up r5 k0 hk1 ?_
      refine ld_up r5 k0 hk1 ?_
      refine ⟨y5, g5, ?_⟩
      refine go_col s5 k0 hk2 ?_
      refine ld_col s5 k0 hk2 ?_
      refine ⟨fun hq2 => ?_, fun hq2 => ?_⟩
      · simp only [bls] at hq2
        refine ⟨x5, e5, ?_⟩
        refine go_up r5 k0 hk1 ?_
        refine st5 k0 hk1u (by constructor <;> omega) rfl ?_
        clear hV hS st5 e5 r5
        intro w6 I6 hV hS
        rw [VwD.upd_upd, VwD.upd_self k0 hk1] at hV
        try dsimp only at hV
        obtain ⟨x1, e1, r1, _⟩ := hV.so1 hS
        obtain ⟨x3, e3, r3, st3⟩ := hV.so3 hS
        obtain ⟨x4, e4, r4, _⟩ := hV.so4 hS
        obtain ⟨y3, g3, s3⟩ := (hO.mono hS.sub).k3
        obtain ⟨y4, g4, s4⟩ := (hO.mono hS.sub).k4
        refine ⟨x1, e1, ?_⟩
        refine go_up r1 k0 hk1 ?_
        refine ld_up r1 k0 hk1 ?_
        refine ⟨x3, fun _ => e3, ?_⟩
        refine go_upg r3 k0 hk1 ?_
        refine ld_upg r3 k0 hk1 ?_
        refine ⟨y3, fun _ => g3, ?_⟩
        refine go_colg s3 (fun _ => ⟨k0, hk2⟩) ?_
        refine ld_colg s3 (fun _ => ⟨k0, hk2⟩) ?_
        refine ⟨x4, fun _ => e4, ?_⟩
        refine go_upg r4 k0 hk1 ?_
        refine ld_upg r4 k0 hk1 ?_
        refine ⟨y4, fun _ => g4, ?_⟩
        refine go_colg s4 (fun _ => ⟨k0, hk2⟩) ?_
        refine ld_colg s4 (fun _ => ⟨k0, hk2⟩) ?_
        refine ⟨fun hq3 => ?_, fun hq3 => ?_⟩
        · simp only [bls] at hq3
          refine ⟨x3, e3, ?_⟩
          refine go_up r3 k0 hk1 ?_
          refine st3 k0 hk1u (by constructor <;> omega) rfl ?_
          clear hV hS st3 e3 e4 r3 r4 e1 r1
          intro w7 I7 hV hS
          rw [VwD.upd_upd, VwD.upd_self k0 hk1] at hV
          try dsimp only at hV
          obtain ⟨x4, e4, r4, st4⟩ := hV.so4 hS
          refine ⟨x4, e4, ?_⟩
          refine go_up r4 k0 hk1 ?_
          refine st4 k0 hk1u (by constructor <;> omega) rfl ?_
          clear hV hS st4 e4 r4
          intro w8 I8 hV hS
          rw [VwD.upd_upd, VwD.upd_self k0 hk1] at hV
          try dsimp only at hV
          obtain ⟨x7, e7, r7, st7⟩ := hV.so7 hS
          obtain ⟨y7, g7, s7⟩ := (hO.mono hS.sub).k7
          refine ⟨x7, e7, x7, e7, ?_⟩
          refine go_up r7 k0 hk1 ?_
          refine ld_up r7 k0 hk1 ?_
          refine ⟨y7, g7, ?_⟩
          refine go_col s7 k0 hk2 ?_
          refine ld_col s7 k0 hk2 ?_
          refine go_min ?_
          refine go_up r7 k0 hk1 ?_
          refine st7 (k := ⟨_, _, A.lent && (o.reg k).lent, _, _, _⟩) k0 hk1u rfl (lentN_and _ _) ?_
          clear hV hS st7
          intro w9 I9 hV hS
          rw [VwD.upd_upd, VwD.upd_self k0 hk1] at hV
          try dsimp only at hV
          refine go_wr (by omega) (by omega) ?_
          refine ⟨⟨_, I9, hV, hS, by omega, by omega, by rw [VwD.upd_len]; exact hl', hk', fun j j0 j1 => ?_⟩, by omega⟩
          rw [VwD.upd_reg k0 hk1 j j0]
          by_cases e : j = k
          · subst e
            rw [if_pos rfl, if_pos (by omega), hA]
            unfold joinR
            dsimp only
            congr 1
            all_goals
              repeat' split
              all_goals omega
          · rw [if_neg e, hj j j0 j1]
            by_cases e2 : j < k
            · rw [if_pos e2, if_pos (by omega)]
            · rw [if_neg e2, if_neg (by omega)]
        · simp only [bls] at hq3
          obtain ⟨x7, e7, r7, st7⟩ := hV.so7 hS
          obtain ⟨y7, g7, s7⟩ := (hO.mono hS.sub).k7
          refine ⟨x7, e7, x7, e7, ?_⟩
          refine go_up r7 k0 hk1 ?_
          refine ld_up r7 k0 hk1 ?_
          refine ⟨y7, g7, ?_⟩
          refine go_col s7 k0 hk2 ?_
          refine ld_col s7 k0 hk2 ?_
          refine go_min ?_
          refine go_up r7 k0 hk1 ?_
          refine st7 (k := ⟨_, _, A.lent && (o.reg k).lent, _, _, _⟩) k0 hk1u rfl (lentN_and _ _) ?_
          clear hV hS st7
          intro w9 I9 hV hS
          rw [VwD.upd_upd, VwD.upd_self k0 hk1] at hV
          try dsimp only at hV
          refine go_wr (by omega) (by omega) ?_
          refine ⟨⟨_, I9, hV, hS, by omega, by omega, by rw [VwD.upd_len]; exact hl', hk', fun j j0 j1 => ?_⟩, by omega⟩
          rw [VwD.upd_reg k0 hk1 j j0]
          by_cases e : j = k
          · subst e
            rw [if_pos rfl, if_pos (by omega), hA]
            unfold joinR
            dsimp only
            congr 1
            all_goals
              repeat' split
              all_goals omega
          · rw [if_neg e, hj j j0 j1]
            by_cases e2 : j < k
            · rw [if_pos e2, if_pos (by omega)]
            · rw [if_neg e2, if_neg (by omega)]
      · simp only [bls] at hq2
        obtain ⟨x1, e1, r1, _⟩ := hV.so1 hS
        obtain ⟨x3, e3, r3, st3⟩ := hV.so3 hS
        obtain ⟨x4, e4, r4, _⟩ := hV.so4 hS
        obtain ⟨y3, g3, s3⟩ := (hO.mono hS.sub).k3
        obtain ⟨y4, g4, s4⟩ := (hO.mono hS.sub).k4
        refine ⟨x1, e1, ?_⟩
        refine go_up r1 k0 hk1 ?_
        refine ld_up r1 k0 hk1 ?_
        refine ⟨x3, fun _ => e3, ?_⟩
        refine go_upg r3 k0 hk1 ?_
        refine ld_upg r3 k0 hk1 ?_
        refine ⟨y3, fun _ => g3, ?_⟩
        refine go_colg s3 (fun _ => ⟨k0, hk2⟩) ?_
        refine ld_colg s3 (fun _ => ⟨k0, hk2⟩) ?_
        refine ⟨x4, fun _ => e4, ?_⟩
        refine go_upg r4 k0 hk1 ?_
        refine ld_upg r4 k0 hk1 ?_
        refine ⟨y4, fun _ => g4, ?_⟩
        refine go_colg s4 (fun _ => ⟨k0, hk2⟩) ?_
        refine ld_colg s4 (fun _ => ⟨k0, hk2⟩) ?_
        refine ⟨fun hq3 => ?_, fun hq3 => ?_⟩
        · simp only [bls] at hq3
          refine ⟨x3, e3, ?_⟩
          refine go_up r3 k0 hk1 ?_
          refine st3 k0 hk1u (by constructor <;> omega) rfl ?_
          clear hV hS st3 e3 e4 r3 r4 e1 r1
          intro w7 I7 hV hS
          rw [VwD.upd_upd, VwD.upd_self k0 hk1] at hV
          try dsimp only at hV
          obtain ⟨x4, e4, r4, st4⟩ := hV.so4 hS
          refine ⟨x4, e4, ?_⟩
          refine go_up r4 k0 hk1 ?_
          refine st4 k0 hk1u (by constructor <;> omega) rfl ?_
          clear hV hS st4 e4 r4
          intro w8 I8 hV hS
          rw [VwD.upd_upd, VwD.upd_self k0 hk1] at hV
          try dsimp only at hV
          obtain ⟨x7, e7, r7, st7⟩ := hV.so7 hS
          obtain ⟨y7, g7, s7⟩ := (hO.mono hS.sub).k7
          refine ⟨x7, e7, x7, e7, ?_⟩
          refine go_up r7 k0 hk1 ?_
          refine ld_up r7 k0 hk1 ?_
          refine ⟨y7, g7, ?_⟩
          refine go_col s7 k0 hk2 ?_
          refine ld_col s7 k0 hk2 ?_
          refine go_min ?_
          refine go_up r7 k0 hk1 ?_
          refine st7 (k := ⟨_, _, A.lent && (o.reg k).lent, _, _, _⟩) k0 hk1u rfl (lentN_and _ _) ?_
          clear hV hS st7
          intro w9 I9 hV hS
          rw [VwD.upd_upd, VwD.upd_self k0 hk1] at hV
          try dsimp only at hV
          refine go_wr (by omega) (by omega) ?_
          refine ⟨⟨_, I9, hV, hS, by omega, by omega, by rw [VwD.upd_len]; exact hl', hk', fun j j0 j1 => ?_⟩, by omega⟩
          rw [VwD.upd_reg k0 hk1 j j0]
          by_cases e : j = k
          · subst e
            rw [if_pos rfl, if_pos (by omega), hA]
            unfold joinR
            dsimp only
            congr 1
            all_goals
              repeat' split
              all_goals omega
          · rw [if_neg e, hj j j0 j1]
            by_cases e2 : j < k
            · rw [if_pos e2, if_pos (by omega)]
            · rw [if_neg e2, if_neg (by omega)]
        · simp only [bls] at hq3
          obtain ⟨x7, e7, r7, st7⟩ := hV.so7 hS
          obtain ⟨y7, g7, s7⟩ := (hO.mono hS.sub).k7
          refine ⟨x7, e7, x7, e7, ?_⟩
          refine go_up r7 k0 hk1 ?_
          refine ld_up r7 k0 hk1 ?_
          refine ⟨y7, g7, ?_⟩
          refine go_col s7 k0 hk2 ?_
          refine ld_col s7 k0 hk2 ?_
          refine go_min ?_
          refine go_up r7 k0 hk1 ?_
          refine st7 (k := ⟨_, _, A.lent && (o.reg k).lent, _, _, _⟩) k0 hk1u rfl (lentN_and _ _) ?_
          clear hV hS st7
          intro w9 I9 hV hS
          rw [VwD.upd_upd, VwD.upd_self k0 hk1] at hV
          try dsimp only at hV
          refine go_wr (by omega) (by omega) ?_
          refine ⟨⟨_, I9, hV, hS, by omega, by omega, by rw [VwD.upd_len]; exact hl', hk', fun j j0 j1 => ?_⟩, by omega⟩
          rw [VwD.upd_reg k0 hk1 j j0]
          by_cases e : j = k
          · subst e
            rw [if_pos rfl, if_pos (by omega), hA]
            unfold joinR
            dsimp only
            congr 1
            all_goals
              repeat' split
              all_goals omega
          · rw [if_neg e, hj j j0 j1]
            by_cases e2 : j < k
            · rw [if_pos e2, if_pos (by omega)]
            · rw [if_neg e2, if_neg (by omega)]
    · simp only [bls] at hq1
      obtain ⟨x5, e5, r5, st5⟩ := hV.so5 hS
      obtain ⟨y5, g5, s5⟩ := (hO.mono hS.sub).k5
      refine ⟨x5, e5, ?_⟩
      refine go_up r5 k0 hk1 ?_
      refine ld_up r5 k0 hk1 ?_
      refine ⟨y5, g5, ?_⟩
      refine go_col s5 k0 hk2 ?_
      refine ld_col s5 k0 hk2 ?_
      refine ⟨fun hq2 => ?_, fun hq2 => ?_⟩
      · simp only [bls] at hq2
        refine ⟨x5, e5, ?_⟩
        refine go_up r5 k0 hk1 ?_
        refine st5 k0 hk1u (by constructor <;> omega) rfl ?_
        clear hV hS st5 e5 r5
        intro w6 I6 hV hS
        rw [VwD.upd_upd, VwD.upd_self k0 hk1] at hV
        try dsimp only at hV
        obtain ⟨x1, e1, r1, _⟩ := hV.so1 hS
        obtain ⟨x3, e3, r3, st3⟩ := hV.so3 hS
        obtain ⟨x4, e4, r4, _⟩ := hV.so4 hS
        obtain ⟨y3, g3, s3⟩ := (hO.mono hS.sub).k3
        obtain ⟨y4, g4, s4⟩ := (hO.mono hS.sub).k4
        refine ⟨x1, e1, ?_⟩
        refine go_up r1 k0 hk1 ?_
        refine ld_up r1 k0 hk1 ?_
        refine ⟨x3, fun _ => e3, ?_⟩
        refine go_upg r3 k0 hk1 ?_
        refine ld_upg r3 k0 hk1 ?_
        refine ⟨y3, fun _ => g3, ?_⟩
        refine go_colg s3 (fun _ => ⟨k0, hk2⟩) ?_
        refine ld_colg s3 (fun _ => ⟨k0, hk2⟩) ?_
        refine ⟨x4, fun _ => e4, ?_⟩
        refine go_upg r4 k0 hk1 ?_
        refine ld_upg r4 k0 hk1 ?_
        refine ⟨y4, fun _ => g4, ?_⟩
        refine go_colg s4 (fun _ => ⟨k0, hk2⟩) ?_
        refine ld_colg s4 (fun _ => ⟨k0, hk2⟩) ?_
        refine ⟨fun hq3 => ?_, fun hq3 => ?_⟩
        · simp only [bls] at hq3
          refine ⟨x3, e3, ?_⟩
          refine go_up r3 k0 hk1 ?_
          refine st3 k0 hk1u (by constructor <;> omega) rfl ?_
          clear hV hS st3 e3 e4 r3 r4 e1 r1
          intro w7 I7 hV hS
          rw [VwD.upd_upd, VwD.upd_self k0 hk1] at hV
          try dsimp only at hV
          obtain ⟨x4, e4, r4, st4⟩ := hV.so4 hS
          refine ⟨x4, e4, ?_⟩
          refine go_up r4 k0 hk1 ?_
          refine st4 k0 hk1u (by constructor <;> omega) rfl ?_
          clear hV hS st4 e4 r4
          intro w8 I8 hV hS
          rw [VwD.upd_upd, VwD.upd_self k0 hk1] at hV
          try dsimp only at hV
          obtain ⟨x7, e7, r7, st7⟩ := hV.so7 hS
          obtain ⟨y7, g7, s7⟩ := (hO.mono hS.sub).k7
          refine ⟨x7, e7, x7, e7, ?_⟩
          refine go_up r7 k0 hk1 ?_
          refine ld_up r7 k0 hk1 ?_
          refine ⟨y7, g7, ?_⟩
          refine go_col s7 k0 hk2 ?_
          refine ld_col s7 k0 hk2 ?_
          refine go_min ?_
          refine go_up r7 k0 hk1 ?_
          refine st7 (k := ⟨_, _, A.lent && (o.reg k).lent, _, _, _⟩) k0 hk1u rfl (lentN_and _ _) ?_
          clear hV hS st7
          intro w9 I9 hV hS
          rw [VwD.upd_upd, VwD.upd_self k0 hk1] at hV
          try dsimp only at hV
          refine go_wr (by omega) (by omega) ?_
          refine ⟨⟨_, I9, hV, hS, by omega, by omega, by rw [VwD.upd_len]; exact hl', hk', fun j j0 j1 => ?_⟩, by omega⟩
          rw [VwD.upd_reg k0 hk1 j j0]
          by_cases e : j = k
          · subst e
            rw [if_pos rfl, if_pos (by omega), hA]
            unfold joinR
            dsimp only
            congr 1
            all_goals
              repeat' split
              all_goals omega
          · rw [if_neg e, hj j j0 j1]
            by_cases e2 : j < k
            · rw [if_pos e2, if_pos (by omega)]
            · rw [if_neg e2, if_neg (by omega)]
        · simp only [bls] at hq3
          obtain ⟨x7, e7, r7, st7⟩ := hV.so7 hS
          obtain ⟨y7, g7, s7⟩ := (hO.mono hS.sub).k7
          refine ⟨x7, e7, x7, e7, ?_⟩
          refine go_up r7 k0 hk1 ?_
          refine ld_up r7 k0 hk1 ?_
          refine ⟨y7, g7, ?_⟩
          refine go_col s7 k0 hk2 ?_
          refine ld_col s7 k0 hk2 ?_
          refine go_min ?_
          refine go_up r7 k0 hk1 ?_
          refine st7 (k := ⟨_, _, A.lent && (o.reg k).lent, _, _, _⟩) k0 hk1u rfl (lentN_and _ _) ?_
          clear hV hS st7
          intro w9 I9 hV hS
          rw [VwD.upd_upd, VwD.upd_self k0 hk1] at hV
          try dsimp only at hV
          refine go_wr (by omega) (by omega) ?_
          refine ⟨⟨_, I9, hV, hS, by omega, by omega, by rw [VwD.upd_len]; exact hl', hk', fun j j0 j1 => ?_⟩, by omega⟩
          rw [VwD.upd_reg k0 hk1 j j0]
          by_cases e : j = k
          · subst e
            rw [if_pos rfl, if_pos (by omega), hA]
            unfold joinR
            dsimp only
            congr 1
            all_goals
              repeat' split
              all_goals omega
          · rw [if_neg e, hj j j0 j1]
            by_cases e2 : j < k
            · rw [if_pos e2, if_pos (by omega)]
            · rw [if_neg e2, if_neg (by omega)]
      · simp only [bls] at hq2
        obtain ⟨x1, e1, r1, _⟩ := hV.so1 hS
        obtain ⟨x3, e3, r3, st3⟩ := hV.so3 hS
        obtain ⟨x4, e4, r4, _⟩ := hV.so4 hS
        obtain ⟨y3, g3, s3⟩ := (hO.mono hS.sub).k3
        obtain ⟨y4, g4, s4⟩ := (hO.mono hS.sub).k4
        refine ⟨x1, e1, ?_⟩
        refine go_up r1 k0 hk1 ?_
        refine ld_up r1 k0 hk1 ?_
        refine ⟨x3, fun _ => e3, ?_⟩
        refine go_upg r3 k0 hk1 ?_
        refine ld_upg r3 k0 hk1 ?_
        refine ⟨y3, fun _ => g3, ?_⟩
        refine go_colg s3 (fun _ => ⟨k0, hk2⟩) ?_
        refine ld_colg s3 (fun _ => ⟨k0, hk2⟩) ?_
        refine ⟨x4, fun _ => e4, ?_⟩
        refine go_upg r4 k0 hk1 ?_
        refine ld_upg r4 k0 hk1 ?_
        refine ⟨y4, fun _ => g4, ?_⟩
        refine go_colg s4 (fun _ => ⟨k0, hk2⟩) ?_
        refine ld_colg s4 (fun _ => ⟨k0, hk2⟩) ?_
        refine ⟨fun hq3 => ?_, fun hq3 => ?_⟩
        · simp only [bls] at hq3
          refine ⟨x3, e3, ?_⟩
          refine go_up r3 k0 hk1 ?_
          refine st3 k0 hk1u (by constructor <;> omega) rfl ?_
          clear hV hS st3 e3 e4 r3 r4 e1 r1
          intro w7 I7 hV hS
          rw [VwD.upd_upd, VwD.upd_self k0 hk1] at hV
          try dsimp only at hV
          obtain ⟨x4, e4, r4, st4⟩ := hV.so4 hS
          refine ⟨x4, e4, ?_⟩
          refine go_up r4 k0 hk1 ?_
          refine st4 k0 hk1u (by constructor <;> omega) rfl ?_
          clear hV hS st4 e4 r4
          intro w8 I8 hV hS
          rw [VwD.upd_upd, VwD.upd_self k0 hk1] at hV
          try dsimp only at hV
          obtain ⟨x7, e7, r7, st7⟩ := hV.so7 hS
          obtain ⟨y7, g7, s7⟩ := (hO.mono hS.sub).k7
          refine ⟨x7, e7, x7, e7, ?_⟩
          refine go_up r7 k0 hk1 ?_
          refine ld_up r7 k0 hk1 ?_
          refine ⟨y7, g7, ?_⟩
          refine go_col s7 k0 hk2 ?_
          refine ld_col s7 k0 hk2 ?_
          refine go_min ?_
          refine go_up r7 k0 hk1 ?_
          refine st7 (k := ⟨_, _, A.lent && (o.reg k).lent, _, _, _⟩) k0 hk1u rfl (lentN_and _ _) ?_
          clear hV hS st7
          intro w9 I9 hV hS
          rw [VwD.upd_upd, VwD.upd_self k0 hk1] at hV
          try dsimp only at hV
          refine go_wr (by omega) (by omega) ?_
          refine ⟨⟨_, I9, hV, hS, by omega, by omega, by rw [VwD.upd_len]; exact hl', hk', fun j j0 j1 => ?_⟩, by omega⟩
          rw [VwD.upd_reg k0 hk1 j j0]
          by_cases e : j = k
          · subst e
            rw [if_pos rfl, if_pos (by omega), hA]
            unfold joinR
            dsimp only
            congr 1
            all_goals
              repeat' split
              all_goals omega
          · rw [if_neg e, hj j j0 j1]
            by_cases e2 : j < k
            · rw [if_pos e2, if_pos (by omega)]
            · rw [if_neg e2, if_neg (by omega)]
        · simp only [bls] at hq3
          obtain ⟨x7, e7, r7, st7⟩ := hV.so7 hS
          obtain ⟨y7, g7, s7⟩ := (hO.mono hS.sub).k7
          refine ⟨x7, e7, x7, e7, ?_⟩
          refine go_up r7 k0 hk1 ?_
          refine ld_up r7 k0 hk1 ?_
          refine ⟨y7, g7, ?_⟩
          refine go_col s7 k0 hk2 ?_
          refine ld_col s7 k0 hk2 ?_
          refine go_min ?_
          refine go_up r7 k0 hk1 ?_
          refine st7 (k := ⟨_, _, A.lent && (o.reg k).lent, _, _, _⟩) k0 hk1u rfl (lentN_and _ _) ?_
          clear hV hS st7
          intro w9 I9 hV hS
          rw [VwD.upd_upd, VwD.upd_self k0 hk1] at hV
          try dsimp only at hV
          refine go_wr (by omega) (by omega) ?_
          refine ⟨⟨_, I9, hV, hS, by omega, by omega, by rw [VwD.upd_len]; exact hl', hk', fun j j0 j1 => ?_⟩, by omega⟩
          rw [VwD.upd_reg k0 hk1 j j0]
          by_cases e : j = k
          · subst e
            rw [if_pos rfl, if_pos (by omega), hA]
            unfold joinR
            dsimp only
            congr 1
            all_goals
              repeat' split
              all_goals omega
          · rw [if_neg e, hj j j0 j1]
            by_cases e2 : j < k
            · rw [if_pos e2, if_pos (by omega)]
            · rw [if_neg e2, if_neg (by omega)]
  · simp only [bls] at hi
    refine ⟨I', rfl, ?_, hS⟩
    rw [show VwD.mk (List.zipWith joinR v.regs o.regs) v.kept = v' from ?_]
    · exact hV
    refine VwD.ext' (by simp only [List.length_zipWith]; omega) (fun j j0 j1 => ?_) hk'.symm
    simp only [List.length_zipWith] at j1
    rw [hj j j0 (by omega), if_pos (by omega)]
    exact zip_reg (by omega) j0 (by omega)
end
end Go.Vc
