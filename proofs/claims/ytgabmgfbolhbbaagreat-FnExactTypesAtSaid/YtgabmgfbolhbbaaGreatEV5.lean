/- Part of the proofs about the heaps and memories: a law is joined in the text whose name ends in W and the law. -/
import Derived.Test.YtgabmgfbolhbbaaGreatEV4
namespace Go.Vc
open Go Go.Proofs Go.RowKit
set_option linter.all false
theorem c_indexFunc0K {v : World} {x : Sl} {l : List Int} {p : Int → Bool} {f : Nat} (hx : Read v x l) (hf : ∀ w, Sub v w → ∀ n ∈ l, Trip Tryz.prog f #[.int .i64 n] w fun r w' => r = .bool (p n) ∧ Sub w w') :
    Trip Tryz.prog 122 #[x.val, .func (.func f) #[] #[]] v fun r w' => (∃ k : Int, r = .int .i64 k ∧ (0 ≤ k ↔ ∃ n ∈ l, p n = true)) ∧ Sub v w' := by
  refine of122z _ _ _ _ ?_
  unfold vc122z
  have hn := hx.n
  have hl := hx.le
  refine ⟨fun i w => Sub v w ∧ 0 ≤ i ∧ i ≤ l.length ∧ ∀ n ∈ l.take i.toNat, p n = false, fun i _ => (l.length - i).toNat, ⟨.refl v, by omega, by omega, by simp⟩, ?_⟩
  rintro i w ⟨hs, h0, h1, h2⟩
  dsimp only
  refine ⟨fun hi => ?_, fun hi => ?_⟩
  · simp only [bls] at hi
    refine go_ix hx h0 (by omega) ?_
    refine ld_int (hx.mono hs) h0 (by omega) ?_
    intro a0 a1
    have hm := nth_mem (l := l) h0 (by omega)
    refine Trip.mono' (hf w hs _ hm) ?_
    rintro _ w2 ⟨rfl, hs2⟩
    refine ⟨_, rfl, fun hq => ⟨⟨i, rfl, fun _ => ⟨_, hm, hq⟩, fun _ => h0⟩, hs.trans hs2⟩, fun hq => ?_⟩
    refine go_wr (by omega) (by omega) ?_
    refine ⟨⟨hs.trans hs2, by omega, by omega, ?_⟩, by omega⟩
    rw [take_nth h0 (by omega)]; intro n hn
    rcases List.mem_append.1 hn with hn | hn
    · exact h2 n hn
    · rw [List.mem_singleton.1 hn]; exact hq
  · simp only [bls] at hi
    rw [take_all (by omega)] at h2
    refine ⟨⟨-1, rfl, fun h => by omega, fun ⟨n, hn, hp⟩ => by rw [h2 n hn] at hp; cases hp⟩, hs⟩

/-- an instruction of a valid image, as the program reads it -/
structure InQ (u : World) (x s ax jx : Sl) (ds : List DeclD) (ss : List SigD) (N : Nat) (e_ at_ : Int) (c : InstrD) : Prop where
  hx : Read u x ds
  hs : Read u s ss
  hax : Read u ax c.args
  hjx : Read u jx c.jumps
  sg : sigSigs ds ss
  ok : instrOk ds ss N e_ at_ c
  hN : N ≤ 2000
  a0 : 0 ≤ at_
  he : e_ ≤ 2000
/-- the arguments that are lent -/
def lentL (ss : List SigD) (c : InstrD) (n : Nat) : List Int := ((List.range n).filter fun (i : Nat) => lentA ss c i).map fun (i : Nat) => nth c.args i
theorem one_el {T : List Int} (h : T.length = 1) : T = [nth T 0] := by
  match T, h with
  | [p], _ => rfl
section
variable {u u1 w : World} {v v' o : VwD} {a a0 a1 : Addr} {r t n i m op num rr f e_ at_ res : Int} {x y z s ax jx tx : Sl} {I R L : Items} {N B : Nat} {ds : List DeclD} {ss : List SigD} {T ts : List Int} {c : InstrD} {l : List RegK}
theorem InQ.P (h : InQ u x s ax jx ds ss N e_ at_ c) : InP ds ss N e_ at_ c := ⟨h.sg, h.ok, h.hN⟩
theorem InQ.mono {u' : World} (h : InQ u x s ax jx ds ss N e_ at_ c) (hs : Sub u u') : InQ u' x s ax jx ds ss N e_ at_ c := ⟨h.hx.mono hs, h.hs.mono hs, h.hax.mono hs, h.hjx.mono hs, h.sg, h.ok, h.hN, h.a0, h.he⟩
theorem InQ.sm (h : InQ u x s ax jx ds ss N e_ at_ c) : SmInstr c := instr_sm h.sg (by have := h.hN; omega) h.a0 h.he h.ok
theorem InQ.args (h : InQ u x s ax jx ds ss N e_ at_ c) : ∀ k : Int, 0 ≤ k → k < c.args.length → 0 ≤ nth c.args k ∧ nth c.args k < N := h.P.args
theorem InQ.dst (h : InQ u x s ax jx ds ss N e_ at_ c) : 0 ≤ c.dst ∧ c.dst < N := h.P.dst
theorem lentL_succ {n : Nat} : lentL ss c (n + 1) = if lentA ss c n = true then lentL ss c n ++ [nth c.args n] else lentL ss c n := by
  unfold lentL
  rw [List.range_succ, List.filter_append]
  by_cases h : lentA ss c n = true
  · rw [if_pos h]; simp [h]
  · rw [if_neg h]; simp at h; simp [h]
theorem lentL_len {n : Nat} : (lentL ss c n).length ≤ n := by
  unfold lentL
  rw [List.length_map]
  exact Nat.le_trans (List.length_filter_le _ _) (by simp)
theorem lentL_mem {n : Nat} (h : m ∈ lentL ss c n) : ∃ i : Int, 0 ≤ i ∧ i < n ∧ m = nth c.args i ∧ lentA ss c i = true := by
  unfold lentL at h
  obtain ⟨i, hi, rfl⟩ := List.mem_map.1 h
  obtain ⟨h1, h2⟩ := List.mem_filter.1 hi
  exact ⟨i, by omega, by have := List.mem_range.1 h1; omega, rfl, h2⟩
theorem lentL_get {n : Nat} (h0 : 0 ≤ i) (h1 : i < n) (h : lentA ss c i = true) : ∃ j : Int, 0 ≤ j ∧ j < (lentL ss c n).length ∧ nth (lentL ss c n) j = nth c.args i := by
  have hm : nth c.args i ∈ lentL ss c n := by
    unfold lentL
    refine List.mem_map.2 ⟨i.toNat, List.mem_filter.2 ⟨List.mem_range.2 (by omega), ?_⟩, ?_⟩
    · rw [show ((i.toNat : Nat) : Int) = i from by omega]; exact h
    · rw [show ((i.toNat : Nat) : Int) = i from by omega]
  obtain ⟨j, hj, e⟩ := List.mem_iff_getElem.1 hm
  exact ⟨j, by omega, by omega, by rw [nth_of (i := j) (l := lentL ss c n) (a := (lentL ss c n)[j]) (by simp [hj])]; exact e⟩
theorem wantT_pos (h : InP ds ss N e_ at_ c) (hrr : 0 ≤ rr ∧ rr ≤ 1000) (hw : wantT ds ss rr c.op c.num t = some (ts, res)) : (∀ k : Int, 0 ≤ k → k < ts.length → 0 ≤ nth ts k) ∧ (-1 ≤ res ∧ res ≤ 1000) ∧ ∀ k : Int, 0 ≤ k → k < ts.length → lentA ss c k = true → nth ts k ≠ 0 := by
  classical
  have hdl := h.sg.1.1
  have hop := h.ok.1
  unfold opOk at hop
  have nol : c.op ≠ 9 → c.op ≠ 24 → ∀ k : Int, 0 ≤ k → k < ts.length → lentA ss c k = true → nth ts k ≠ 0 := fun h1 h2 k k0 k1 hl => by
    unfold lentA at hl
    simp [h1, h2] at hl
  have par : 0 ≤ c.num → c.num < ss.length → ∀ k : Int, 0 ≤ k → k < (nth ss c.num).params.length → 0 ≤ nth (nth ss c.num).params k := fun h0 h1 k k0 k1 => by
    have := List.all_eq_true.1 (h.sg.2.2.2.2.2 c.num h0 h1).1.2.1 _ (nth_mem k0 k1)
    unfold typeB at this
    simp only [Bool.and_eq_true, decide_eq_true_eq] at this
    omega
  have rs : 0 ≤ c.num → c.num < ss.length → 0 ≤ (nth ss c.num).result ∧ (nth ss c.num).result ≤ 4 := fun h0 h1 => by
    have := (h.sg.2.2.2.2.2 c.num h0 h1).1.2.2
    unfold typeB at this
    simp only [Bool.and_eq_true, decide_eq_true_eq] at this
    omega
  have ln : 0 ≤ c.num → c.num < ss.length → ∀ k : Int, lentA ss c k = true → nth (nth ss c.num).params k ≠ 0 := fun h0 h1 k hl => by
    unfold lentA at hl
    simp only [Bool.and_eq_true] at hl
    obtain ⟨_, hl⟩ := hl
    rw [any_mem, decide_eq_true_eq] at hl
    obtain ⟨j, hj, e⟩ := List.mem_iff_getElem.1 hl
    have := (h.sg.2.2.2.2.2 c.num h0 h1).2 j (by omega) (by omega)
    unfold lent1 at this
    rw [nth_of (i := j) (l := (nth ss c.num).lent) (a := (nth ss c.num).lent[j]) (by simp [hj]), e] at this
    exact this.2.2.1
  unfold wantT at hw
  split at hw
  · cases hw; exact ⟨fun k k0 k1 => by simp at k1; omega, by omega, fun k k0 k1 => by simp at k1; omega⟩
  split at hw
  · cases hw
    refine ⟨fun k k0 k1 => ?_, by omega, nol (by omega) (by omega)⟩
    have : k = 0 ∨ k = 1 := by simp at k1; omega
    rcases this with rfl | rfl <;> decide
  split at hw
  · cases hw
    refine ⟨fun k k0 k1 => ?_, by omega, nol (by omega) (by omega)⟩
    have : k = 0 := by simp at k1; omega
    subst this; decide
  split at hw
  · cases hw
    have := conTyV_bd (n := c.num) h.sg.1
    exact ⟨fun k k0 k1 => (conF_typ h.sg.1 k0 k1).1, by omega, nol (by omega) (by omega)⟩
  split at hw
  · rename_i hop
    cases hw
    have hv := (numV_call (.inl hop)).1 h.ok.2.2.2.2.2.2.2.2.1
    have := rs hv.1 hv.2
    exact ⟨par hv.1 hv.2, by omega, fun k _ _ => ln hv.1 hv.2 k⟩
  split at hw
  · rename_i hop
    split at hw
    · cases hw
      have hv := (numV_call (.inr hop)).1 h.ok.2.2.2.2.2.2.2.2.1
      have := rs hv.1 hv.2
      exact ⟨par hv.1 hv.2, by omega, fun k _ _ => ln hv.1 hv.2 k⟩
    · cases hw
  split at hw
  · rename_i hop
    split at hw
    · cases hw
      have hv := (numV_close hop).1 h.ok.2.2.2.2.2.2.2.2.1
      have hbd := arrI_bd (ds := ds) (f := nth (nth ss c.num).params (((nth ss c.num).params.length : Int) - 1)) (t := (nth ss c.num).result) hdl
      refine ⟨fun k k0 k1 => ?_, by omega, nol (by omega) (by omega)⟩
      rw [List.length_take] at k1
      have := par hv.1 hv.2.1 k k0 (by omega)
      have e : nth ((nth ss c.num).params.take ((nth ss c.num).params.length - 1)) k = nth (nth ss c.num).params k := by
        refine nth_of ?_
        rw [List.getElem?_take, if_pos (by omega)]
        exact nth_get k0 (by omega)
      rw [e]; exact this
    · cases hw
  split at hw
  · split at hw
    · rename_i hk
      cases hw
      obtain ⟨⟨b1, b2⟩, b3, b4⟩ := isArr_to h.sg.1 hk
      refine ⟨fun k k0 k1 => ?_, by omega, nol (by omega) (by omega)⟩
      have : k = 0 ∨ k = 1 := by simp at k1; omega
      have ht := hk.1
      rcases this with rfl | rfl
      · show 0 ≤ t; omega
      · exact b1
    · cases hw
  split at hw
  · cases hw
    refine ⟨fun k k0 k1 => ?_, by omega, nol (by omega) (by omega)⟩
    have : k = 0 := by simp at k1; omega
    subst this; exact hrr.1
  · cases hw
theorem wantT_t0 (h : op ≠ 11) : wantT ds ss rr op num t = wantT ds ss rr op num m := by
  unfold wantT
  simp only [if_neg h]
theorem c_indexOwned {v : World} (hx : Read v x l) : ∃ k : Int, (0 ≤ k ↔ ∃ i : Int, 0 ≤ i ∧ i < l.length ∧ 0 < (nth l i).own) ∧ Fn Tryz.prog 147 #[x.val, .func (.func 145) #[] #[]] v (.int .i64 k) := by
  classical
  have hn := hx.n
  have hl := hx.le
  have hex : ∃ k : Int, (0 ≤ k ∧ k < l.length ∧ 0 < (nth l k).own ∧ ∀ j : Int, 0 ≤ j → j < k → ¬ 0 < (nth l j).own) ∨ (k = -1 ∧ ∀ j : Int, 0 ≤ j → j < l.length → ¬ 0 < (nth l j).own) := by
    by_cases h : ∃ i : Nat, i < l.length ∧ 0 < (nth l i).own
    · have h1 := leastM_spec h
      refine ⟨leastM (fun i : Nat => i < l.length ∧ 0 < (nth l i).own), .inl ⟨by omega, by omega, h1.2, fun j j0 j1 hj => ?_⟩⟩
      have := leastM_le (p := fun i : Nat => i < l.length ∧ 0 < (nth l i).own) (k := j.toNat) ⟨by omega, by rw [show ((j.toNat : Nat) : Int) = j from by omega]; exact hj⟩
      omega
    · exact ⟨-1, .inr ⟨rfl, fun j j0 j1 hj => h ⟨j.toNat, by omega, by rw [show ((j.toNat : Nat) : Int) = j from by omega]; exact hj⟩⟩⟩
  obtain ⟨k, hk⟩ := hex
  refine ⟨k, ⟨fun h => ?_, fun ⟨i, i0, i1, hi⟩ => ?_⟩, ?_⟩
  · rcases hk with ⟨h1, h2, h3, _⟩ | ⟨h1, _⟩
    · exact ⟨k, h1, h2, h3⟩
    · omega
  · rcases hk with ⟨h1, _⟩ | ⟨_, h1⟩
    · exact h1
    · exact absurd hi (h1 i i0 i1)
  refine of147 x ⟨.func (.func 145) #[] #[], rfl⟩ _ _ ?_
  unfold vc147
  refine ⟨fun i w => Sub v w ∧ 0 ≤ i ∧ i ≤ l.length ∧ ∀ j : Int, 0 ≤ j → j < i → ¬ 0 < (nth l j).own, fun i _ => (l.length - i).toNat, ⟨.refl v, by omega, by omega, fun j j0 j1 => by omega⟩, ?_⟩
  rintro i w ⟨hs, i0, i1, hj⟩
  dsimp only
  refine ⟨fun hi => ?_, fun hi => ?_⟩
  · simp only [bls] at hi
    obtain ⟨e1, e2, e3, e4, e5, e6⟩ := rkL (hx.mono hs) i0 (by omega)
    refine go_ix hx i0 (by omega) ?_
    refine ⟨_, _, _, _, _, _, ⟨e1, e2, e3, e4, e5, e6⟩, 145, [], rfl, ?_⟩
    refine of145 _ _ _ _ _ _ _ _ ?_
    unfold vc145
    refine ⟨_, rfl, fun hq => ?_, fun hq => ?_⟩
    · simp only [bls] at hq
      refine ⟨?_, hs⟩
      rcases hk with ⟨h1, h2, h3, h4⟩ | ⟨h1, h4⟩
      · have : i = k := by
          rcases Int.lt_trichotomy i k with h5 | h5 | h5
          · exact absurd hq (h4 i i0 h5)
          · exact h5
          · exact absurd h3 (hj k h1 h5)
        rw [this]
      · exact absurd hq (h4 i i0 (by omega))
    · simp only [bls] at hq
      refine go_wr (by omega) (by omega) ?_
      refine ⟨⟨hs, by omega, by omega, fun j j0 j1 => ?_⟩, by omega⟩
      by_cases e : j = i
      · subst e; omega
      · exact hj j j0 (by omega)
  · simp only [bls] at hi
    refine ⟨?_, hs⟩
    rcases hk with ⟨h1, h2, h3, h4⟩ | ⟨h1, h4⟩
    · exact absurd h3 (hj k h1 (by omega))
    · rw [h1]
theorem c_anyOwned {v : World} (hx : Read v x l) : ∃ q : Bool, (q = true ↔ ∃ i : Int, 0 ≤ i ∧ i < l.length ∧ 0 < (nth l i).own) ∧ Fn Tryz.prog 144 #[x.val, .func (.func 145) #[] #[]] v (.bool q) := by
  obtain ⟨k, hk, hf⟩ := c_indexOwned hx
  refine ⟨decide (k ≥ 0), by rw [decide_eq_true_eq]; exact hk, ?_⟩
  refine of144 x ⟨.func (.func 145) #[] #[], rfl⟩ _ _ ?_
  unfold vc144
  exact ⟨k, hf, rfl, .refl v⟩
theorem c_anyKept {v : World} {l : List Int} (hx : Read v x l) : Trip Tryz.prog 90 #[x.val, .func (.func 146) #[] #[]] v fun r w' => (∃ q : Bool, r = .bool q ∧ (q = true ↔ ∃ n ∈ l, 0 ≤ n)) ∧ Sub v w' := by
  refine of90z _ _ _ _ ?_
  unfold vc90z
  refine Trip.mono' (c_indexFunc0K (p := fun n => decide (n ≥ 0)) hx fun w hs n hn => ?_) ?_
  · refine of146 _ _ _ ?_
    exact ⟨rfl, .refl w⟩
  rintro _ w1 ⟨⟨k, rfl, hk⟩, hs⟩
  refine ⟨_, rfl, ⟨_, rfl, ?_⟩, hs⟩
  simp only [decide_eq_true_eq, ge_iff_le] at hk ⊢
  exact hk
theorem c_finish (h : InQ u x s ax jx ds ss N e_ at_ c) (hop : c.op = 20 ∨ c.op = 23 ∨ c.op = 24 ∨ (0 ≤ c.op ∧ c.op ≤ 11)) (hV : Kst a v I) (hS : St u w (I ++ R)) (hw : Wf N B v) (hB : B ≤ 1099511627776) (hres : InI res) :
    Trip Tryz.prog 140 #[.pointer (some (a0.add 0)), .pointer (some (a.add 0)), .agg #[.int .i64 c.op, .int .i64 c.dst, .int .i64 c.num, .int .i64 c.into, ax.val, jx.val], .int .i64 res] w (OpK u R a (finV c res v)) := by
  classical
  refine of140 _ _ _ _ _ _ _ _ _ _ _ ?_
  unfold vc140
  have hl := hw.lenI
  have hkl := hw.klen
  have hin := h.ok.2.2.2.2.1
  have hNb := h.hN
  have hdst := h.dst
  have han := h.hax.n
  obtain ⟨z, y, hX⟩ := hV
  unfold finV
  refine ⟨fun hc => ?_, fun hc => ?_⟩
  · simp only [bls] at hc
    rw [if_pos hc]
    obtain ⟨q, hq, hf⟩ := c_anyOwned (hX.rd hS)
    refine ⟨z, hX.ld0 hS, q, hf, y, fun _ => hX.ld1 hS, fun hn => ?_, fun hn => ?_⟩
    · simp only [bls] at hn
      refine Trip.mono' (c_anyKept (hX.rk hS)) ?_
      rintro _ w1 ⟨⟨q2, rfl, hq2⟩, hs⟩
      refine ⟨q2, rfl, ?_⟩
      by_cases hk : closedV v
      · rw [if_pos hk]
        have : q2 = false := by
          cases q2 with
          | false => rfl
          | true =>
            obtain ⟨n, hn, hn0⟩ := hq2.1 rfl
            obtain ⟨i, hi, rfl⟩ := List.getElem_of_mem hn
            have := hk.2 i (by omega) (by omega)
            rw [nth_of (i := i) (l := v.kept) (a := v.kept[i]) (by simp [hi])] at this
            omega
        rw [this]
        exact ⟨I, rfl, ⟨z, y, hX⟩, hS.sub_w hs⟩
      · rw [if_neg hk]
        refine ⟨?_, hS.sub.trans hs⟩
        have : q2 = true := by
          refine hq2.2 ?_
          apply Classical.byContradiction
          intro hno
          refine hk ⟨fun r r0 r1 => ?_, fun r r0 r1 => ?_⟩
          · have h1 := (hw.own0 r r0 (by omega)).1
            have h2 : ¬ 0 < (v.reg r).own := fun h3 => by
              have := hq.2 ⟨r, r0, r1, h3⟩
              rw [hn] at this; cases this
            omega
          · have h2 : ¬ 0 ≤ nth v.kept r := fun h3 => hno ⟨_, nth_mem r0 r1, h3⟩
            omega
        rw [this]; rfl
    · simp only [bls] at hn
      have hk : ¬ closedV v := fun hk => by
        obtain ⟨i, i0, i1, hi⟩ := hq.1 hn
        have := hk.1 i i0 i1
        unfold VwD.reg at this
        omega
      rw [if_neg hk]
      exact ⟨rfl, hS.sub⟩
  · simp only [bls] at hc
    rw [if_neg (by omega)]
    refine ⟨fun hi => ?_, fun hi => ?_⟩
    · simp only [bls] at hi
      rw [han]
      refine ⟨y, hX.ld1 hS, ?_⟩
      refine go_wr (by omega) (by omega) ?_
      refine go_ix (hX.rk hS) (by omega) (by omega) ?_
      refine ld_int (hX.rk hS) (by omega) (by omega) fun _ _ => ?_
      refine ⟨fun hd => ?_, fun hd => ?_⟩
      · simp only [bls] at hd
        unfold intoV
        rw [if_neg hi, if_pos hd]
        exact ⟨rfl, hS.sub⟩
      · simp only [bls] at hd
        rw [show intoV c v = some (keepV v (c.into - 1) (-1)) from by unfold intoV; rw [if_neg hi, if_neg (by omega)], Option.bind_some]
        refine ⟨y, hX.ld1 hS, ?_⟩
        refine go_wr (by omega) (by omega) ?_
        refine go_ix (hX.rk hS) (by omega) (by omega) ?_
        refine hX.sk hS (by omega) (by omega) (by constructor <;> omega) ?_
        intro w1 I1 hX hS
        refine ⟨_, c_setsRegister, fun hq => ?_, fun hq => ?_⟩
        · rw [if_neg (by simpa using hq)]
          exact ⟨I1, rfl, ⟨z, y, hX⟩, hS⟩
        · rw [if_pos (by simpa using hq)]
          refine go_min ?_
          exact OpK.ret (c_kSet ⟨z, y, hX⟩ hS (hw.keep (by omega)) hdst.1 hdst.2 hres (by obtain ⟨h1, h2⟩ := hres; constructor <;> omega))
    · simp only [bls] at hi
      rw [show intoV c v = some v from by unfold intoV; rw [if_pos hi], Option.bind_some]
      refine ⟨_, c_setsRegister, fun hq => ?_, fun hq => ?_⟩
      · rw [if_neg (by simpa using hq)]
        exact ⟨I, rfl, ⟨z, y, hX⟩, hS⟩
      · rw [if_pos (by simpa using hq)]
        refine go_min ?_
        exact OpK.ret (c_kSet ⟨z, y, hX⟩ hS hw hdst.1 hdst.2 hres (by obtain ⟨h1, h2⟩ := hres; constructor <;> omega))
theorem passV_nok (h : InP ds ss N e_ at_ c) (hop : c.op = 0 ∨ (c.op = 1 ∨ c.op = 2 ∨ c.op = 3 ∨ c.op = 4) ∨ c.op = 5 ∨ c.op = 20 ∨ c.op = 6 ∨ c.op = 9 ∨ c.op = 24 ∨ c.op = 10 ∨ c.op = 11 ∨ c.op = 23)
    (hTl : T.length = c.args.length) (hTt : ∀ k : Int, 0 ≤ k → k < T.length → nth T k = (v.reg (nth c.args k)).typ) (hno : ∀ n, wantT ds ss rr c.op c.num (v.reg (nth c.args 0)).typ ≠ some (T, n)) : passV ds ss rr c v = none := by
  rw [passV_use h hop]
  cases hw : wantT ds ss rr c.op c.num (v.reg (nth c.args 0)).typ with
  | none => rfl
  | some p =>
    obtain ⟨ts, n⟩ := p
    rw [Option.bind_some]
    have : ¬ fitsV c ts v := fun hf => by
      apply hno n
      rw [hw]
      congr 2
      refine List.ext_getElem (by have := hf.1; omega) fun k k1 k2 => ?_
      have e1 := hf.2 k (by omega) (by omega)
      have e2 := hTt k (by omega) (by omega)
      rw [nth_of (i := k) (l := ts) (a := ts[k]) (by simp [k1])] at e1
      rw [nth_of (i := k) (l := T) (a := T[k]) (by simp [k2])] at e2
      rw [← e1, ← e2]
    unfold argsV
    rw [if_neg this]
    rfl
theorem c_use (h : InQ u x s ax jx ds ss N e_ at_ c) (hrr : 0 ≤ rr ∧ rr ≤ 1000) (hop : c.op = 0 ∨ (c.op = 1 ∨ c.op = 2 ∨ c.op = 3 ∨ c.op = 4) ∨ c.op = 5 ∨ c.op = 20 ∨ c.op = 6 ∨ c.op = 9 ∨ c.op = 24 ∨ c.op = 10 ∨ c.op = 11 ∨ c.op = 23)
    (hv : ∀ w', AtAll w' R → w'.cell? (a0.add 0) = some x.val ∧ w'.cell? (a0.add 1) = some s.val ∧ w'.cell? (a0.add 4) = some (.int .i64 rr)) (hV : Kst a v I) (hS : St u w (I ++ R)) (hw : Wf N B v) (hB : B ≤ 1099511627776) :
    Trip Tryz.prog 133 #[.pointer (some (a0.add 0)), .pointer (some (a.add 0)), .agg #[.int .i64 c.op, .int .i64 c.dst, .int .i64 c.num, .int .i64 c.into, ax.val, jx.val]] w (OpK u R a (passV ds ss rr c v)) := by
  classical
  refine of133 _ _ _ _ _ _ _ _ _ _ ?_
  unfold vc133
  have hl := hw.lenI
  have hP := h.P
  have han := h.hax.n
  have hal := h.hax.le
  have hlo := hP.al
  have hah := hP.ah
  have hop2 : c.op = 20 ∨ c.op = 23 ∨ c.op = 24 ∨ (0 ≤ c.op ∧ c.op ≤ 11) := by omega
  rw [han]
  refine St.makeInts hS (by omega) (by omega) (by decide) ?_
  intro x3 w1 J hO hS hs
  refine ⟨_, rfl, ?_⟩
  refine ⟨fun k w' => ∃ (T : List Int) (J : Items), Own u x3 T J ∧ T.length = c.args.length ∧ (∀ j : Int, 0 ≤ j → j < k → nth T j = (v.reg (nth c.args j)).typ) ∧ St u w' (J ++ (I ++ R)) ∧ 0 ≤ k ∧ k ≤ c.args.length, fun k _ => (c.args.length - k).toNat, ⟨_, J, hO, by simp, (fun j j0 j1 => by omega), hS, by omega, by omega⟩, ?_⟩
  clear hO hS hs
  rintro k w ⟨T, J, hO, hTl, hTt, hS, k0, k1⟩
  dsimp only
  refine ⟨fun hi => ?_, fun hi => ?_⟩
  · simp only [bls] at hi
    have hAk := h.args k k0 (by omega)
    obtain ⟨z, y, hX⟩ := hV
    have hS2 : St u w (I ++ (J ++ R)) := hS.perm (by
      classical
      exact List.perm_iff_count.2 fun a => by simp only [List.count_append]; omega)
    have hR := hX.rd hS2
    obtain ⟨c1, _⟩ := rk hR hAk.1 (by omega)
    refine go_ix h.hax k0 (by omega) ?_
    refine ld_int (h.hax.mono hS.sub) k0 (by omega) fun _ _ => ?_
    refine ⟨z, hX.ld0 hS2, hR.ix hAk.1 (by omega), _, c1, hO.ix k0 (by omega), ?_⟩
    have hneg := (hw.neg _ hAk.1 hAk.2).1
    have hsm := (hw.sm _ hAk.1 hAk.2).1
    refine st_int hO hS k0 (by omega) (by constructor <;> omega) ?_
    intro w2 J2 hO hS
    refine go_wr (by omega) (by omega) ?_
    repeat refine go_rf ?_
    refine ⟨⟨_, J2, hO, by simpa using hTl, fun j j0 j1 => ?_, hS, by omega, by omega⟩, by omega⟩
    rw [nth_set _ _ _ _ k0 (by omega) j0]
    split
    · rename_i e; rw [e]
    · exact hTt j j0 (by omega)
  simp only [bls] at hi
  have hTt : ∀ j : Int, 0 ≤ j → j < T.length → nth T j = (v.reg (nth c.args j)).typ := fun j j0 j1 => hTt j j0 (by omega)
  obtain ⟨u1, hs1, hS1, hJ⟩ := hS.freeze J
  have hTr := hO.read1 hJ
  clear hO hS k0 k1 hi
  have hS := hS1
  clear hS1
  have h1 := h.mono hs1
  have hvw := hv w hS.right.at_
  have hfit : fitsV c T v := ⟨hTl.symm, fun k k0 k1 => (hTt k k0 k1).symm⟩
  have hTr' := hTr.mono hS.sub
  refine ⟨fun hc => ?_, fun hc => ?_⟩
  · simp only [bls] at hc
    rw [(arg_1 (by omega)).1] at hlo
    rw [(arg_1 (by omega)).2] at hah
    have hTe : T = [nth T 0] := one_el (by omega)
    have hw0 : ∀ t, wantT ds ss rr c.op c.num t = some ([rr], 0) := fun t => by unfold wantT; repeat (first | rw [if_neg (by omega)] | rw [if_pos (by omega)])
    refine go_ix hTr (by omega) (by omega) ?_
    refine ld_int hTr' (by omega) (by omega) fun _ _ => ?_
    refine ⟨_, hvw.2.2, fun hd => ?_, fun hd => ?_⟩
    · simp only [bls] at hd
      rw [passV_nok hP hop hTl hTt (fun n hn => by
        rw [hw0] at hn
        simp only [Option.some.injEq, Prod.mk.injEq] at hn
        apply hd
        rw [← hn.1]; rfl)]
      exact ⟨rfl, hs1.trans hS.sub⟩
    · simp only [bls] at hd
      have hok' : wantT ds ss rr c.op c.num (v.reg (nth c.args 0)).typ = some (T, 0) := by rw [hw0, hTe, hd]
      have hok := hok'
      have hres := wantT_pos hP hrr hok
      have hpass : passV ds ss rr c v = (takesV ss c T.length v).bind fun v' => (if aliveV ss c v' then some v' else none).bind (finV c 0) := by
        rw [passV_use hP hop, hok', Option.bind_some]
        unfold argsV
        rw [if_pos hfit]
        cases takesV ss c T.length v <;> rfl
      refine ⟨fun z k w' => ∃ v' I' J, takesV ss c k.toNat v = some v' ∧ Kst a v' I' ∧ Wf N B v' ∧ Own u1 z (lentL ss c k.toNat) J ∧ St u1 w' (J ++ (I' ++ R)) ∧ 0 ≤ k ∧ k ≤ c.args.length, fun _ k _ => (c.args.length - k).toNat, ⟨v, I, [], rfl, hV, hw, Own.nil u1, hS, by omega, by omega⟩, ?_⟩
      clear hS
      rintro z k w ⟨v1, I1, J, htk, hV, hw1, hO, hS, k0, k1⟩
      dsimp only
      have hll := lentL_len (ss := ss) (c := c) (n := k.toNat)
      have hl1 := hw1.lenI
      refine ⟨fun hi => ?_, fun hi => ?_⟩
      · simp only [bls] at hi
        have hAk := h1.args k k0 (by omega)
        have hTk := hTt k k0 (by omega)
        have hTk0 := hres.1 k k0 (by omega)
        have hv1 := hv w (fun p hp => hS.at_ p (by simp [hp]))
        have hsn : takesV ss c (k + 1).toNat v = if lentA ss c k = true then some v1 else takeV v1 (nth c.args k) := by
          rw [show (k + 1).toNat = k.toNat + 1 from by omega]
          unfold takesV
          rw [htk]
          simp only [Option.bind_some]
          rw [show ((k.toNat : Nat) : Int) = k from by omega]
        have hls := lentL_succ (ss := ss) (c := c) (n := k.toNat)
        rw [show ((k.toNat : Nat) : Int) = k from by omega, show k.toNat + 1 = (k + 1).toNat from by omega] at hls
        have hty : (v1.reg (nth c.args k)).typ = nth T k := by
          rw [hTk]
          exact (takesV_typ (fun j j0 j1 => by have := h1.args j j0 j1; omega) (by omega) htk _ hAk.1).1
        refine go_ix h1.hax k0 (by omega) ?_
        refine ld_int (h1.hax.mono hS.sub) k0 (by omega) fun _ _ => ?_
        refine go_ix hTr k0 (by omega) ?_
        refine ld_int (hTr.mono hS.sub) k0 (by omega) fun _ _ => ?_
        refine ⟨fun hd => ?_, fun hd => ?_⟩
        · simp only [bls] at hd
          have hlf : lentA ss c k = false := by
            cases hh : lentA ss c k with
            | false => rfl
            | true => exact absurd hd (hres.2.2 k k0 (by omega) hh)
          rw [if_neg (by rw [hlf]; decide)] at hsn hls
          have : takeV v1 (nth c.args k) = some v1 := by unfold takeV; rw [if_pos (by omega)]
          refine go_wr (by omega) (by omega) ?_
          repeat refine go_rf ?_
          exact ⟨⟨v1, I1, J, hsn.trans this, hV, hw1, by rw [hls]; exact hO, hS, by omega, by omega⟩, by omega⟩
        · simp only [bls] at hd
          have hcall : ((decide (c.op = 9)) || (decide (c.op = 24))) = true → 0 ≤ c.num ∧ c.num < ss.length := fun hh => by
            simp only [bls] at hh
            exact (numV_call hh).1 h1.ok.2.2.2.2.2.2.2.2.1
          refine ⟨s, fun _ => hv1.2.1, ?_⟩
          refine go_ixg h1.hs hcall ?_
          refine ldg_sig_lent (h1.hs.src hS.sub) hcall ?_
          intro lx hlx
          refine ⟨decide (k ∈ (nth ss c.num).lent), fun hh => c_contains ((hlx hh).mono hS.sub), ?_⟩
          have hla : lentA ss c k = (((decide (c.op = 9)) || (decide (c.op = 24))) && decide (k ∈ (nth ss c.num).lent)) := by
            unfold lentA; rw [any_mem]
          rw [← hla]
          refine ⟨fun hq => ?_, fun hq => ?_⟩
          · rw [if_pos hq] at hsn hls
            refine St.build (α := Int) hS (by (repeat' (first | exact VsOf.nil | apply VsOf.cons | (apply VOf.int; first | assumption | (constructor <;> first | omega | (simp only [List.length_set, List.length_append, List.length_replicate, List.length_cons, List.length_nil, List.length_take, List.length_drop, List.length_map, List.length_singleton] at *; omega))) | exact VOf.bool | exact VOf.str))) rfl (by decide) ?_
            intro x4 w4 I4 hO4 hS hs
            refine ⟨_, rfl, ?_⟩
            refine Own.append hO hS (hO4.src hS) (by simp; omega) (by decide) ?_
            intro x5 w5 I5 hO5 hS
            refine ⟨_, rfl, ?_⟩
            refine go_wr (by omega) (by omega) ?_
            repeat refine go_rf ?_
            exact ⟨⟨v1, I1, I5, hsn, hV, hw1, by rw [hls]; exact hO5, hS.right, by omega, by omega⟩, by omega⟩
          · rw [if_neg (by rw [hq]; decide)] at hsn hls
            have hS2 : St u1 w (I1 ++ (J ++ R)) := hS.perm (by
              classical
              exact List.perm_iff_count.2 fun a => by simp only [List.count_append]; omega)
            have etk : takeV v1 (nth c.args k) = if (v1.reg (nth c.args k)).own < 1 then none else some (decV v1 (nth c.args k)) := by
              unfold takeV
              rw [if_neg (by omega)]
              by_cases ho : (v1.reg (nth c.args k)).own < 1
              · rw [if_pos (.inr ho), if_pos ho]
              · rw [if_neg (by omega), if_neg ho]; rfl
            have ct := c_kTake hV hS2 hw1 hB hAk.1 hAk.2
            rw [← etk] at ct
            refine OpK.use ct (fun hn w' hs => ?_) (fun v' I' w' hn hV hS => ?_)
            · refine ⟨false, rfl, fun _ => ?_, fun h => by cases h⟩
              rw [hpass, takesV_none (hsn.trans hn) (by omega)]
              exact ⟨rfl, hs1.trans hs⟩
            · refine ⟨true, rfl, (fun h => by cases h), fun _ => ?_⟩
              refine go_wr (by omega) (by omega) ?_
              repeat refine go_rf ?_
              exact ⟨⟨v', I', J, hsn.trans hn, hV, takeV_wf hw1 hAk.1 hAk.2 hn, by rw [hls]; exact hO, hS.perm (by
                classical
                exact List.perm_iff_count.2 fun a => by simp only [List.count_append]; omega), by omega, by omega⟩, by omega⟩
      simp only [bls] at hi
      rw [show k.toNat = T.length from by omega] at htk hO
      rw [hpass, htk, Option.bind_some]
      obtain ⟨u2, hs2, hS2, hJ⟩ := hS.freeze J
      have hLr := hO.read1 hJ
      have hLn := hLr.n
      clear hpass hS k0 k1 hi hll
      rw [hLn]
      refine ⟨fun k w' => w = w' ∧ 0 ≤ k ∧ k ≤ (lentL ss c T.length).length ∧ ∀ j : Int, 0 ≤ j → j < k → Al v1 (nth (lentL ss c T.length) j), fun k _ => ((lentL ss c T.length).length - k).toNat, ⟨rfl, by omega, by omega, fun j j0 j1 => by omega⟩, ?_⟩
      rintro k _ ⟨rfl, k0, k1, hj⟩
      have hLl := hLr.le
      refine ⟨fun hi => ?_, fun hi => ?_⟩
      · simp only [bls] at hi
        obtain ⟨i, i0, i1, ie, il⟩ := lentL_mem (nth_mem (l := lentL ss c T.length) k0 (by omega))
        have hAk := h1.args i i0 (by omega)
        refine go_ix hLr k0 (by omega) ?_
        refine ld_int (hLr.mono hS2.sub) k0 (by omega) fun _ _ => ?_
        refine ⟨_, c_kAlive (hV.krd hS2) hw1 (by rw [ie]; exact hAk.1) (by rw [ie]; exact hAk.2), fun hd => ?_, fun hd => ?_⟩
        · simp only [bls] at hd
          have hna : ¬ aliveV ss c v1 := fun hal => by
            have := hal i i0 (by omega) il
            rw [← ie] at this
            simp [alB, this] at hd
          rw [if_neg hna]
          exact ⟨rfl, (hs1.trans hs2).trans hS2.sub⟩
        · simp only [bls] at hd
          refine go_wr (by omega) (by omega) ?_
          repeat refine go_rf ?_
          refine ⟨⟨rfl, by omega, by omega, fun j j0 j1 => ?_⟩, by dsimp only; omega⟩
          by_cases e : j = k
          · subst e; simpa [alB] using hd
          · exact hj j j0 (by omega)
      · simp only [bls] at hi
        have hal : aliveV ss c v1 := fun i i0 i1 il => by
          obtain ⟨j, j0, j1, je⟩ := lentL_get (n := T.length) i0 (by omega) il
          rw [← je]
          exact hj j j0 (by omega)
        rw [if_pos hal, Option.bind_some]
        have hS3 := (hS2.weakU hs2).weakU hs1
        exact OpK.ret (c_finish h hop2 hV hS3 hw1 hB (by have := hres.2.1; constructor <;> omega))
  refine ⟨fun hc2 => ?_, fun hc2 => ?_⟩
  · simp only [bls] at hc2
    rw [(arg_1 (by omega)).1] at hlo
    rw [(arg_1 (by omega)).2] at hah
    have hTe : T = [nth T 0] := one_el (by omega)
    have hw0 : ∀ t, wantT ds ss rr c.op c.num t = some ([0], 0) := fun t => by unfold wantT; repeat (first | rw [if_neg (by omega)] | rw [if_pos (by omega)])
    refine go_ix hTr (by omega) (by omega) ?_
    refine ld_int hTr' (by omega) (by omega) fun _ _ => ?_
    refine ⟨fun hd => ?_, fun hd => ?_⟩
    · simp only [bls] at hd
      rw [passV_nok hP hop hTl hTt (fun n hn => by
        rw [hw0] at hn
        simp only [Option.some.injEq, Prod.mk.injEq] at hn
        apply hd
        rw [← hn.1]; rfl)]
      exact ⟨rfl, hs1.trans hS.sub⟩
    · simp only [bls] at hd
      have hok' : wantT ds ss rr c.op c.num (v.reg (nth c.args 0)).typ = some (T, 0) := by rw [hw0, hTe, hd]
      have hok := hok'
      have hres := wantT_pos hP hrr hok
      have hpass : passV ds ss rr c v = (takesV ss c T.length v).bind fun v' => (if aliveV ss c v' then some v' else none).bind (finV c 0) := by
        rw [passV_use hP hop, hok', Option.bind_some]
        unfold argsV
        rw [if_pos hfit]
        cases takesV ss c T.length v <;> rfl
      refine ⟨fun z k w' => ∃ v' I' J, takesV ss c k.toNat v = some v' ∧ Kst a v' I' ∧ Wf N B v' ∧ Own u1 z (lentL ss c k.toNat) J ∧ St u1 w' (J ++ (I' ++ R)) ∧ 0 ≤ k ∧ k ≤ c.args.length, fun _ k _ => (c.args.length - k).toNat, ⟨v, I, [], rfl, hV, hw, Own.nil u1, hS, by omega, by omega⟩, ?_⟩
      clear hS
      rintro z k w ⟨v1, I1, J, htk, hV, hw1, hO, hS, k0, k1⟩
      dsimp only
      have hll := lentL_len (ss := ss) (c := c) (n := k.toNat)
      have hl1 := hw1.lenI
      refine ⟨fun hi => ?_, fun hi => ?_⟩
      · simp only [bls] at hi
        have hAk := h1.args k k0 (by omega)
        have hTk := hTt k k0 (by omega)
        have hTk0 := hres.1 k k0 (by omega)
        have hv1 := hv w (fun p hp => hS.at_ p (by simp [hp]))
        have hsn : takesV ss c (k + 1).toNat v = if lentA ss c k = true then some v1 else takeV v1 (nth c.args k) := by
          rw [show (k + 1).toNat = k.toNat + 1 from by omega]
          unfold takesV
          rw [htk]
          simp only [Option.bind_some]
          rw [show ((k.toNat : Nat) : Int) = k from by omega]
        have hls := lentL_succ (ss := ss) (c := c) (n := k.toNat)
        rw [show ((k.toNat : Nat) : Int) = k from by omega, show k.toNat + 1 = (k + 1).toNat from by omega] at hls
        have hty : (v1.reg (nth c.args k)).typ = nth T k := by
          rw [hTk]
          exact (takesV_typ (fun j j0 j1 => by have := h1.args j j0 j1; omega) (by omega) htk _ hAk.1).1
        refine go_ix h1.hax k0 (by omega) ?_
        refine ld_int (h1.hax.mono hS.sub) k0 (by omega) fun _ _ => ?_
        refine go_ix hTr k0 (by omega) ?_
        refine ld_int (hTr.mono hS.sub) k0 (by omega) fun _ _ => ?_
        refine ⟨fun hd => ?_, fun hd => ?_⟩
        · simp only [bls] at hd
          have hlf : lentA ss c k = false := by
            cases hh : lentA ss c k with
            | false => rfl
            | true => exact absurd hd (hres.2.2 k k0 (by omega) hh)
          rw [if_neg (by rw [hlf]; decide)] at hsn hls
          have : takeV v1 (nth c.args k) = some v1 := by unfold takeV; rw [if_pos (by omega)]
          refine go_wr (by omega) (by omega) ?_
          repeat refine go_rf ?_
          exact ⟨⟨v1, I1, J, hsn.trans this, hV, hw1, by rw [hls]; exact hO, hS, by omega, by omega⟩, by omega⟩
        · simp only [bls] at hd
          have hcall : ((decide (c.op = 9)) || (decide (c.op = 24))) = true → 0 ≤ c.num ∧ c.num < ss.length := fun hh => by
            simp only [bls] at hh
            exact (numV_call hh).1 h1.ok.2.2.2.2.2.2.2.2.1
          refine ⟨s, fun _ => hv1.2.1, ?_⟩
          refine go_ixg h1.hs hcall ?_
          refine ldg_sig_lent (h1.hs.src hS.sub) hcall ?_
          intro lx hlx
          refine ⟨decide (k ∈ (nth ss c.num).lent), fun hh => c_contains ((hlx hh).mono hS.sub), ?_⟩
          have hla : lentA ss c k = (((decide (c.op = 9)) || (decide (c.op = 24))) && decide (k ∈ (nth ss c.num).lent)) := by
            unfold lentA; rw [any_mem]
          rw [← hla]
          refine ⟨fun hq => ?_, fun hq => ?_⟩
          · rw [if_pos hq] at hsn hls
            refine St.build (α := Int) hS (by (repeat' (first | exact VsOf.nil | apply VsOf.cons | (apply VOf.int; first | assumption | (constructor <;> first | omega | (simp only [List.length_set, List.length_append, List.length_replicate, List.length_cons, List.length_nil, List.length_take, List.length_drop, List.length_map, List.length_singleton] at *; omega))) | exact VOf.bool | exact VOf.str))) rfl (by decide) ?_
            intro x4 w4 I4 hO4 hS hs
            refine ⟨_, rfl, ?_⟩
            refine Own.append hO hS (hO4.src hS) (by simp; omega) (by decide) ?_
            intro x5 w5 I5 hO5 hS
            refine ⟨_, rfl, ?_⟩
            refine go_wr (by omega) (by omega) ?_
            repeat refine go_rf ?_
            exact ⟨⟨v1, I1, I5, hsn, hV, hw1, by rw [hls]; exact hO5, hS.right, by omega, by omega⟩, by omega⟩
          · rw [if_neg (by rw [hq]; decide)] at hsn hls
            have hS2 : St u1 w (I1 ++ (J ++ R)) := hS.perm (by
              classical
              exact List.perm_iff_count.2 fun a => by simp only [List.count_append]; omega)
            have etk : takeV v1 (nth c.args k) = if (v1.reg (nth c.args k)).own < 1 then none else some (decV v1 (nth c.args k)) := by
              unfold takeV
              rw [if_neg (by omega)]
              by_cases ho : (v1.reg (nth c.args k)).own < 1
              · rw [if_pos (.inr ho), if_pos ho]
              · rw [if_neg (by omega), if_neg ho]; rfl
            have ct := c_kTake hV hS2 hw1 hB hAk.1 hAk.2
            rw [← etk] at ct
            refine OpK.use ct (fun hn w' hs => ?_) (fun v' I' w' hn hV hS => ?_)
            · refine ⟨false, rfl, fun _ => ?_, fun h => by cases h⟩
              rw [hpass, takesV_none (hsn.trans hn) (by omega)]
              exact ⟨rfl, hs1.trans hs⟩
            · refine ⟨true, rfl, (fun h => by cases h), fun _ => ?_⟩
              refine go_wr (by omega) (by omega) ?_
              repeat refine go_rf ?_
              exact ⟨⟨v', I', J, hsn.trans hn, hV, takeV_wf hw1 hAk.1 hAk.2 hn, by rw [hls]; exact hO, hS.perm (by
                classical
                exact List.perm_iff_count.2 fun a => by simp only [List.count_append]; omega), by omega, by omega⟩, by omega⟩
      simp only [bls] at hi
      rw [show k.toNat = T.length from by omega] at htk hO
      rw [hpass, htk, Option.bind_some]
      obtain ⟨u2, hs2, hS2, hJ⟩ := hS.freeze J
      have hLr := hO.read1 hJ
      have hLn := hLr.n
      clear hpass hS k0 k1 hi hll
      rw [hLn]
      refine ⟨fun k w' => w = w' ∧ 0 ≤ k ∧ k ≤ (lentL ss c T.length).length ∧ ∀ j : Int, 0 ≤ j → j < k → Al v1 (nth (lentL ss c T.length) j), fun k _ => ((lentL ss c T.length).length - k).toNat, ⟨rfl, by omega, by omega, fun j j0 j1 => by omega⟩, ?_⟩
      rintro k _ ⟨rfl, k0, k1, hj⟩
      have hLl := hLr.le
      refine ⟨fun hi => ?_, fun hi => ?_⟩
      · simp only [bls] at hi
        obtain ⟨i, i0, i1, ie, il⟩ := lentL_mem (nth_mem (l := lentL ss c T.length) k0 (by omega))
        have hAk := h1.args i i0 (by omega)
        refine go_ix hLr k0 (by omega) ?_
        refine ld_int (hLr.mono hS2.sub) k0 (by omega) fun _ _ => ?_
        refine ⟨_, c_kAlive (hV.krd hS2) hw1 (by rw [ie]; exact hAk.1) (by rw [ie]; exact hAk.2), fun hd => ?_, fun hd => ?_⟩
        · simp only [bls] at hd
          have hna : ¬ aliveV ss c v1 := fun hal => by
            have := hal i i0 (by omega) il
            rw [← ie] at this
            simp [alB, this] at hd
          rw [if_neg hna]
          exact ⟨rfl, (hs1.trans hs2).trans hS2.sub⟩
        · simp only [bls] at hd
          refine go_wr (by omega) (by omega) ?_
          repeat refine go_rf ?_
          refine ⟨⟨rfl, by omega, by omega, fun j j0 j1 => ?_⟩, by dsimp only; omega⟩
          by_cases e : j = k
          · subst e; simpa [alB] using hd
          · exact hj j j0 (by omega)
      · simp only [bls] at hi
        have hal : aliveV ss c v1 := fun i i0 i1 il => by
          obtain ⟨j, j0, j1, je⟩ := lentL_get (n := T.length) i0 (by omega) il
          rw [← je]
          exact hj j j0 (by omega)
        rw [if_pos hal, Option.bind_some]
        have hS3 := (hS2.weakU hs2).weakU hs1
        exact OpK.ret (c_finish h hop2 hV hS3 hw1 hB (by have := hres.2.1; constructor <;> omega))
  refine ⟨fun hc3 => ?_, fun hc3 => ?_⟩
  · simp only [bls] at hc hc2 hc3
    have hv9 := (numV_call (.inr hc3)).1 h.ok.2.2.2.2.2.2.2.2.1
    obtain ⟨n, q, hf, hq1, hq2⟩ := c_simpleType (rr := rr) (op := 9) (num := c.num) (h1.hx.mono hS.sub) (h1.hs.mono hS.sub) hTr' h.sg (by omega) (fun h => by omega) (fun h => by omega) (fun h => by omega) (fun _ => hv9) (fun h => by omega) (fun h => by omega)
    have hw24 : ∀ t, wantT ds ss rr c.op c.num t = if (nth ss c.num).result = rr then some ((nth ss c.num).params, (nth ss c.num).result) else none := fun t => by unfold wantT; repeat (first | rw [if_neg (by omega)] | rw [if_pos (by omega)])
    have hw9 : ∀ t, wantT ds ss rr 9 c.num t = some ((nth ss c.num).params, (nth ss c.num).result) := fun t => by unfold wantT; repeat (first | rw [if_neg (by omega)] | rw [if_pos (by omega)])
    refine ⟨x, s, ⟨hvw.1, hvw.2.1⟩, n, q, hf, rr, fun _ => hvw.2.2, fun hd => ?_, fun hd => ?_⟩
    · rw [passV_nok hP hop hTl hTt (fun n' hn => by
        rw [hw24] at hn
        split at hn
        · rename_i hr
          simp only [Option.some.injEq, Prod.mk.injEq] at hn
          cases q with
          | false => exact hq2 rfl n' (by rw [hw9, ← hn.1, ← hn.2])
          | true =>
            have := hq1 rfl
            rw [hw9] at this
            simp only [Option.some.injEq, Prod.mk.injEq] at this
            simp [← this.2, hr] at hd
        · cases hn)]
      exact ⟨rfl, hs1.trans hS.sub⟩
    · simp only [bls] at hd
      have := hq1 hd.1
      rw [hw9] at this
      simp only [Option.some.injEq, Prod.mk.injEq] at this
      have hok' : wantT ds ss rr c.op c.num (v.reg (nth c.args 0)).typ = some (T, n) := by rw [hw24, if_pos (by omega), this.1, this.2]
      have hok := hok'
      generalize hre : n = res at hok hok'
      have hres := wantT_pos hP hrr hok
      have hpass : passV ds ss rr c v = (takesV ss c T.length v).bind fun v' => (if aliveV ss c v' then some v' else none).bind (finV c res) := by
        rw [passV_use hP hop, hok', Option.bind_some]
        unfold argsV
        rw [if_pos hfit]
        cases takesV ss c T.length v <;> rfl
      refine ⟨fun z k w' => ∃ v' I' J, takesV ss c k.toNat v = some v' ∧ Kst a v' I' ∧ Wf N B v' ∧ Own u1 z (lentL ss c k.toNat) J ∧ St u1 w' (J ++ (I' ++ R)) ∧ 0 ≤ k ∧ k ≤ c.args.length, fun _ k _ => (c.args.length - k).toNat, ⟨v, I, [], rfl, hV, hw, Own.nil u1, hS, by omega, by omega⟩, ?_⟩
      clear hS
      rintro z k w ⟨v1, I1, J, htk, hV, hw1, hO, hS, k0, k1⟩
      dsimp only
      have hll := lentL_len (ss := ss) (c := c) (n := k.toNat)
      have hl1 := hw1.lenI
      refine ⟨fun hi => ?_, fun hi => ?_⟩
      · simp only [bls] at hi
        have hAk := h1.args k k0 (by omega)
        have hTk := hTt k k0 (by omega)
        have hTk0 := hres.1 k k0 (by omega)
        have hv1 := hv w (fun p hp => hS.at_ p (by simp [hp]))
        have hsn : takesV ss c (k + 1).toNat v = if lentA ss c k = true then some v1 else takeV v1 (nth c.args k) := by
          rw [show (k + 1).toNat = k.toNat + 1 from by omega]
          unfold takesV
          rw [htk]
          simp only [Option.bind_some]
          rw [show ((k.toNat : Nat) : Int) = k from by omega]
        have hls := lentL_succ (ss := ss) (c := c) (n := k.toNat)
        rw [show ((k.toNat : Nat) : Int) = k from by omega, show k.toNat + 1 = (k + 1).toNat from by omega] at hls
        have hty : (v1.reg (nth c.args k)).typ = nth T k := by
          rw [hTk]
          exact (takesV_typ (fun j j0 j1 => by have := h1.args j j0 j1; omega) (by omega) htk _ hAk.1).1
        refine go_ix h1.hax k0 (by omega) ?_
        refine ld_int (h1.hax.mono hS.sub) k0 (by omega) fun _ _ => ?_
        refine go_ix hTr k0 (by omega) ?_
        refine ld_int (hTr.mono hS.sub) k0 (by omega) fun _ _ => ?_
        refine ⟨fun hd => ?_, fun hd => ?_⟩
        · simp only [bls] at hd
          have hlf : lentA ss c k = false := by
            cases hh : lentA ss c k with
            | false => rfl
            | true => exact absurd hd (hres.2.2 k k0 (by omega) hh)
          rw [if_neg (by rw [hlf]; decide)] at hsn hls
          have : takeV v1 (nth c.args k) = some v1 := by unfold takeV; rw [if_pos (by omega)]
          refine go_wr (by omega) (by omega) ?_
          repeat refine go_rf ?_
          exact ⟨⟨v1, I1, J, hsn.trans this, hV, hw1, by rw [hls]; exact hO, hS, by omega, by omega⟩, by omega⟩
        · simp only [bls] at hd
          have hcall : ((decide (c.op = 9)) || (decide (c.op = 24))) = true → 0 ≤ c.num ∧ c.num < ss.length := fun hh => by
            simp only [bls] at hh
            exact (numV_call hh).1 h1.ok.2.2.2.2.2.2.2.2.1
          refine ⟨s, fun _ => hv1.2.1, ?_⟩
          refine go_ixg h1.hs hcall ?_
          refine ldg_sig_lent (h1.hs.src hS.sub) hcall ?_
          intro lx hlx
          refine ⟨decide (k ∈ (nth ss c.num).lent), fun hh => c_contains ((hlx hh).mono hS.sub), ?_⟩
          have hla : lentA ss c k = (((decide (c.op = 9)) || (decide (c.op = 24))) && decide (k ∈ (nth ss c.num).lent)) := by
            unfold lentA; rw [any_mem]
          rw [← hla]
          refine ⟨fun hq => ?_, fun hq => ?_⟩
          · rw [if_pos hq] at hsn hls
            refine St.build (α := Int) hS (by (repeat' (first | exact VsOf.nil | apply VsOf.cons | (apply VOf.int; first | assumption | (constructor <;> first | omega | (simp only [List.length_set, List.length_append, List.length_replicate, List.length_cons, List.length_nil, List.length_take, List.length_drop, List.length_map, List.length_singleton] at *; omega))) | exact VOf.bool | exact VOf.str))) rfl (by decide) ?_
            intro x4 w4 I4 hO4 hS hs
            refine ⟨_, rfl, ?_⟩
            refine Own.append hO hS (hO4.src hS) (by simp; omega) (by decide) ?_
            intro x5 w5 I5 hO5 hS
            refine ⟨_, rfl, ?_⟩
            refine go_wr (by omega) (by omega) ?_
            repeat refine go_rf ?_
            exact ⟨⟨v1, I1, I5, hsn, hV, hw1, by rw [hls]; exact hO5, hS.right, by omega, by omega⟩, by omega⟩
          · rw [if_neg (by rw [hq]; decide)] at hsn hls
            have hS2 : St u1 w (I1 ++ (J ++ R)) := hS.perm (by
              classical
              exact List.perm_iff_count.2 fun a => by simp only [List.count_append]; omega)
            have etk : takeV v1 (nth c.args k) = if (v1.reg (nth c.args k)).own < 1 then none else some (decV v1 (nth c.args k)) := by
              unfold takeV
              rw [if_neg (by omega)]
              by_cases ho : (v1.reg (nth c.args k)).own < 1
              · rw [if_pos (.inr ho), if_pos ho]
              · rw [if_neg (by omega), if_neg ho]; rfl
            have ct := c_kTake hV hS2 hw1 hB hAk.1 hAk.2
            rw [← etk] at ct
            refine OpK.use ct (fun hn w' hs => ?_) (fun v' I' w' hn hV hS => ?_)
            · refine ⟨false, rfl, fun _ => ?_, fun h => by cases h⟩
              rw [hpass, takesV_none (hsn.trans hn) (by omega)]
              exact ⟨rfl, hs1.trans hs⟩
            · refine ⟨true, rfl, (fun h => by cases h), fun _ => ?_⟩
              refine go_wr (by omega) (by omega) ?_
              repeat refine go_rf ?_
              exact ⟨⟨v', I', J, hsn.trans hn, hV, takeV_wf hw1 hAk.1 hAk.2 hn, by rw [hls]; exact hO, hS.perm (by
                classical
                exact List.perm_iff_count.2 fun a => by simp only [List.count_append]; omega), by omega, by omega⟩, by omega⟩
      simp only [bls] at hi
      rw [show k.toNat = T.length from by omega] at htk hO
      rw [hpass, htk, Option.bind_some]
      obtain ⟨u2, hs2, hS2, hJ⟩ := hS.freeze J
      have hLr := hO.read1 hJ
      have hLn := hLr.n
      clear hpass hS k0 k1 hi hll
      rw [hLn]
      refine ⟨fun k w' => w = w' ∧ 0 ≤ k ∧ k ≤ (lentL ss c T.length).length ∧ ∀ j : Int, 0 ≤ j → j < k → Al v1 (nth (lentL ss c T.length) j), fun k _ => ((lentL ss c T.length).length - k).toNat, ⟨rfl, by omega, by omega, fun j j0 j1 => by omega⟩, ?_⟩
      rintro k _ ⟨rfl, k0, k1, hj⟩
      have hLl := hLr.le
      refine ⟨fun hi => ?_, fun hi => ?_⟩
      · simp only [bls] at hi
        obtain ⟨i, i0, i1, ie, il⟩ := lentL_mem (nth_mem (l := lentL ss c T.length) k0 (by omega))
        have hAk := h1.args i i0 (by omega)
        refine go_ix hLr k0 (by omega) ?_
        refine ld_int (hLr.mono hS2.sub) k0 (by omega) fun _ _ => ?_
        refine ⟨_, c_kAlive (hV.krd hS2) hw1 (by rw [ie]; exact hAk.1) (by rw [ie]; exact hAk.2), fun hd => ?_, fun hd => ?_⟩
        · simp only [bls] at hd
          have hna : ¬ aliveV ss c v1 := fun hal => by
            have := hal i i0 (by omega) il
            rw [← ie] at this
            simp [alB, this] at hd
          rw [if_neg hna]
          exact ⟨rfl, (hs1.trans hs2).trans hS2.sub⟩
        · simp only [bls] at hd
          refine go_wr (by omega) (by omega) ?_
          repeat refine go_rf ?_
          refine ⟨⟨rfl, by omega, by omega, fun j j0 j1 => ?_⟩, by dsimp only; omega⟩
          by_cases e : j = k
          · subst e; simpa [alB] using hd
          · exact hj j j0 (by omega)
      · simp only [bls] at hi
        have hal : aliveV ss c v1 := fun i i0 i1 il => by
          obtain ⟨j, j0, j1, je⟩ := lentL_get (n := T.length) i0 (by omega) il
          rw [← je]
          exact hj j j0 (by omega)
        rw [if_pos hal, Option.bind_some]
        have hS3 := (hS2.weakU hs2).weakU hs1
        exact OpK.ret (c_finish h hop2 hV hS3 hw1 hB (by have := hres.2.1; constructor <;> omega))
  · simp only [bls] at hc hc2 hc3
    have hop3 : c.op = 0 ∨ (c.op = 1 ∨ c.op = 2 ∨ c.op = 3 ∨ c.op = 4) ∨ c.op = 5 ∨ c.op = 6 ∨ c.op = 9 ∨ c.op = 10 ∨ c.op = 11 := by omega
    have hnum := h.ok.2.2.2.2.2.2.2.2.1
    have ht0 : ∀ n, wantT ds ss rr c.op c.num (v.reg (nth c.args 0)).typ = n ↔ wantT ds ss rr c.op c.num (nth T 0) = n := fun n => by
      by_cases e : c.op = 11
      · rw [(arg_2 (by omega)).1] at hlo
        rw [hTt 0 (by omega) (by omega)]
      · rw [wantT_t0 e]
    obtain ⟨n, q, hf, hq1, hq2⟩ := c_simpleType (rr := rr) (op := c.op) (num := c.num) (h1.hx.mono hS.sub) (h1.hs.mono hS.sub) hTr' h.sg hop3 (fun h => (numV_int h).1 hnum) (fun h => (numV_zero (by omega)).1 hnum)
      (fun h => by
        have hv := (numV_con h).1 hnum
        have hc := (conI_iff (ds := ds) (c := c.num)).2 ⟨hv.1, hv.2⟩
        have := hP.sg.1.sm.fc ds.length (Nat.le_refl _)
        refine ⟨?_, by omega, by omega⟩
        unfold conTyV; rw [if_neg (by omega)]; omega)
      (fun h => by
        rcases h with h | h
        · exact (numV_call (.inl h)).1 hnum
        · have := (numV_close h).1 hnum; exact ⟨this.1, this.2.1⟩)
      (fun h => by rw [(arg_10 h).2] at hah; omega) (fun h => by rw [(arg_2 (by omega)).1] at hlo; rw [(arg_2 (by omega)).2] at hah; omega)
    refine ⟨x, s, ⟨hvw.1, hvw.2.1⟩, n, q, hf, fun hd => ?_, fun hd => ?_⟩
    · simp only [bls] at hd
      rw [passV_nok hP hop hTl hTt (fun n' hn => hq2 hd n' ((ht0 _).1 hn))]
      exact ⟨rfl, hs1.trans hS.sub⟩
    · simp only [bls] at hd
      have hok' : wantT ds ss rr c.op c.num (v.reg (nth c.args 0)).typ = some (T, n) := (ht0 _).2 (hq1 hd)
      have hok := hok'
      generalize hre : n = res at hok hok'
      have hres := wantT_pos hP hrr hok
      have hpass : passV ds ss rr c v = (takesV ss c T.length v).bind fun v' => (if aliveV ss c v' then some v' else none).bind (finV c res) := by
        rw [passV_use hP hop, hok', Option.bind_some]
        unfold argsV
        rw [if_pos hfit]
        cases takesV ss c T.length v <;> rfl
      refine ⟨fun z k w' => ∃ v' I' J, takesV ss c k.toNat v = some v' ∧ Kst a v' I' ∧ Wf N B v' ∧ Own u1 z (lentL ss c k.toNat) J ∧ St u1 w' (J ++ (I' ++ R)) ∧ 0 ≤ k ∧ k ≤ c.args.length, fun _ k _ => (c.args.length - k).toNat, ⟨v, I, [], rfl, hV, hw, Own.nil u1, hS, by omega, by omega⟩, ?_⟩
      clear hS
      rintro z k w ⟨v1, I1, J, htk, hV, hw1, hO, hS, k0, k1⟩
      dsimp only
      have hll := lentL_len (ss := ss) (c := c) (n := k.toNat)
      have hl1 := hw1.lenI
      refine ⟨fun hi => ?_, fun hi => ?_⟩
      · simp only [bls] at hi
        have hAk := h1.args k k0 (by omega)
        have hTk := hTt k k0 (by omega)
        have hTk0 := hres.1 k k0 (by omega)
        have hv1 := hv w (fun p hp => hS.at_ p (by simp [hp]))
        have hsn : takesV ss c (k + 1).toNat v = if lentA ss c k = true then some v1 else takeV v1 (nth c.args k) := by
          rw [show (k + 1).toNat = k.toNat + 1 from by omega]
          unfold takesV
          rw [htk]
          simp only [Option.bind_some]
          rw [show ((k.toNat : Nat) : Int) = k from by omega]
        have hls := lentL_succ (ss := ss) (c := c) (n := k.toNat)
        rw [show ((k.toNat : Nat) : Int) = k from by omega, show k.toNat + 1 = (k + 1).toNat from by omega] at hls
        have hty : (v1.reg (nth c.args k)).typ = nth T k := by
          rw [hTk]
          exact (takesV_typ (fun j j0 j1 => by have := h1.args j j0 j1; omega) (by omega) htk _ hAk.1).1
        refine go_ix h1.hax k0 (by omega) ?_
        refine ld_int (h1.hax.mono hS.sub) k0 (by omega) fun _ _ => ?_
        refine go_ix hTr k0 (by omega) ?_
        refine ld_int (hTr.mono hS.sub) k0 (by omega) fun _ _ => ?_
        refine ⟨fun hd => ?_, fun hd => ?_⟩
        · simp only [bls] at hd
          have hlf : lentA ss c k = false := by
            cases hh : lentA ss c k with
            | false => rfl
            | true => exact absurd hd (hres.2.2 k k0 (by omega) hh)
          rw [if_neg (by rw [hlf]; decide)] at hsn hls
          have : takeV v1 (nth c.args k) = some v1 := by unfold takeV; rw [if_pos (by omega)]
          refine go_wr (by omega) (by omega) ?_
          repeat refine go_rf ?_
          exact ⟨⟨v1, I1, J, hsn.trans this, hV, hw1, by rw [hls]; exact hO, hS, by omega, by omega⟩, by omega⟩
        · simp only [bls] at hd
          have hcall : ((decide (c.op = 9)) || (decide (c.op = 24))) = true → 0 ≤ c.num ∧ c.num < ss.length := fun hh => by
            simp only [bls] at hh
            exact (numV_call hh).1 h1.ok.2.2.2.2.2.2.2.2.1
          refine ⟨s, fun _ => hv1.2.1, ?_⟩
          refine go_ixg h1.hs hcall ?_
          refine ldg_sig_lent (h1.hs.src hS.sub) hcall ?_
          intro lx hlx
          refine ⟨decide (k ∈ (nth ss c.num).lent), fun hh => c_contains ((hlx hh).mono hS.sub), ?_⟩
          have hla : lentA ss c k = (((decide (c.op = 9)) || (decide (c.op = 24))) && decide (k ∈ (nth ss c.num).lent)) := by
            unfold lentA; rw [any_mem]
          rw [← hla]
          refine ⟨fun hq => ?_, fun hq => ?_⟩
          · rw [if_pos hq] at hsn hls
            refine St.build (α := Int) hS (by (repeat' (first | exact VsOf.nil | apply VsOf.cons | (apply VOf.int; first | assumption | (constructor <;> first | omega | (simp only [List.length_set, List.length_append, List.length_replicate, List.length_cons, List.length_nil, List.length_take, List.length_drop, List.length_map, List.length_singleton] at *; omega))) | exact VOf.bool | exact VOf.str))) rfl (by decide) ?_
            intro x4 w4 I4 hO4 hS hs
            refine ⟨_, rfl, ?_⟩
            refine Own.append hO hS (hO4.src hS) (by simp; omega) (by decide) ?_
            intro x5 w5 I5 hO5 hS
            refine ⟨_, rfl, ?_⟩
            refine go_wr (by omega) (by omega) ?_
            repeat refine go_rf ?_
            exact ⟨⟨v1, I1, I5, hsn, hV, hw1, by rw [hls]; exact hO5, hS.right, by omega, by omega⟩, by omega⟩
          · rw [if_neg (by rw [hq]; decide)] at hsn hls
            have hS2 : St u1 w (I1 ++ (J ++ R)) := hS.perm (by
              classical
              exact List.perm_iff_count.2 fun a => by simp only [List.count_append]; omega)
            have etk : takeV v1 (nth c.args k) = if (v1.reg (nth c.args k)).own < 1 then none else some (decV v1 (nth c.args k)) := by
              unfold takeV
              rw [if_neg (by omega)]
              by_cases ho : (v1.reg (nth c.args k)).own < 1
              · rw [if_pos (.inr ho), if_pos ho]
              · rw [if_neg (by omega), if_neg ho]; rfl
            have ct := c_kTake hV hS2 hw1 hB hAk.1 hAk.2
            rw [← etk] at ct
            refine OpK.use ct (fun hn w' hs => ?_) (fun v' I' w' hn hV hS => ?_)
            · refine ⟨false, rfl, fun _ => ?_, fun h => by cases h⟩
              rw [hpass, takesV_none (hsn.trans hn) (by omega)]
              exact ⟨rfl, hs1.trans hs⟩
            · refine ⟨true, rfl, (fun h => by cases h), fun _ => ?_⟩
              refine go_wr (by omega) (by omega) ?_
              repeat refine go_rf ?_
              exact ⟨⟨v', I', J, hsn.trans hn, hV, takeV_wf hw1 hAk.1 hAk.2 hn, by rw [hls]; exact hO, hS.perm (by
                classical
                exact List.perm_iff_count.2 fun a => by simp only [List.count_append]; omega), by omega, by omega⟩, by omega⟩
      simp only [bls] at hi
      rw [show k.toNat = T.length from by omega] at htk hO
      rw [hpass, htk, Option.bind_some]
      obtain ⟨u2, hs2, hS2, hJ⟩ := hS.freeze J
      have hLr := hO.read1 hJ
      have hLn := hLr.n
      clear hpass hS k0 k1 hi hll
      rw [hLn]
      refine ⟨fun k w' => w = w' ∧ 0 ≤ k ∧ k ≤ (lentL ss c T.length).length ∧ ∀ j : Int, 0 ≤ j → j < k → Al v1 (nth (lentL ss c T.length) j), fun k _ => ((lentL ss c T.length).length - k).toNat, ⟨rfl, by omega, by omega, fun j j0 j1 => by omega⟩, ?_⟩
      rintro k _ ⟨rfl, k0, k1, hj⟩
      have hLl := hLr.le
      refine ⟨fun hi => ?_, fun hi => ?_⟩
      · simp only [bls] at hi
        obtain ⟨i, i0, i1, ie, il⟩ := lentL_mem (nth_mem (l := lentL ss c T.length) k0 (by omega))
        have hAk := h1.args i i0 (by omega)
        refine go_ix hLr k0 (by omega) ?_
        refine ld_int (hLr.mono hS2.sub) k0 (by omega) fun _ _ => ?_
        refine ⟨_, c_kAlive (hV.krd hS2) hw1 (by rw [ie]; exact hAk.1) (by rw [ie]; exact hAk.2), fun hd => ?_, fun hd => ?_⟩
        · simp only [bls] at hd
          have hna : ¬ aliveV ss c v1 := fun hal => by
            have := hal i i0 (by omega) il
            rw [← ie] at this
            simp [alB, this] at hd
          rw [if_neg hna]
          exact ⟨rfl, (hs1.trans hs2).trans hS2.sub⟩
        · simp only [bls] at hd
          refine go_wr (by omega) (by omega) ?_
          repeat refine go_rf ?_
          refine ⟨⟨rfl, by omega, by omega, fun j j0 j1 => ?_⟩, by dsimp only; omega⟩
          by_cases e : j = k
          · subst e; simpa [alB] using hd
          · exact hj j j0 (by omega)
      · simp only [bls] at hi
        have hal : aliveV ss c v1 := fun i i0 i1 il => by
          obtain ⟨j, j0, j1, je⟩ := lentL_get (n := T.length) i0 (by omega) il
          rw [← je]
          exact hj j j0 (by omega)
        rw [if_pos hal, Option.bind_some]
        have hS3 := (hS2.weakU hs2).weakU hs1
        exact OpK.ret (c_finish h hop2 hV hS3 hw1 hB (by have := hres.2.1; constructor <;> omega))
end
end Go.Vc

namespace Go.Vc
open Go Go.Proofs Go.RowKit
set_option linter.all false
section
variable {u u1 w : World} {v v' o : VwD} {a a0 a1 : Addr} {r t n i m op num rr f e_ at_ res : Int} {x y z s ax jx tx : Sl} {I R L : Items} {N B : Nat} {ds : List DeclD} {ss : List SigD} {T ts : List Int} {c : InstrD} {l : List RegK}
theorem slotsN_app {i j : Nat} (h : i ≤ j) : ∃ r, slotsN ts j = slotsN ts i ++ r := by
  induction j with
  | zero => exact ⟨[], by rw [show i = 0 from by omega]; simp⟩
  | succ j ih =>
    rcases Nat.lt_or_ge i (j + 1) with h1 | h1
    · obtain ⟨r, hr⟩ := ih (by omega)
      rw [slotsN_succ]
      split
      · exact ⟨r ++ [(j : Int)], by rw [hr, List.append_assoc]⟩
      · exact ⟨r, hr⟩
    · exact ⟨[], by rw [show i = j + 1 from by omega]; simp⟩
theorem nth_app {l r : List Int} {k : Int} (h0 : 0 ≤ k) (h1 : k < l.length) : nth (l ++ r) k = nth l k := by
  refine nth_of ?_
  rw [List.getElem?_append_left (by omega)]
  exact nth_get h0 h1
theorem nth_last {l : List Int} : nth (l ++ [n]) l.length = n := by
  refine nth_of ?_
  rw [List.getElem?_append_right (by omega)]
  simp
theorem nth_dropI {l : List Int} {d : Nat} {k : Int} (h0 : 0 ≤ k) (h1 : k + d < l.length) : nth (l.drop d) k = nth l (k + d) := by
  refine nth_of ?_
  rw [List.getElem?_drop, show d + k.toNat = (k + d).toNat from by omega]
  exact nth_get (by omega) h1
theorem c_kOpen (h : InQ u x s ax jx ds ss N e_ at_ c) (hop : c.op = 16 ∨ c.op = 17)
    (hv : ∀ w', AtAll w' R → w'.cell? (a0.add 0) = some x.val ∧ w'.cell? (a0.add 1) = some s.val ∧ w'.cell? (a0.add 4) = some (.int .i64 rr)) (hV : Kst a v I) (hS : St u w (I ++ R)) (hw : Wf N B v) (hB : B ≤ 1099511627776) :
    Trip Tryz.prog 130 #[.pointer (some (a0.add 0)), .pointer (some (a.add 0)), .agg #[.int .i64 c.op, .int .i64 c.dst, .int .i64 c.num, .int .i64 c.into, ax.val, jx.val]] w (OpK u R a (openV ds c v)) := by
  refine of130 _ _ _ _ _ _ _ _ _ _ ?_
  unfold vc130
  have hl := hw.lenI
  have hkl := hw.klen
  have hlo := h.P.al
  rw [(arg_16 hop).1] at hlo
  have hhi := h.P.ah
  rw [(arg_16 hop).2] at hhi
  have hA0 := h.args 0 (by omega) (by omega)
  have han := h.hax.n
  have hcf := conF_sm (n := (v.reg (nth c.args 0)).con) h.sg.1
  have hconb := hw.con _ hA0.1 hA0.2
  have hown := hw.own0 _ hA0.1 hA0.2
  obtain ⟨z, y, hX⟩ := hV
  have hR := hX.rd hS
  have hK := hX.rk hS
  obtain ⟨c1, c2, c3, c4, c5, c6⟩ := rk hR hA0.1 (by omega)
  refine go_ix h.hax (by omega) (by omega) ?_
  refine ld_int (h.hax.mono hS.sub) (by omega) (by omega) fun _ _ => ?_
  refine ⟨z, hX.ld0 hS, hR.ix hA0.1 (by omega), _, _, _, _, _, _, ⟨c1, c2, c3, c4, c5, c6⟩, ?_⟩
  refine ⟨y, fun _ _ => hX.ld1 hS, fun _ _ => hK.ix hA0.1 (by omega), nth v.kept (nth c.args 0), fun _ _ => (hK.int hA0.1 (by omega)).1, ?_⟩
  refine ⟨fun hc => ?_, fun hc => ?_⟩
  · simp only [bls] at hc
    have : ¬ openOk ds c v := fun ⟨q1, q2, q3, _⟩ => by
      rcases hc with (hc | hc) | hc
      · omega
      · omega
      · have := q3 hc.1; omega
    unfold openV
    rw [if_neg this]
    exact ⟨rfl, hS.sub⟩
  simp only [bls] at hc
  obtain ⟨zf, hzf, hf⟩ := c_fieldsOf (n := (v.reg (nth c.args 0)).con) (h.hx.mono hS.sub) h.sg.1.sm (by omega)
  have hzn := hzf.n
  refine ⟨x, (hv w hS.right.at_).1, zf, hf, ⟨by omega, by omega⟩, ?_⟩
  rw [hzn, han]
  generalize hF : conF ds (v.reg (nth c.args 0)).con = F at *
  have hsle := slotsN_len (ts := F) (n := F.length)
  have hsF : slotsF F = slotsN F F.length := rfl
  have hcut := h.hax.cut (lo := 1) (hi := c.args.length) (by omega) (by omega) (by omega)
  rw [show ((c.args.length : Nat) : Int).toNat = c.args.length from by omega, List.take_length, show ((1 : Int)).toNat = 1 from rfl] at hcut
  have hcut : Read u (ax.cut 1 (c.args.length : Int) 1) (c.args.drop 1) := hcut
  refine ⟨fun z2 i w' => w = w' ∧ 0 ≤ i ∧ i ≤ F.length ∧ (slotsN F i.toNat).length + 1 ≤ c.args.length ∧ Read u z2 (c.args.drop ((slotsN F i.toNat).length + 1)) ∧ ∀ j : Int, 0 ≤ j → j < (slotsN F i.toNat).length → (v.reg (nth c.args (j + 1))).frm = nth c.args 0 ∧ (v.reg (nth c.args (j + 1))).field = nth (slotsN F i.toNat) j, fun _ i _ => (F.length - i).toNat, ⟨rfl, by omega, by omega, by simp [slotsN]; omega, hcut, fun j j0 j1 => by simp [slotsN] at j1; omega⟩, ?_⟩
  rintro z2 i _ ⟨rfl, i0, i1, hcl, hz2, hj⟩
  have hz2n := hz2.n
  rw [List.length_drop] at hz2n
  refine ⟨fun hi => ?_, fun hi => ?_⟩
  · simp only [bls] at hi
    have hsn := slotsN_succ (ts := F) (n := i.toNat)
    rw [show ((i.toNat : Nat) : Int) = i from by omega, show i.toNat + 1 = (i + 1).toNat from by omega] at hsn
    refine go_ix hzf i0 (by omega) ?_
    refine ld_int hzf i0 (by omega) fun _ _ => ?_
    refine ⟨fun hq => ?_, fun hq => ?_⟩
    · simp only [bls] at hq
      rw [if_neg (by simpa using hq)] at hsn
      refine go_wr (by omega) (by omega) ?_
      repeat refine go_rf ?_
      refine ⟨⟨rfl, by omega, by omega, by rw [hsn]; exact hcl, by rw [hsn]; exact hz2, by rw [hsn]; exact hj⟩, by dsimp only; omega⟩
    · simp only [bls] at hq
      rw [if_pos hq] at hsn
      obtain ⟨rest, hrest⟩ := slotsN_app (ts := F) (i := (i + 1).toNat) (j := F.length) (by omega)
      have hcl2 : (slotsN F i.toNat).length + 1 ≤ (slotsF F).length := by
        rw [hsF, hrest, hsn]; simp
      have hnth : nth (slotsF F) (slotsN F i.toNat).length = i := by
        rw [hsF, hrest, nth_app (by omega) (by rw [hsn]; simp; omega), hsn]
        exact nth_last
      have hg : (decide ((z2.n : Int) = 0)) = false → (slotsN F i.toNat).length + 1 < c.args.length := fun hh => by simp only [bls] at hh; omega
      have hnd : (slotsN F i.toNat).length + 1 < c.args.length → nth (c.args.drop ((slotsN F i.toNat).length + 1)) 0 = nth c.args (((slotsN F i.toNat).length : Int) + 1) := fun hh => by
        rw [nth_dropI (by omega) (by omega)]
        congr 1
        omega
      refine ⟨z, fun _ => hX.ld0 hS, ?_⟩
      refine go_ixg hz2 (fun hh => by have := hg hh; rw [List.length_drop]; omega) ?_
      refine ld_intg (hz2.mono hS.sub) (fun hh => by have := hg hh; rw [List.length_drop]; omega) ?_
      refine ⟨fun hh => ?_, ?_⟩
      · rw [hnd (hg hh)]
        have := h.args (((slotsN F i.toNat).length : Int) + 1) (by omega) (by have := hg hh; omega)
        exact hR.ix this.1 (by omega)
      refine ⟨(v.reg (nth c.args (((slotsN F i.toNat).length : Int) + 1))).frm, fun hh => ?_, ?_⟩
      · rw [hnd (hg hh)]
        have := h.args (((slotsN F i.toNat).length : Int) + 1) (by omega) (by have := hg hh; omega)
        exact (rk hR this.1 (by omega)).2.2.2.2.1
      have hg2 : (((decide ((z2.n : Int) = 0)) || (!decide ((v.reg (nth c.args (((slotsN F i.toNat).length : Int) + 1))).frm = nth c.args 0))) = false) → (slotsN F i.toNat).length + 1 < c.args.length := fun hh => hg (by simp only [Bool.or_eq_false_iff] at hh; exact hh.1)
      refine ⟨z, fun _ => hX.ld0 hS, ?_⟩
      refine go_ixg hz2 (fun hh => by have := hg2 hh; rw [List.length_drop]; omega) ?_
      refine ld_intg (hz2.mono hS.sub) (fun hh => by have := hg2 hh; rw [List.length_drop]; omega) ?_
      refine ⟨fun hh => ?_, ?_⟩
      · rw [hnd (hg2 hh)]
        have := h.args (((slotsN F i.toNat).length : Int) + 1) (by omega) (by have := hg2 hh; omega)
        exact hR.ix this.1 (by omega)
      refine ⟨(v.reg (nth c.args (((slotsN F i.toNat).length : Int) + 1))).field, fun hh => ?_, ?_⟩
      · rw [hnd (hg2 hh)]
        have := h.args (((slotsN F i.toNat).length : Int) + 1) (by omega) (by have := hg2 hh; omega)
        exact (rk hR this.1 (by omega)).2.2.2.2.2
      refine ⟨fun hd => ?_, fun hd => ?_⟩
      · simp only [bls] at hd
        have : ¬ openOk ds c v := fun ⟨_, _, _, q4, q5⟩ => by
          rw [hF] at q4 q5
          have := q5 (slotsN F i.toNat).length (by omega) (by omega)
          rw [hnth] at this
          rcases hd with (hd | hd) | hd
          · omega
          · exact hd this.1
          · exact hd this.2
        unfold openV
        rw [if_neg this]
        exact ⟨rfl, hS.sub⟩
      · simp only [bls] at hd
        have hlt : (slotsN F i.toNat).length + 1 < c.args.length := by omega
        refine ⟨⟨by omega, by omega⟩, ?_⟩
        refine go_wr (by omega) (by omega) ?_
        repeat refine go_rf ?_
        have hlen : (slotsN F (i + 1).toNat).length = (slotsN F i.toNat).length + 1 := by rw [hsn]; simp
        refine ⟨⟨rfl, by omega, by omega, by omega, ?_, fun j j0 j1 => ?_⟩, by dsimp only; omega⟩
        · have := hz2.cut (lo := 1) (hi := z2.n) (by omega) (by omega) (by rw [List.length_drop]; omega)
          rw [show ((z2.n : Nat) : Int).toNat = z2.n from by omega, List.take_of_length_le (by rw [List.length_drop]; omega), show ((1 : Int)).toNat = 1 from rfl, List.drop_drop] at this
          rw [hlen]
          exact this
        · rw [hlen] at j1
          by_cases e : j = (slotsN F i.toNat).length
          · subst e
            rw [hsn, nth_last]
            exact ⟨hd.1.2, hd.2⟩
          · rw [hsn, nth_app j0 (by omega)]
            exact hj j j0 (by omega)
  simp only [bls] at hi
  rw [show i.toNat = F.length from by omega] at hj hcl hz2n
  refine ⟨fun hq => ?_, fun hq => ?_⟩
  · simp only [bls] at hq
    have : ¬ openOk ds c v := fun ⟨_, _, _, q4, _⟩ => by rw [hF, hsF] at q4; omega
    unfold openV
    rw [if_neg this]
    exact ⟨rfl, hS.sub⟩
  simp only [bls] at hq
  have hcount : ((slotsN F F.length).length : Int) = c.args.length - 1 := by omega
  have hk : openOk ds c v := ⟨hc.1.2, hc.1.1, fun hh => hc.2.resolve_left (fun hn => hn hh), by rw [hF, hsF]; omega, fun j j0 j1 => by rw [hF, hsF] at *; exact hj j j0 j1⟩
  unfold openV
  rw [if_pos hk]
  dsimp only
  rw [hF]
  refine ⟨⟨by omega, by omega⟩, ?_⟩
  have hcn := hcut.n
  rw [List.length_drop] at hcn
  rw [hcn]
  have hAl : ∀ k : Int, 0 ≤ k → k < c.args.length → 0 ≤ nth c.args k ∧ nth c.args k < v.regs.length := fun k k0 k1 => by have := h.args k k0 k1; omega
  clear hR hK c1 c2 c3 c4 c5 c6 hz2 hf hzf
  refine ⟨fun k w' => ∃ I', KstX a z y (incsV c k.toNat v) I' ∧ St u w' (I' ++ R) ∧ 0 ≤ k ∧ k ≤ (c.args.length : Int) - 1, fun k _ => (c.args.length - k).toNat, ⟨I, hX, hS, by omega, by omega⟩, ?_⟩
  clear hX hS
  rintro k w ⟨I', hX, hS, k0, k1⟩
  dsimp only
  refine ⟨fun hi => ?_, fun hi => ?_⟩
  · simp only [bls] at hi
    have hAk := h.args (k + 1) (by omega) (by omega)
    obtain ⟨b1, b2, b3, b4, b5, b6, b7, b8, b9⟩ := incsV_reg (v := v) (i := k.toNat) hAl (by omega) _ hAk.1
    have hownk := hw.own0 _ hAk.1 hAk.2
    have hR := hX.rd hS
    have hnd : nth (c.args.drop 1) k = nth c.args (k + 1) := nth_dropI k0 (by omega)
    obtain ⟨_, c2, _⟩ := rk hR hAk.1 (by omega)
    refine go_ix hcut k0 (by rw [List.length_drop]; omega) ?_
    refine ld_int (hcut.mono hS.sub) k0 (by rw [List.length_drop]; omega) fun _ _ => ?_
    rw [hnd]
    refine ⟨z, hX.ld0 hS, hR.ix hAk.1 (by omega), _, c2, ?_⟩
    refine go_wr (by omega) (by omega) ?_
    refine ⟨hR.ix hAk.1 (by omega), ?_⟩
    refine hX.s1 hS hAk.1 (by omega) (by constructor <;> omega) rfl ?_
    intro w1 I1 hX hS
    refine go_wr (by omega) (by omega) ?_
    repeat refine go_rf ?_
    refine ⟨⟨I1, ?_, hS, by omega, by omega⟩, by omega⟩
    rw [show (k + 1).toNat = k.toNat + 1 from by omega]
    unfold incsV incV
    rw [show ((k.toNat : Nat) : Int) = k from by omega]
    exact hX
  · simp only [bls] at hi
    rw [show k.toNat = c.args.length - 1 from by omega] at hX
    obtain ⟨b1, b2, b3, b4, b5, b6, b7, b8, b9⟩ := incsV_reg (v := v) (i := c.args.length - 1) hAl (by omega) _ hA0.1
    have hR := hX.rd hS
    obtain ⟨_, c2, _⟩ := rk hR hA0.1 (by omega)
    refine ⟨z, hX.ld0 hS, hR.ix hA0.1 (by omega), _, c2, ?_⟩
    refine go_wr (by omega) (by omega) ?_
    refine ⟨hR.ix hA0.1 (by omega), ?_⟩
    refine hX.s1 hS hA0.1 (by omega) (by constructor <;> omega) rfl ?_
    intro w1 I1 hX hS
    have hX : KstX a z y (decV (incsV c (c.args.length - 1) v) (nth c.args 0)) I1 := hX
    have hk2 : (decV (incsV c (c.args.length - 1) v) (nth c.args 0)).kept = v.kept := b9
    refine ⟨fun hq => ?_, fun hq => ?_⟩
    · simp only [bls] at hq
      rw [if_pos hq]
      refine ⟨y, hX.ld1 hS, (hX.rk hS).ix hA0.1 (by rw [hk2]; omega), ?_⟩
      refine hX.sk hS hA0.1 (by rw [hk2]; omega) (by constructor <;> omega) ?_
      intro w2 I2 hX hS
      exact ⟨I2, rfl, ⟨z, y, hX⟩, hS⟩
    · simp only [bls] at hq
      rw [if_neg hq]
      exact ⟨I1, rfl, ⟨z, y, hX⟩, hS⟩
theorem c_kLoad (h : InQ u x s ax jx ds ss N e_ at_ c) (hop : c.op = 19)
    (hv : ∀ w', AtAll w' R → w'.cell? (a0.add 0) = some x.val ∧ w'.cell? (a0.add 1) = some s.val ∧ w'.cell? (a0.add 4) = some (.int .i64 rr)) (hV : Kst a v I) (hS : St u w (I ++ R)) (hw : Wf N B v) (hB : B ≤ 1099511627776) :
    Trip Tryz.prog 132 #[.pointer (some (a0.add 0)), .pointer (some (a.add 0)), .agg #[.int .i64 c.op, .int .i64 c.dst, .int .i64 c.num, .int .i64 c.into, ax.val, jx.val]] w (OpK u R a (loadV ds c v)) := by
  refine of132 _ _ _ _ _ _ _ _ _ _ ?_
  unfold vc132
  have hl := hw.lenI
  have hlo := h.P.al
  rw [(arg_1 (by omega)).1] at hlo
  have hA0 := h.args 0 (by omega) (by omega)
  have hnum := (numV_load hop).1 h.ok.2.2.2.2.2.2.2.2.1
  have hdst := h.dst
  have hNb := h.hN
  have hcf := conF_sm (n := (v.reg (nth c.args 0)).con) h.sg.1
  have hconb := hw.con _ hA0.1 hA0.2
  obtain ⟨z, y, hX⟩ := hV
  have hR := hX.rd hS
  obtain ⟨c1, c2, c3, c4, c5, c6⟩ := rk hR hA0.1 (by omega)
  refine go_ix h.hax (by omega) (by omega) ?_
  refine ld_int (h.hax.mono hS.sub) (by omega) (by omega) fun _ _ => ?_
  refine ⟨z, hX.ld0 hS, hR.ix hA0.1 (by omega), _, _, _, _, _, _, ⟨c1, c2, c3, c4, c5, c6⟩, ?_⟩
  refine ⟨_, c_kAlive (hX.krd hS) hw hA0.1 hA0.2, ?_⟩
  unfold loadV
  refine ⟨fun hc => ?_, fun hc => ?_⟩
  · simp only [bls] at hc
    rw [if_neg]
    · exact ⟨rfl, hS.sub⟩
    · rintro ⟨q1, q2, q3⟩
      rcases hc with hc | hc
      · simp [alB, q2] at hc
      · omega
  simp only [bls] at hc
  have hal : Al v (nth c.args 0) := by simpa [alB] using hc.1
  obtain ⟨zf, hzf, hf⟩ := c_fieldsOf (n := (v.reg (nth c.args 0)).con) (h.hx.mono hS.sub) h.sg.1.sm (by omega)
  have hzn := hzf.n
  refine ⟨x, (hv w hS.right.at_).1, zf, hf, ?_⟩
  rw [hzn]
  have hg : (decide (c.num ≥ ((conF ds (v.reg (nth c.args 0)).con).length : Int)) = false) → 0 ≤ c.num ∧ c.num < (conF ds (v.reg (nth c.args 0)).con).length := fun hq => by
    simp only [bls] at hq; omega
  refine go_ixg hzf hg ?_
  refine ld_intg hzf hg ?_
  refine ⟨fun hd => ?_, fun hd => ?_⟩
  · have hd' := hg hd
    have hty := conF_typ (n := (v.reg (nth c.args 0)).con) h.sg.1 hd'.1 hd'.2
    rw [if_pos ⟨by omega, hal, by omega⟩]
    refine OpK.use (c_kSet ⟨z, y, hX⟩ hS hw hdst.1 hdst.2 (by constructor <;> omega) (by constructor <;> omega)) (fun hn w' hs => ?_) (fun v' I' w' hn hV hS => ?_)
    · rw [hn]
      exact ⟨false, rfl, fun _ => ⟨rfl, hs⟩, fun h => by cases h⟩
    refine ⟨true, rfl, (fun h => by cases h), fun _ => ?_⟩
    rw [hn, Option.map_some]
    have hl' : v'.regs.length = v.regs.length := by
      unfold setW at hn
      split at hn
      · cases hn
      · cases hn; unfold setV; simp
    refine ⟨fun hq => ?_, fun hq => ?_⟩
    · simp only [bls] at hq
      rw [if_neg hq]
      obtain ⟨z, y, hX⟩ := hV
      have hR := hX.rd hS
      refine ⟨z, hX.ld0 hS, z, hX.ld0 hS, hR.ix hdst.1 (by omega), ?_⟩
      have key : StoreAt w' (elA z c.dst 6) 4 [.int .i64 (nth c.args 0)] fun w22 => IxOk z c.dst ∧ StoreAt w22 (elA z c.dst 6) 5 [.int .i64 c.num] fun w23 => OpK u R a (some (v'.upd c.dst ⟨(v'.reg c.dst).typ, (v'.reg c.dst).own, (v'.reg c.dst).lent, (v'.reg c.dst).con, nth c.args 0, c.num⟩)) (.bool true) w23 := by
        refine hX.s4 hS hdst.1 (by omega) (by constructor <;> omega) rfl ?_
        intro w2 I2 hX hS
        refine ⟨(hX.rd hS).ix hdst.1 (by rw [VwD.upd_len]; omega), ?_⟩
        refine hX.s5 hS hdst.1 (by rw [VwD.upd_len]; omega) (by constructor <;> omega) rfl ?_
        intro w3 I3 hX hS
        rw [VwD.upd_upd, VwD.upd_self hdst.1 (by omega)] at hX
        exact ⟨I3, rfl, ⟨z, y, hX⟩, hS⟩
      repeat' (first | exact key | refine ⟨?_, ?_⟩)
    · simp only [bls] at hq
      rw [if_pos hq]
      exact ⟨I', rfl, hV, hS⟩
  · simp only [bls] at hd
    rw [if_neg (by rintro ⟨q1, q2, q3⟩; omega)]
    exact ⟨rfl, hS.sub⟩
theorem c_check (h : InQ u x s ax jx ds ss N e_ at_ c) (hrr : 0 ≤ rr ∧ rr ≤ 1000) (hsw : c.op ≠ 21)
    (hv : ∀ w', AtAll w' R → w'.cell? (a0.add 0) = some x.val ∧ w'.cell? (a0.add 1) = some s.val ∧ w'.cell? (a0.add 4) = some (.int .i64 rr)) (hV : Kst a v I) (hS : St u w (I ++ R)) (hw : Wf N B v) (hB : B ≤ 1099511627776) :
    Trip Tryz.prog 97 #[.pointer (some (a0.add 0)), .pointer (some (a.add 0)), .agg #[.int .i64 c.op, .int .i64 c.dst, .int .i64 c.num, .int .i64 c.into, ax.val, jx.val]] w (OpK u R a (passV ds ss rr c v)) := by
  classical
  refine of97 _ _ _ _ _ _ _ _ _ _ ?_
  unfold vc97
  have hl := hw.lenI
  have hdst := h.dst
  have hlo := h.P.al
  have hop := h.ok.1
  unfold opOk at hop
  have hop : (c.op = 0 ∨ (c.op = 1 ∨ c.op = 2 ∨ c.op = 3 ∨ c.op = 4) ∨ c.op = 5 ∨ c.op = 20 ∨ c.op = 6 ∨ c.op = 9 ∨ c.op = 24 ∨ c.op = 10 ∨ c.op = 11 ∨ c.op = 23) ∨ c.op = 14 ∨ c.op = 15 ∨ (c.op = 16 ∨ c.op = 17) ∨ c.op = 18 ∨ c.op = 19 ∨ c.op = 22 := by omega
  rcases hop with hop | hop | hop | hop | hop | hop | hop
  · repeat (first | refine ⟨fun h => absurd (of_decide_eq_true h) (by omega), fun _ => ?_⟩ | refine ⟨fun _ => ?_, fun h => absurd (of_decide_eq_false h) (by omega)⟩)
    exact OpK.ret (c_use h hrr hop hv hV hS hw hB)
  · rw [show passV ds ss rr c v = if 1 ≤ (v.reg (nth c.args 0)).typ ∧ Al v (nth c.args 0) then some (incV v (nth c.args 0)) else none from by (unfold passV; repeat (first | rw [if_neg (by omega)] | rw [if_pos (by omega)]))]
    rw [(arg_1 (by omega)).1] at hlo
    have hA0 := h.args 0 (by omega) (by omega)
    have hown := hw.own0 _ hA0.1 hA0.2
    repeat (first | refine ⟨fun h => absurd (of_decide_eq_true h) (by omega), fun _ => ?_⟩ | refine ⟨fun _ => ?_, fun h => absurd (of_decide_eq_false h) (by omega)⟩)
    obtain ⟨z, y, hX⟩ := hV
    have hR := hX.rd hS
    obtain ⟨c1, c2, _⟩ := rk hR hA0.1 (by omega)
    refine ⟨z, hX.ld0 hS, ?_⟩
    refine go_ix h.hax (by omega) (by omega) ?_
    refine ld_int (h.hax.mono hS.sub) (by omega) (by omega) fun _ _ => ?_
    refine ⟨hR.ix hA0.1 (by omega), _, c1, ?_⟩
    refine go_ixg h.hax (fun _ => ⟨by omega, by omega⟩) ?_
    refine ld_intg (h.hax.mono hS.sub) (fun _ => ⟨by omega, by omega⟩) ?_
    refine ⟨_, fun _ => c_kAlive (hX.krd hS) hw hA0.1 hA0.2, ?_⟩
    refine ⟨fun hq => ?_, fun hq => ?_⟩
    · simp only [bls] at hq
      rw [if_neg]
      · exact ⟨rfl, hS.sub⟩
      · rintro ⟨q1, q2⟩
        rcases hq with hq | hq
        · omega
        · simp [alB, q2] at hq
    · simp only [bls] at hq
      rw [if_pos ⟨by omega, by simpa [alB] using hq.2⟩]
      refine ⟨z, hX.ld0 hS, ?_⟩
      refine go_ix h.hax (by omega) (by omega) ?_
      refine ld_int (h.hax.mono hS.sub) (by omega) (by omega) fun _ _ => ?_
      refine ⟨hR.ix hA0.1 (by omega), _, c2, ?_⟩
      refine go_wr (by omega) (by omega) ?_
      refine ⟨hR.ix hA0.1 (by omega), ?_⟩
      refine hX.s1 hS hA0.1 (by omega) (by constructor <;> omega) rfl ?_
      intro w1 I1 hX hS
      exact ⟨I1, rfl, ⟨z, y, hX⟩, hS⟩
  · rw [show passV ds ss rr c v = if 0 < (v.reg (nth c.args 0)).typ then takeV v (nth c.args 0) else none from by (unfold passV; repeat (first | rw [if_neg (by omega)] | rw [if_pos (by omega)]))]
    rw [(arg_1 (by omega)).1] at hlo
    have hA0 := h.args 0 (by omega) (by omega)
    repeat (first | refine ⟨fun h => absurd (of_decide_eq_true h) (by omega), fun _ => ?_⟩ | refine ⟨fun _ => ?_, fun h => absurd (of_decide_eq_false h) (by omega)⟩)
    obtain ⟨z, y, hX⟩ := hV
    have hR := hX.rd hS
    obtain ⟨c1, c2, _⟩ := rk hR hA0.1 (by omega)
    refine ⟨z, hX.ld0 hS, ?_⟩
    refine go_ix h.hax (by omega) (by omega) ?_
    refine ld_int (h.hax.mono hS.sub) (by omega) (by omega) fun _ _ => ?_
    refine ⟨hR.ix hA0.1 (by omega), _, c1, ?_⟩
    refine go_ixg h.hax (fun _ => ⟨by omega, by omega⟩) ?_
    refine ld_intg (h.hax.mono hS.sub) (fun _ => ⟨by omega, by omega⟩) ?_
    refine ⟨fun hq => ?_, fun hq => ?_⟩
    · simp only [bls] at hq
      rw [if_pos hq]
      have etk : takeV v (nth c.args 0) = if (v.reg (nth c.args 0)).own < 1 then none else some (decV v (nth c.args 0)) := by
        unfold takeV
        rw [if_neg (by omega)]
        by_cases ho : (v.reg (nth c.args 0)).own < 1
        · rw [if_pos (.inr ho), if_pos ho]
        · rw [if_neg (by omega), if_neg ho]; rfl
      rw [etk]
      exact OpK.ret (c_kTake ⟨z, y, hX⟩ hS hw hB hA0.1 hA0.2)
    · simp only [bls] at hq
      rw [if_neg (by omega)]
      exact ⟨rfl, hS.sub⟩
  · rw [show passV ds ss rr c v = openV ds c v from by (unfold passV; repeat (first | rw [if_neg (by omega)] | rw [if_pos (by omega)]))]
    rcases hop with hop | hop
    all_goals
      repeat (first | refine ⟨fun h => absurd (of_decide_eq_true h) (by omega), fun _ => ?_⟩ | refine ⟨fun _ => ?_, fun h => absurd (of_decide_eq_false h) (by omega)⟩)
      exact OpK.ret (c_kOpen h (by omega) hv hV hS hw hB)
  · rw [show passV ds ss rr c v = if 0 ≤ (v.reg (nth c.args 0)).typ then (takeV v (nth c.args 0)).bind fun v' => setW v' c.dst (v.reg (nth c.args 0)).typ (ownOf (v.reg (nth c.args 0)).typ) else none from by (unfold passV; repeat (first | rw [if_neg (by omega)] | rw [if_pos (by omega)]))]
    rw [(arg_1 (by omega)).1] at hlo
    have hA0 := h.args 0 (by omega) (by omega)
    have hsm := hw.sm _ hA0.1 hA0.2
    repeat (first | refine ⟨fun h => absurd (of_decide_eq_true h) (by omega), fun _ => ?_⟩ | refine ⟨fun _ => ?_, fun h => absurd (of_decide_eq_false h) (by omega)⟩)
    obtain ⟨z, y, hX⟩ := hV
    have hR := hX.rd hS
    obtain ⟨c1, c2, _⟩ := rk hR hA0.1 (by omega)
    refine ⟨z, hX.ld0 hS, ?_⟩
    refine go_ix h.hax (by omega) (by omega) ?_
    refine ld_int (h.hax.mono hS.sub) (by omega) (by omega) fun _ _ => ?_
    refine ⟨hR.ix hA0.1 (by omega), _, c1, ?_⟩
    refine ⟨fun _ _ => h.hax.ix (by omega) (by omega), nth c.args 0, fun _ _ => ((h.hax.mono hS.sub).int (by omega) (by omega)).1, ?_⟩
    refine ⟨fun hq1 hq2 => ?_, fun hq => ?_⟩
    · simp only [bls] at hq1 hq2
      rw [if_pos hq1]
      have etk : takeV v (nth c.args 0) = if (v.reg (nth c.args 0)).own < 1 then none else some (decV v (nth c.args 0)) := by
        unfold takeV
        rw [if_neg (by omega)]
        by_cases ho : (v.reg (nth c.args 0)).own < 1
        · rw [if_pos (.inr ho), if_pos ho]
        · rw [if_neg (by omega), if_neg ho]; rfl
      have ct := c_kTake (a := a) ⟨z, y, hX⟩ hS hw hB hA0.1 hA0.2
      rw [← etk] at ct
      refine OpK.use ct (fun hn w' hs => ?_) (fun v' I' w' hn hV hS => ?_)
      · rw [hn]
        refine ⟨false, rfl, fun _ => ⟨rfl, hs⟩, fun hh => ?_⟩
        simp [hq2] at hh
      · rw [hn, Option.bind_some]
        refine ⟨true, rfl, fun hh => ?_, fun _ => ?_⟩
        · simp at hh; omega
        refine go_min ?_
        rw [min_own hq1]
        have := ownOf_bd (t := (v.reg (nth c.args 0)).typ)
        exact OpK.ret (c_kSet hV hS (takeV_wf hw hA0.1 hA0.2 hn) hdst.1 hdst.2 (by constructor <;> omega) (by constructor <;> omega))
    · refine ⟨fun hd => ?_, fun hd => ?_⟩
      · simp only [bls] at hd hq
        rw [if_neg (by omega)]
        exact ⟨rfl, hS.sub⟩
      · simp only [bls] at hd
        have h0 : (v.reg (nth c.args 0)).typ = 0 := by omega
        rw [if_pos (by omega)]
        have etk : takeV v (nth c.args 0) = some v := by unfold takeV; rw [if_pos h0]
        rw [etk, Option.bind_some]
        refine go_min ?_
        rw [min_own (by omega)]
        have := ownOf_bd (t := (v.reg (nth c.args 0)).typ)
        exact OpK.ret (c_kSet ⟨z, y, hX⟩ hS hw hdst.1 hdst.2 (by constructor <;> omega) (by constructor <;> omega))
  · rw [show passV ds ss rr c v = loadV ds c v from by (unfold passV; repeat (first | rw [if_neg (by omega)] | rw [if_pos (by omega)]))]
    repeat (first | refine ⟨fun h => absurd (of_decide_eq_true h) (by omega), fun _ => ?_⟩ | refine ⟨fun _ => ?_, fun h => absurd (of_decide_eq_false h) (by omega)⟩)
    exact OpK.ret (c_kLoad h hop hv hV hS hw hB)
  · rw [show passV ds ss rr c v = some v from by (unfold passV; repeat (first | rw [if_neg (by omega)] | rw [if_pos (by omega)]))]
    repeat (first | refine ⟨fun h => absurd (of_decide_eq_true h) (by omega), fun _ => ?_⟩ | refine ⟨fun _ => ?_, fun h => absurd (of_decide_eq_false h) (by omega)⟩)
    exact ⟨I, rfl, hV, hS⟩
end
end Go.Vc
