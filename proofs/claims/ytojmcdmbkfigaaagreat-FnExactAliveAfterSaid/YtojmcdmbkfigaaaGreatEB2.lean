/- Part of the proofs about the heaps and memories: a law is joined in the text whose name ends in W and the law. -/
import Derived.Test.YtojmcdmbkfigaaaGreatEB1
import Derived.Test.YtojmcdmbkfigaaaGreatEE5
namespace Go.Vc
open Go Go.Proofs Go.RowKit
set_option linter.all false
/-- what the reference's type of a block is -/
def BtP (ds : List DeclD) (rs : List RoutD) (b : BlockD) : Prop := ∀ (v : World) (x y z xs : Sl) (vars : List Int), Nrm v x y ds rs → Read v z vars → nonneg vars → Read v xs b.steps → InI b.result → vars.length + 4 * cntB b ≤ 10000 →
  Fn Tryz.prog 48 #[.agg #[x.val, y.val], z.val, .agg #[xs.val, .int .i64 b.result]] v (.int .i64 (gD (blkT ds (rs.map sgOf) vars b)))
section
variable {u v w : World} {x y z ax kx tx xs : Sl} {vars args T W : List Int} {ds : List DeclD} {rs : List RoutD} {ss : List SigD} {n i t op num into : Int} {c : StepD} {b : BlockD} {kids : List BlockD} {fs : List (List Int)}
theorem cntK_mem : ∀ (l : List BlockD), b ∈ l → cntB b ≤ cntK l
  | [], h => by cases h
  | a :: r, h => by
    rw [cntK_cons]
    rcases List.mem_cons.1 h with e | h
    · rw [e]; omega
    · have := cntK_mem r h; omega
theorem stp_simple (hinto : intoIn vars c.op c.into) (h7 : c.op ≠ 7) (h8 : c.op ≠ 8) (hc : ¬ isCnt c.op) (hk : c.kids.length = 0) : (argsIn vars c.args → stpT ds ss vars c = simB ds ss c.op c.num (typs vars c.args)) ∧ (¬ argsIn vars c.args → stpT ds ss vars c = none) := by
  classical
  refine ⟨fun h => ?_, fun h => ?_⟩
  · rw [stpT_eq, if_pos ⟨h, hinto⟩, if_neg hc, if_neg h7, if_neg h8, if_pos hk]
  · rw [stpT_eq, if_neg fun hh => h hh.1]
theorem stp_w (hinto : intoIn vars c.op c.into) (h7 : c.op ≠ 7) (h8 : c.op ≠ 8) (hc : ¬ isCnt c.op) (hk : c.kids.length = 0) (hw : wantB ds ss c.op c.num (nth (typs vars c.args) 0) = some (W, n)) :
    gD (stpT ds ss vars c) = bif pB (argsIn vars c.args ∧ typs vars c.args = W) then n else -1 := by
  obtain ⟨h1, h2⟩ := stp_simple (ds := ds) (ss := ss) hinto h7 h8 hc hk
  have hs : simB ds ss c.op c.num (typs vars c.args) = if typs vars c.args = W then some n else none := by unfold simB; rw [hw]
  rcases Classical.em (argsIn vars c.args) with hin | hin
  · rw [h1 hin, hs]
    split
    · rename_i e; rw [pB_t ⟨hin, e⟩]; rfl
    · rename_i e; rw [pB_f fun hh => e hh.2]; rfl
  · rw [h2 hin, pB_f fun hh => hin hh.1]; rfl
theorem stp_n (hinto : intoIn vars c.op c.into) (h7 : c.op ≠ 7) (h8 : c.op ≠ 8) (hc : ¬ isCnt c.op) (hk : c.kids.length = 0) (hw : wantB ds ss c.op c.num (nth (typs vars c.args) 0) = none) :
    gD (stpT ds ss vars c) = -1 := by
  obtain ⟨h1, h2⟩ := stp_simple (ds := ds) (ss := ss) hinto h7 h8 hc hk
  rcases Classical.em (argsIn vars c.args) with hin | hin
  · rw [h1 hin]; unfold simB; rw [hw]; rfl
  · rw [h2 hin]; rfl
theorem wantB_num (hn : num ≠ 0) (ho : op ≠ 0 ∧ op ≠ 6 ∧ op ≠ 8 ∧ op ≠ 9 ∧ op ≠ 10) : wantB ds ss op num t = none := by
  unfold wantB
  rw [if_neg ho.1]
  split
  · first | rfl | rw [if_neg hn]
  split
  · first | rfl | rw [if_neg hn]
  rw [if_neg ho.2.1, if_neg ho.2.2.2.1, if_neg ho.2.2.2.2]
  split
  · rw [if_neg fun hh => hn hh.1]
  · rfl
theorem wantB_other (ho : ¬ (0 ≤ op ∧ op ≤ 6) ∧ ¬ (9 ≤ op ∧ op ≤ 11)) : wantB ds ss op num t = none := by
  (unfold wantB; repeat (first | rw [if_neg (by omega)] | rw [if_pos (by omega)]))
theorem stp_out (h : ¬ argsIn vars c.args) : stpT ds ss vars c = none := by
  classical
  rw [stpT_eq, if_neg fun hh => h hh.1]
theorem stp_7 (h : argsIn vars c.args) (hi : intoIn vars c.op c.into) (o7 : c.op = 7) : stpT ds ss vars c = if typs vars c.args = [0] ∧ c.num = 0 ∧ c.kids.length = 2 then same1 (kidsT ds ss vars [[], []] c.kids) else none := by
  classical
  rw [stpT_eq, if_pos ⟨h, hi⟩, if_neg (by unfold isCnt; omega), if_pos o7]
open Classical in
theorem stp_8 (h : argsIn vars c.args) (hi : intoIn vars c.op c.into) (o8 : c.op = 8) : stpT ds ss vars c = if typs vars c.args = [c.num] ∧ 0 < (armF ds c.num).length ∧ c.kids.length = (armF ds c.num).length then same1 (kidsT ds ss vars (armF ds c.num) c.kids) else none := by
  rw [stpT_eq, if_pos ⟨h, hi⟩, if_neg (by unfold isCnt; omega), if_neg (by omega), if_pos o8]
theorem stp_into (h : ¬ intoIn vars c.op c.into) : stpT ds ss vars c = none := by
  classical
  rw [stpT_eq, if_neg fun hh => h hh.2]
theorem stp_kids (hk : c.kids.length ≠ 0) (h7 : c.op ≠ 7) (h8 : c.op ≠ 8) : stpT ds ss vars c = none := by
  classical
  rw [stpT_eq]
  split
  · split
    · rw [if_neg fun hh => hk hh.2]
    · first | rfl | rw [if_neg h7, if_neg h8, if_neg hk]
  · rfl
theorem stp_num (hn : c.num ≠ 0) (ho : c.op ≠ 0 ∧ c.op ≠ 6 ∧ c.op ≠ 8 ∧ c.op ≠ 9 ∧ c.op ≠ 10) : stpT ds ss vars c = none := by
  classical
  rw [stpT_eq]
  split
  · split
    · rw [if_neg fun hh => hn hh.1.2.2.1]
    split
    · rw [if_neg fun hh => hn hh.2.1]
    rw [if_neg ho.2.2.1]
    split
    · unfold simB; rw [wantB_num hn ho]
    · rfl
  · rfl
theorem stp_op (h : stpT ds ss vars c = some t) : (0 ≤ c.op ∧ c.op ≤ 11) ∨ isCnt c.op := by
  classical
  rcases Classical.em (isCnt c.op) with hc | hc
  · exact .inr hc
  refine .inl (Classical.byContradiction fun hn => ?_)
  rw [stpT_eq] at h
  split at h
  · rw [if_neg (by omega), if_neg (by omega)] at h
    split at h
    · unfold simB at h
      rw [wantB_other (by omega)] at h
      cases h
    · cases h
  · cases h
theorem stp_cnt (hinto : intoIn vars c.op c.into) (hc : isCnt c.op) (hk : c.kids.length = 0) : gD (stpT ds ss vars c) = bif pB (argsIn vars c.args ∧ cntOk ds c.op c.num (typs vars c.args)) then 0 else -1 := by
  classical
  rw [stpT_eq]
  rcases Classical.em (argsIn vars c.args ∧ cntOk ds c.op c.num (typs vars c.args)) with h | h
  · rw [if_pos ⟨h.1, hinto⟩, if_pos hc, if_pos ⟨h.2, hk⟩, pB_t h]; rfl
  · rw [pB_f h]
    split
    · rename_i hh
      rw [if_neg fun h2 => h ⟨hh.1, h2.1⟩]; rfl
    · rfl
/-- a choice's kids, their types one by one -/
theorem kids_all (hl : kids ≠ []) (h : ∀ j : Int, 0 ≤ j → j < kids.length → blkT ds ss (vars ++ nth fs j) (nth kids j) = some t) : same1 (kidsT ds ss vars fs kids) = some t := by
  refine same1_of (fun q hq => ?_) fun hn => hl (List.eq_nil_of_length_eq_zero (by rw [← kidsT_len (ds := ds) (ss := ss) (vars := vars) kids fs, hn]; rfl))
  obtain ⟨j, hj, rfl⟩ := List.getElem_of_mem hq
  rw [kidsT_len] at hj
  have e := kidsT_get (ds := ds) (ss := ss) (vars := vars) kids fs j
  rw [List.getElem?_eq_getElem (by rw [kidsT_len]; exact hj), List.getElem?_eq_getElem hj] at e
  simp only [Option.map_some, Option.some.injEq] at e
  rw [e]
  have := h j (by omega) (by omega)
  rwa [nth_of (l := kids) (i := (j : Int)) (a := kids[j]) (by simp [hj])] at this
theorem kids_some (h : same1 (kidsT ds ss vars fs kids) = some t) {j : Int} (h0 : 0 ≤ j) (h1 : j < kids.length) : blkT ds ss (vars ++ nth fs j) (nth kids j) = some t := by
  refine same1_some h _ ?_
  have e := kidsT_get (ds := ds) (ss := ss) (vars := vars) kids fs j.toNat
  rw [nth_get h0 h1, Option.map_some, show ((j.toNat : Nat) : Int) = j from by omega] at e
  exact List.mem_of_getElem? e
theorem gD_same (h : ∀ t, same1 (kidsT ds ss vars fs kids) ≠ some t) : gD (same1 (kidsT ds ss vars fs kids)) = -1 := by
  cases hs : same1 (kidsT ds ss vars fs kids) with
  | none => rfl
  | some t => exact absurd hs (h t)
theorem gD_eq {o : Option Int} (h : 0 ≤ gD o) : o = some (gD o) := by
  cases o with
  | none => unfold gD at h; simp at h
  | some t => rfl
theorem c_extend (hx : Read v z vars) (hy : Read v ax args) (hb : vars.length + args.length ≤ 1099511627776) : Mk Tryz.prog 132 #[z.val, ax.val] v fun r J => ∃ y, r = y.val ∧ Own v y (vars ++ args) J := by
  refine of132 _ _ _ _ ?_
  unfold vc132
  refine Mk.use (c_copyInts hx) (.refl v) ?_
  rintro _ w1 J ⟨y, rfl, hO⟩ hS hs
  refine ⟨_, rfl, ?_⟩
  refine hO.append hS (.ofInts (hy.mono hs)) hb (by decide) ?_
  intro y2 w2 I2 hO2 hS2
  exact ⟨_, rfl, I2, by simpa using hS2, y2, rfl, hO2⟩
theorem c_consOfB (hx : Read v x ds) (hd : SmDs ds) (hn : InI n) : Mk Tryz.prog 131 #[x.val, .int .i64 n] v fun r J => ∃ z, r = z.val ∧ Own v z (consL ds n) J :=
  c_consOf hx hn (by have := hd.len; omega) (fun d h => by have := hd.cons d h; omega) fun i i0 i1 => by have := hd.fc i.toNat (by omega); omega
theorem armF_nth (h0 : 0 ≤ i) (h1 : i < (consL ds num).length) : nth (armF ds num) i = conF ds (nth (consL ds num) i) := by
  unfold armF
  refine nth_of ?_
  rw [List.getElem?_map, nth_get h0 h1]
  rfl
theorem c_kidsType7 (h : Nrm v x y ds rs) (hz : Read v z vars) (hv : nonneg vars) (hk : Read v kx kids) (hop : op = 7) (hn : InI num) (H : ∀ k ∈ kids, BtP ds rs k) (hb : vars.length + 3 + 4 * cntK kids ≤ 10000) :
    Fn Tryz.prog 105 #[.agg #[x.val, y.val], z.val, .agg #[.int .i64 op, .int .i64 num, .int .i64 into, ax.val, kx.val]] v (.int .i64 (if kids.length = 2 then gD (same1 (kidsT ds (rs.map sgOf) vars [[], []] kids)) else -1)) := by
  refine of105 _ _ _ _ _ _ _ _ _ _ ?_
  unfold vc105
  have hkn := hk.n
  have hkl := hk.le
  refine Mk.use (c_consOfB h.hx h.sm hn) (.refl v) ?_
  rintro _ w1 J ⟨z3, rfl, hO⟩ hS hs
  refine ⟨_, rfl, ?_⟩
  repeat (first | refine ⟨fun h => absurd (of_decide_eq_true h) (by omega), fun _ => ?_⟩ | refine ⟨fun _ => ?_, fun h => absurd (of_decide_eq_false h) (by omega)⟩)
  have hs1 := hS.sub
  clear hO hS
  refine ⟨fun hc => ⟨?_, hs1⟩, fun hc => ?_⟩
  · simp only [bls] at hc
    rw [if_neg (by rcases hc with hc | hc <;> omega)]
  simp only [bls] at hc
  have hl2 : kids.length = 2 := by omega
  rw [if_pos hl2]
  refine ⟨fun t i w => Sub v w ∧ 0 ≤ i ∧ i ≤ 2 ∧ ∀ j : Int, 0 ≤ j → j < i → blkT ds (rs.map sgOf) (vars ++ nth [[], []] j) (nth kids j) = some t, fun _ i _ => (2 - i).toNat, ⟨hs1, by omega, by omega, fun j j0 j1 => by omega⟩, ?_⟩
  rintro t i w ⟨hw, i0, i1, hj⟩
  dsimp only
  refine ⟨fun hi => ?_, fun hi => ?_⟩
  · simp only [bls] at hi
    repeat (first | refine ⟨fun h => absurd (of_decide_eq_true h) (by omega), fun _ => ?_⟩ | refine ⟨fun _ => ?_, fun h => absurd (of_decide_eq_false h) (by omega)⟩)
    have hil : i < kids.length := by omega
    have hmem := nth_mem (l := kids) i0 hil
    have hcm := cntK_mem kids hmem
    obtain ⟨f1, e1, e2, j1, r1⟩ := (hk.src hw).ofBlockD i0 hil
    have hni : nth ([[], []] : List (List Int)) i = [] := by
      rcases (show i = 0 ∨ i = 1 from by omega) with rfl | rfl <;> rfl
    have hT := H _ hmem w x y z f1 (vars ++ nth [[], []] i) (h.mono hw) (by rw [hni, List.append_nil]; exact hz.mono hw) (by rw [hni, List.append_nil]; exact hv) (r1.mono hw) j1 (by rw [hni, List.append_nil]; omega)
    refine go_ix hk i0 hil ?_
    refine ⟨f1, _, ⟨e1, e2⟩, _, hT, fun hq => ⟨?_, hw⟩, fun hq => ?_⟩
    · simp only [bls] at hq
      rw [gD_same]
      intro t' ht'
      have h1 := kids_some ht' i0 hil
      rw [h1, gD_some] at hq
      have hnn := blkT_nn h.sg _ _ _ (by rw [hni, List.append_nil]; exact hv) h1
      rcases hq with hq | ⟨hq, hq2⟩
      · omega
      · have h2 := hj 0 (by omega) (by omega)
        rw [kids_some ht' (by omega) (by omega)] at h2
        cases h2
        exact hq2 rfl
    · simp only [bls] at hq
      refine go_wr (by omega) (by omega) ?_
      refine ⟨rfl, rfl, rfl, rfl, rfl, rfl, rfl, ⟨hw, by omega, by omega, fun j j0 j1 => ?_⟩, by omega⟩
      by_cases e : j = i
      · subst e; exact gD_eq (by omega)
      · have h2 := hj j j0 (by omega)
        rcases hq.2 with h3 | h3
        · omega
        · rw [h3]; exact h2
  · simp only [bls] at hi
    refine ⟨?_, hw⟩
    rw [kids_all (t := t) (by intro hn; rw [hn] at hl2; simp at hl2) fun j j0 j1 => hj j j0 (by omega)]
    rfl
theorem c_kidsType8 (h : Nrm v x y ds rs) (hz : Read v z vars) (hv : nonneg vars) (hk : Read v kx kids) (hop : op = 8) (hn : InI num) (H : ∀ k ∈ kids, BtP ds rs k) (hb : vars.length + 3 + 4 * cntK kids ≤ 10000) :
    Fn Tryz.prog 105 #[.agg #[x.val, y.val], z.val, .agg #[.int .i64 op, .int .i64 num, .int .i64 into, ax.val, kx.val]] v (.int .i64 (if 0 < (armF ds num).length ∧ kids.length = (armF ds num).length then gD (same1 (kidsT ds (rs.map sgOf) vars (armF ds num) kids)) else -1)) := by
  refine of105 _ _ _ _ _ _ _ _ _ _ ?_
  unfold vc105
  have hkn := hk.n
  have hkl := hk.le
  refine Mk.use (c_consOfB h.hx h.sm hn) (.refl v) ?_
  rintro _ w1 J ⟨z3, rfl, hO⟩ hS hs
  refine ⟨_, rfl, ?_⟩
  have hz3 : Read w1 z3 (consL ds num) := hO.read hS
  have hz3n := hz3.n
  have hal : (armF ds num).length = (consL ds num).length := by unfold armF; simp
  repeat (first | refine ⟨fun h => absurd (of_decide_eq_true h) (by omega), fun _ => ?_⟩ | refine ⟨fun _ => ?_, fun h => absurd (of_decide_eq_false h) (by omega)⟩)
  have hs1 := hS.sub
  clear hO hS
  refine ⟨fun hc => ⟨?_, hs1⟩, fun hc => ?_⟩
  · simp only [bls] at hc
    rw [if_neg (by rcases hc with hc | hc <;> omega)]
  simp only [bls] at hc
  have hl2 : kids.length = (consL ds num).length := by omega
  rw [if_pos ⟨by omega, by omega⟩]
  refine ⟨fun t i w => Sub w1 w ∧ 0 ≤ i ∧ i ≤ kids.length ∧ ∀ j : Int, 0 ≤ j → j < i → blkT ds (rs.map sgOf) (vars ++ nth (armF ds num) j) (nth kids j) = some t, fun _ i _ => (kids.length - i).toNat, ⟨.refl _, by omega, by omega, fun j j0 j1 => by omega⟩, ?_⟩
  rintro t i w ⟨hw1, i0, i1, hj⟩
  dsimp only
  have hw := hs1.trans hw1
  refine ⟨fun hi => ?_, fun hi => ?_⟩
  · simp only [bls] at hi
    repeat (first | refine ⟨fun h => absurd (of_decide_eq_true h) (by omega), fun _ => ?_⟩ | refine ⟨fun _ => ?_, fun h => absurd (of_decide_eq_false h) (by omega)⟩)
    have hil : i < kids.length := by omega
    have hmem := nth_mem (l := kids) i0 hil
    have hcm := cntK_mem kids hmem
    obtain ⟨f1, e1, e2, j1, r1⟩ := (hk.src hw).ofBlockD i0 hil
    have hni : nth (armF ds num) i = conF ds (nth (consL ds num) i) := armF_nth i0 (by omega)
    have hcl := conF_len3 h.sg.1 (nth (consL ds num) i)
    have hvn : nonneg (vars ++ nth (armF ds num) i) := by rw [hni]; exact hv.app (conF_nn h.sg.1 _)
    refine go_ix (hz3.mono hw1) i0 (by omega) ?_
    refine ld_int (hz3.mono hw1) i0 (by omega) ?_
    intro c0 c1
    refine Mk.use (c_conFieldsR (h.hx.mono hw) h.sm ⟨c0, c1⟩) (.refl w) ?_
    rintro _ w2 J2 ⟨z4, rfl, hr4⟩ hS2 hs2
    rw [List.append_nil] at hS2
    have r4 := hr4 _ hS2
    refine ⟨_, rfl, ?_⟩
    refine Mk.usew (c_extend (hz.mono (hw.trans hs2)) r4 (by omega)) hS2 ?_
    rintro _ w3 J3 ⟨z5, rfl, hO5⟩ hS3 hs3
    have r5 : Read w3 z5 (vars ++ nth (armF ds num) i) := by rw [hni]; exact (hO5.ofInts (u' := w)).read hS3
    refine ⟨_, rfl, ?_⟩
    have hw3 : Sub v w3 := (hw.trans hs2).trans hs3
    have hT := H _ hmem w3 x y z5 f1 _ (h.mono hw3) r5 hvn (r1.mono hw3) j1 (by rw [hni, List.length_append]; omega)
    refine go_ix hk i0 hil ?_
    refine ⟨f1, _, ⟨cell_sub (hs2.trans hs3) e1, cell_sub (hs2.trans hs3) e2⟩, _, hT, fun hq => ⟨?_, hw3⟩, fun hq => ?_⟩
    · simp only [bls] at hq
      rw [gD_same]
      intro t' ht'
      have h1 := kids_some ht' i0 hil
      rw [h1, gD_some] at hq
      have hnn := blkT_nn h.sg _ _ _ hvn h1
      rcases hq with hq | ⟨hq, hq2⟩
      · omega
      · have h2 := hj 0 (by omega) (by omega)
        rw [kids_some ht' (by omega) (by omega)] at h2
        cases h2
        exact hq2 rfl
    · simp only [bls] at hq
      refine go_wr (by omega) (by omega) ?_
      refine ⟨rfl, rfl, rfl, rfl, rfl, rfl, rfl, ⟨hw1.trans (hs2.trans hs3), by omega, by omega, fun j j0 j1 => ?_⟩, by omega⟩
      by_cases e : j = i
      · subst e; exact gD_eq (by omega)
      · have h2 := hj j j0 (by omega)
        rcases hq.2 with h3 | h3
        · omega
        · rw [h3]; exact h2
  · simp only [bls] at hi
    refine ⟨?_, hw⟩
    rw [kids_all (t := t) (by intro hn; rw [hn] at hl2; simp at hl2; omega) fun j j0 j1 => hj j j0 (by omega)]
    rfl
end
end Go.Vc

namespace Go.Vc
open Go Go.Proofs Go.RowKit
set_option linter.all false
section
variable {u v w : World} {x y z ax kx tx xs : Sl} {vars args T W : List Int} {ds : List DeclD} {rs : List RoutD} {ss : List SigD} {n i t op num into : Int} {c : StepD} {b : BlockD} {kids : List BlockD} {fs : List (List Int)}
theorem apply_iff {f : Int} (h2 : args.length = 2) (h0 : 0 ≤ nth args 0 ∧ nth args 0 < vars.length) : (argsIn vars args ∧ typs vars args = [nth vars (nth args 0), f]) ↔ (argsIn vars (args.drop 1) ∧ typs vars (args.drop 1) = [f]) := by
  match args, h2, h0 with
  | [a, b], _, h0 =>
    have e0 : nth [a, b] 0 = a := rfl
    rw [e0] at h0 ⊢
    simp only [typs, argsIn, List.map_cons, List.map_nil, List.drop_succ_cons, List.drop_zero, List.cons.injEq, and_true, true_and, List.mem_cons, List.not_mem_nil, or_false, forall_eq_or_imp, forall_eq]
    exact ⟨fun ⟨⟨_, q1⟩, q2⟩ => ⟨q1, q2⟩, fun ⟨q1, q2⟩ => ⟨⟨h0, q1⟩, q2⟩⟩
theorem c_stepTypeS (h : Nrm v x y ds rs) (hz : Read v z vars) (hv : nonneg vars) (ha : Read v ax c.args) (hk : Read v kx c.kids) (hi1 : InI c.num) (hi2 : InI c.into) (H : ∀ k ∈ c.kids, BtP ds rs k) (hb : vars.length + 3 + 4 * cntS c ≤ 10000) :
    Fn Tryz.prog 74 #[.agg #[x.val, y.val], z.val, .agg #[.int .i64 c.op, .int .i64 c.num, .int .i64 c.into, ax.val, kx.val]] v (.int .i64 (gD (stpT ds (rs.map sgOf) vars c))) := by
  classical
  refine of74 _ _ _ _ _ _ _ _ _ _ ?_
  unfold vc74
  have han := ha.n
  have hal := ha.le
  have hkn := hk.n
  have hzn := hz.n
  have hzl := hz.le
  have hS0 := St.refl v
  rw [cntS_eq] at hb
  refine ⟨_, fun _ => c_hasNum, _, fun _ => c_validInto hz hv hi2, fun hc => ⟨?_, .refl v⟩, fun hc => ?_⟩
  · simp only [bls] at hc
    rcases hc with (hc | hc) | hc
    · rw [stp_num hc.1 (by omega)]; rfl
    · rw [stp_into fun hh => by rw [pB_t hh] at hc; cases hc]; rfl
    · rw [stp_kids (by omega) (by omega) (by omega)]; rfl
  simp only [bls] at hc
  obtain ⟨⟨hnum, hin⟩, hkz⟩ := hc
  replace hin := pB_iff.1 hin
  have hno : (c.op ≠ 0 ∧ c.op ≠ 6 ∧ c.op ≠ 8 ∧ c.op ≠ 9 ∧ c.op ≠ 10) → c.num = 0 := fun hh => by omega
  have hk0' : c.op ≠ 7 → c.op ≠ 8 → c.kids.length = 0 := fun h7 h8 => by omega
  clear hnum hkz
  by_cases o0 : c.op = 0
  · repeat (first | refine ⟨fun h => absurd (of_decide_eq_true h) (by omega), fun _ => ?_⟩ | refine ⟨fun _ => ?_, fun h => absurd (of_decide_eq_false h) (by omega)⟩)
    have hcn : ¬ isCnt c.op := by unfold isCnt; omega
    have hk0 := hk0' (by omega) (by omega)
    by_cases hr : -999 ≤ c.num ∧ c.num ≤ 999
    · have hw : wantB ds (rs.map sgOf) c.op c.num (nth (typs vars c.args) 0) = some ([], 0) := by unfold wantB; rw [if_pos o0, if_pos hr]
      rw [stp_w hin (by omega) (by omega) hcn hk0 hw]
      refine ⟨_, fun _ => c_inRange, fun hq => ⟨?_, .refl v⟩, fun hq => ⟨?_, .refl v⟩⟩
      · simp only [bls] at hq
        have : c.args = [] := List.eq_nil_of_length_eq_zero (by omega)
        rw [this, pB_t ⟨fun a h => by (cases h), rfl⟩]; rfl
      · simp only [bls] at hq
        rw [pB_f]
        · rfl
        rintro ⟨_, he⟩
        have := congrArg List.length he
        rw [typs_len] at this
        simp only [List.length_nil] at this
        omega
    · have hw : wantB ds (rs.map sgOf) c.op c.num (nth (typs vars c.args) 0) = none := by unfold wantB; rw [if_pos o0, if_neg hr]
      rw [stp_n hin (by omega) (by omega) hcn hk0 hw]
      refine ⟨_, fun _ => c_inRange, fun hq => ⟨?_, .refl v⟩, fun hq => ⟨rfl, .refl v⟩⟩
      simp only [bls] at hq
      omega
  by_cases o1 : c.op = 1 ∨ c.op = 2 ∨ c.op = 3 ∨ c.op = 4
  · have hcn : ¬ isCnt c.op := by unfold isCnt; omega
    have hk0 := hk0' (by omega) (by omega)
    have hw : wantB ds (rs.map sgOf) c.op c.num (nth (typs vars c.args) 0) = some ([0, 0], 0) := by unfold wantB; rw [if_neg o0, if_pos o1, if_pos (hno (by omega))]
    rcases o1 with o1 | o1 | o1 | o1
    all_goals
      repeat (first | refine ⟨fun h => absurd (of_decide_eq_true h) (by omega), fun _ => ?_⟩ | refine ⟨fun _ => ?_, fun h => absurd (of_decide_eq_false h) (by omega)⟩)
      refine St.build (α := Int) hS0 (by (repeat' (first | exact VsOf.nil | apply VsOf.cons | (apply VOf.int; first | assumption | (constructor <;> first | omega | (simp only [List.length_set, List.length_append, List.length_replicate, List.length_cons, List.length_nil, List.length_take, List.length_drop, List.length_map, List.length_singleton] at *; omega))) | exact VOf.bool | exact VOf.str))) rfl (by decide) ?_
      intro z1 w1 I1 hO hS hs
      refine ⟨_, rfl, ?_⟩
      (refine ⟨_, c_typed (hz.mono hs) (ha.mono hs) (hO.read hS), fun hq => ⟨?_, hS.sub⟩, fun hq => ⟨?_, hS.sub⟩⟩)
      · (first | (rw [stp_w hin (by omega) (by omega) hcn hk0 hw, hq]; rfl) | (rw [stp_w hin (by omega) (by omega) hcn hk0 hw, hq]; simp))
      · (first | (rw [stp_w hin (by omega) (by omega) hcn hk0 hw, hq]; rfl) | (rw [stp_w hin (by omega) (by omega) hcn hk0 hw, hq]; simp))
  by_cases o5 : c.op = 5
  · have hcn : ¬ isCnt c.op := by unfold isCnt; omega
    have hk0 := hk0' (by omega) (by omega)
    have hw : wantB ds (rs.map sgOf) c.op c.num (nth (typs vars c.args) 0) = some ([0], 0) := by unfold wantB; rw [if_neg o0, if_neg o1, if_pos o5, if_pos (hno (by omega))]
    repeat (first | refine ⟨fun h => absurd (of_decide_eq_true h) (by omega), fun _ => ?_⟩ | refine ⟨fun _ => ?_, fun h => absurd (of_decide_eq_false h) (by omega)⟩)
    refine St.build (α := Int) hS0 (by (repeat' (first | exact VsOf.nil | apply VsOf.cons | (apply VOf.int; first | assumption | (constructor <;> first | omega | (simp only [List.length_set, List.length_append, List.length_replicate, List.length_cons, List.length_nil, List.length_take, List.length_drop, List.length_map, List.length_singleton] at *; omega))) | exact VOf.bool | exact VOf.str))) rfl (by decide) ?_
    intro z1 w1 I1 hO hS hs
    refine ⟨_, rfl, ?_⟩
    (refine ⟨_, c_typed (hz.mono hs) (ha.mono hs) (hO.read hS), fun hq => ⟨?_, hS.sub⟩, fun hq => ⟨?_, hS.sub⟩⟩)
    · (first | (rw [stp_w hin (by omega) (by omega) hcn hk0 hw, hq]; rfl) | (rw [stp_w hin (by omega) (by omega) hcn hk0 hw, hq]; simp))
    · (first | (rw [stp_w hin (by omega) (by omega) hcn hk0 hw, hq]; rfl) | (rw [stp_w hin (by omega) (by omega) hcn hk0 hw, hq]; simp))
  by_cases o6 : c.op = 6
  · have hcn : ¬ isCnt c.op := by unfold isCnt; omega
    have hk0 := hk0' (by omega) (by omega)
    repeat (first | refine ⟨fun h => absurd (of_decide_eq_true h) (by omega), fun _ => ?_⟩ | refine ⟨fun _ => ?_, fun h => absurd (of_decide_eq_false h) (by omega)⟩)
    refine ⟨_, c_specConType h.hx h.sm, fun hc => ?_, fun hc => ?_⟩
    · simp only [bls] at hc
      have hw : wantB ds (rs.map sgOf) c.op c.num (nth (typs vars c.args) 0) = some (conF ds c.num, conTyV ds c.num) := by unfold wantB; rw [if_neg o0, if_neg o1, if_neg o5, if_pos o6, if_pos hc]
      refine Mk.use (c_conFieldsR h.hx h.sm hi1) hS0 ?_
      rintro _ w1 J ⟨z1, rfl, hr⟩ hS hs
      rw [List.append_nil] at hS
      refine ⟨_, rfl, hs, _, c_typed (hz.mono hs) (ha.mono hs) (hr _ hS), fun hq => ?_, fun hq => ⟨?_, hs⟩⟩
      · refine ⟨_, c_specConType (h.hx.mono hs) h.sm, ?_, hs⟩
        (first | (rw [stp_w hin (by omega) (by omega) hcn hk0 hw, hq]; rfl) | (rw [stp_w hin (by omega) (by omega) hcn hk0 hw, hq]; simp))
      · (first | (rw [stp_w hin (by omega) (by omega) hcn hk0 hw, hq]; rfl) | (rw [stp_w hin (by omega) (by omega) hcn hk0 hw, hq]; simp))
    · simp only [bls] at hc
      have hw : wantB ds (rs.map sgOf) c.op c.num (nth (typs vars c.args) 0) = none := by unfold wantB; rw [if_neg o0, if_neg o1, if_neg o5, if_pos o6, if_neg (by omega)]
      exact ⟨.refl v, by rw [stp_n hin (by omega) (by omega) hcn hk0 hw], .refl v⟩
  by_cases o7 : c.op = 7
  · have hcn : ¬ isCnt c.op := by unfold isCnt; omega
    have hn0 := hno (by omega)
    repeat (first | refine ⟨fun h => absurd (of_decide_eq_true h) (by omega), fun _ => ?_⟩ | refine ⟨fun _ => ?_, fun h => absurd (of_decide_eq_false h) (by omega)⟩)
    refine St.build (α := Int) hS0 (by (repeat' (first | exact VsOf.nil | apply VsOf.cons | (apply VOf.int; first | assumption | (constructor <;> first | omega | (simp only [List.length_set, List.length_append, List.length_replicate, List.length_cons, List.length_nil, List.length_take, List.length_drop, List.length_map, List.length_singleton] at *; omega))) | exact VOf.bool | exact VOf.str))) rfl (by decide) ?_
    intro z1 w1 I1 hO hS hs
    refine ⟨_, rfl, ?_⟩
    refine ⟨_, c_typed (hz.mono hs) (ha.mono hs) (hO.read hS), fun hq => ?_, fun hq => ⟨?_, hS.sub⟩⟩
    · obtain ⟨q1, q2⟩ := pB_iff.1 hq
      refine ⟨_, c_kidsType7 (h.mono hs) (hz.mono hs) hv (hk.mono hs) o7 hi1 H hb, ?_, hS.sub⟩
      rw [stp_7 q1 hin o7]
      by_cases hl : c.kids.length = 2
      · rw [if_pos hl, if_pos ⟨q2, hn0, hl⟩]
      · rw [if_neg hl, if_neg fun hh => hl hh.2.2]; rfl
    · have hq' : ¬ (argsIn vars c.args ∧ typs vars c.args = [0]) := fun hh => by rw [pB_t hh] at hq; cases hq
      rcases Classical.em (argsIn vars c.args) with hh | hh
      · rw [stp_7 hh hin o7, if_neg fun h2 => hq' ⟨hh, h2.1⟩]; rfl
      · rw [stp_out hh]; rfl
  by_cases o8 : c.op = 8
  · have hcn : ¬ isCnt c.op := by unfold isCnt; omega
    repeat (first | refine ⟨fun h => absurd (of_decide_eq_true h) (by omega), fun _ => ?_⟩ | refine ⟨fun _ => ?_, fun h => absurd (of_decide_eq_false h) (by omega)⟩)
    refine St.build (α := Int) (l := [c.num]) hS0 (by (repeat' (first | exact VsOf.nil | apply VsOf.cons | (apply VOf.int; first | assumption | (constructor <;> first | omega | (simp only [List.length_set, List.length_append, List.length_replicate, List.length_cons, List.length_nil, List.length_take, List.length_drop, List.length_map, List.length_singleton] at *; omega))) | exact VOf.bool | exact VOf.str))) rfl (by decide) ?_
    intro z1 w1 I1 hO hS hs
    refine ⟨_, rfl, ?_⟩
    refine ⟨_, c_typed (hz.mono hs) (ha.mono hs) (hO.read hS), fun hq => ?_, fun hq => ⟨?_, hS.sub⟩⟩
    · obtain ⟨q1, q2⟩ := pB_iff.1 hq
      refine ⟨_, c_kidsType8 (h.mono hs) (hz.mono hs) hv (hk.mono hs) o8 hi1 H hb, ?_, hS.sub⟩
      rw [stp_8 q1 hin o8]
      by_cases hl : 0 < (armF ds c.num).length ∧ c.kids.length = (armF ds c.num).length
      · rw [if_pos hl, if_pos ⟨q2, hl⟩]
      · rw [if_neg hl, if_neg fun hh => hl hh.2]; rfl
    · have hq' : ¬ (argsIn vars c.args ∧ typs vars c.args = [c.num]) := fun hh => by rw [pB_t hh] at hq; cases hq
      rcases Classical.em (argsIn vars c.args) with hh | hh
      · rw [stp_8 hh hin o8, if_neg fun h2 => hq' ⟨hh, h2.1⟩]; rfl
      · rw [stp_out hh]; rfl
  by_cases o9 : c.op = 9 ∨ c.op = 10
  · have hcn : ¬ isCnt c.op := by unfold isCnt; omega
    have hk0 := hk0' (by omega) (by omega)
    have hfin : (if argsIn vars c.args then gD (simB ds (rs.map sgOf) c.op c.num (typs vars c.args)) else -1) = gD (stpT ds (rs.map sgOf) vars c) := by
      obtain ⟨s1, s2⟩ := stp_simple (ds := ds) (ss := rs.map sgOf) hin o7 o8 hcn hk0
      split
      · rename_i hh; rw [s1 hh]
      · rename_i hh; rw [s2 hh]; rfl
    rw [← hfin]
    rcases o9 with o9 | o9
    all_goals
      repeat (first | refine ⟨fun h => absurd (of_decide_eq_true h) (by omega), fun _ => ?_⟩ | refine ⟨fun _ => ?_, fun h => absurd (of_decide_eq_false h) (by omega)⟩)
      exact ⟨_, c_routineType h hz ha (by omega), rfl, .refl v⟩
  by_cases o11 : c.op = 11
  · have hcn : ¬ isCnt c.op := by unfold isCnt; omega
    have hk0 := hk0' (by omega) (by omega)
    have hn0 := hno (by omega)
    repeat (first | refine ⟨fun h => absurd (of_decide_eq_true h) (by omega), fun _ => ?_⟩ | refine ⟨fun _ => ?_, fun h => absurd (of_decide_eq_false h) (by omega)⟩)
    have hg1 : decide ((ax.n : Int) = 2) = true → c.args.length = 2 := fun h => by simp only [bls] at h; omega
    refine go_ixg ha (fun h => by have := hg1 h; omega) ?_
    refine ld_intg ha (fun h => by have := hg1 h; omega) ?_
    refine go_wrg (fun h => by omega) ?_
    refine ⟨_, fun _ => c_inRange, ?_⟩
    have hg : (decide ((ax.n : Int) = 2) && (decide (0 ≤ nth c.args 0) && decide (nth c.args 0 ≤ (z.n : Int) - 1))) = true → c.args.length = 2 ∧ 0 ≤ nth c.args 0 ∧ nth c.args 0 < vars.length := fun h => by simp only [bls] at h; omega
    refine go_ixg ha (fun h => by have := hg h; omega) ?_
    refine ld_intg ha (fun h => by have := hg h; omega) ?_
    refine go_ixg hz (fun h => by have := hg h; omega) ?_
    refine ld_intg hz (fun h => by have := hg h; omega) ?_
    obtain ⟨q, hq, hT⟩ := c_isArrow (n := nth vars (nth c.args 0)) h.hx h.sm.len
    have hw : ∀ t0, wantB ds (rs.map sgOf) c.op c.num t0 = if isArr ds t0 then some ([t0, (nth ds (t0 - 1)).frm], (nth ds (t0 - 1)).to_) else none := by
      intro t0
      unfold wantB
      rw [if_neg o0, if_neg o1, if_neg o5, if_neg o6, if_neg (by omega), if_neg (by omega), if_pos o11]
      by_cases hh : isArr ds t0
      · rw [if_pos ⟨hn0, hh⟩, if_pos hh]
      · rw [if_neg fun h2 => hh h2.2, if_neg hh]
    refine ⟨q, fun _ => hT, fun hc => ?_, fun hc => ⟨?_, .refl v⟩⟩
    · simp only [bls] at hc
      have hl2 : c.args.length = 2 := by omega
      have hb0 : 0 ≤ nth c.args 0 ∧ nth c.args 0 < vars.length := by omega
      have hisA := hq.1 hc.2
      have ht0 : nth (typs vars c.args) 0 = nth vars (nth c.args 0) := nth_typs (by omega) (by omega)
      replace hw := hw (nth (typs vars c.args) 0)
      rw [ht0, if_pos hisA, ← ht0] at hw
      rw [stp_w hin o7 o8 hcn hk0 hw, ht0, (by exact (congrArg pB (propext (apply_iff hl2 hb0))) : pB (argsIn vars c.args ∧ typs vars c.args = [nth vars (nth c.args 0), (nth ds (nth vars (nth c.args 0) - 1)).frm]) = _)]
      obtain ⟨g1, g2, g3⟩ := hisA
      have hsm := h.sm.len
      refine go_ix ha (by omega) (by omega) ?_
      refine ld_int ha (by omega) (by omega) ?_
      intro _ _
      refine go_ix hz hb0.1 hb0.2 ?_
      refine ld_int hz hb0.1 hb0.2 ?_
      intro _ _
      refine go_wr (by omega) (by omega) ?_
      refine go_ix h.hx (by omega) (by omega) ?_
      obtain ⟨f_cons, e1, e2, e3, j1, j2, r1⟩ := (h.hx.src (.refl v)).ofDeclD (i := nth vars (nth c.args 0) - 1) (by omega) (by omega)
      refine ⟨_, _, f_cons, ⟨e1, e2, e3⟩, .refl v, ⟨by omega, by omega⟩, ?_⟩
      refine St.build (α := Int) (l := [(nth ds (nth vars (nth c.args 0) - 1)).frm]) hS0 (by (repeat' (first | exact VsOf.nil | apply VsOf.cons | (apply VOf.int; first | assumption | (constructor <;> first | omega | (simp only [List.length_set, List.length_append, List.length_replicate, List.length_cons, List.length_nil, List.length_take, List.length_drop, List.length_map, List.length_singleton] at *; omega))) | exact VOf.bool | exact VOf.str))) rfl (by decide) ?_
      intro z1 w1 I1 hO hS hs
      have hcut := ha.cut (lo := 1) (hi := (ax.n : Int)) (by omega) (by omega) (by omega)
      rw [show ((ax.n : Int)).toNat = c.args.length from by omega, List.take_length, show ((1 : Int)).toNat = 1 from rfl] at hcut
      refine ⟨_, rfl, hs, _, c_typed (hz.mono hs) (hcut.mono hs) (hO.read hS), fun hq => ⟨?_, hs⟩, fun hq => ⟨?_, hs⟩⟩
      · rw [hq]; rfl
      · rw [hq]; rfl
    · simp only [bls] at hc
      by_cases hl : (c.args.length = 2 ∧ 0 ≤ nth c.args 0 ∧ nth c.args 0 < vars.length)
      · have ht0 : nth (typs vars c.args) 0 = nth vars (nth c.args 0) := nth_typs (by omega) (by omega)
        have hnA : ¬ isArr ds (nth vars (nth c.args 0)) := fun hh => by
          have := hq.2 hh
          rw [this] at hc
          simp at hc
          omega
        replace hw := hw (nth (typs vars c.args) 0)
        rw [ht0, if_neg hnA, ← ht0] at hw
        rw [stp_n hin o7 o8 hcn hk0 hw]
      · replace hw := hw (nth (typs vars c.args) 0)
        split at hw
        · rw [stp_w hin o7 o8 hcn hk0 hw, pB_f]
          · rfl
          rintro ⟨p1, p2⟩
          have h2 : c.args.length = 2 := by
            have := congrArg List.length p2
            rw [typs_len] at this
            simpa using this
          exact hl ⟨h2, argsIn_nth p1 (by omega) (by omega)⟩
        · rw [stp_n hin o7 o8 hcn hk0 hw]
  by_cases o14 : c.op = 14 ∨ c.op = 15 ∨ c.op = 16 ∨ c.op = 17
  · have hcn : isCnt c.op := by unfold isCnt; omega
    have hk0 := hk0' (by omega) (by omega)
    have hn0 := hno (by omega)
    rw [stp_cnt hin hcn hk0]
    rcases o14 with o | o | o | o
    all_goals
      repeat (first | refine ⟨fun h => absurd (of_decide_eq_true h) (by omega), fun _ => ?_⟩ | refine ⟨fun _ => ?_, fun h => absurd (of_decide_eq_false h) (by omega)⟩)
      exact ⟨_, c_countingType h hz hv ha hcn hn0, rfl, .refl v⟩
  · have hcn : ¬ isCnt c.op := by unfold isCnt; omega
    have hk0 := hk0' (by omega) (by omega)
    repeat (first | refine ⟨fun h => absurd (of_decide_eq_true h) (by omega), fun _ => ?_⟩ | refine ⟨fun _ => ?_, fun h => absurd (of_decide_eq_false h) (by omega)⟩)
    refine ⟨?_, .refl v⟩
    rw [stp_n hin o7 o8 hcn hk0 (wantB_other (by omega))]
theorem c_blockTypeS (b : BlockD) : BtP ds rs b := by
  refine blk_ind (P := BtP ds rs) (fun b ih => ?_) b
  intro v x y z xs vars h hz hv hxs hi hb
  refine of48 _ _ _ _ _ _ _ ?_
  unfold vc48
  have hxn := hxs.n
  have hxl := hxs.le
  rw [cntB_eq] at hb
  rw [blkT_eq]
  refine Mk.use (c_copyInts hz) (.refl v) ?_
  rintro _ w1 J1 ⟨z1, rfl, hO⟩ hS hs
  refine ⟨_, rfl, ?_⟩
  refine ⟨fun z2 i w => ∃ (I : Items) (inner : List Int), Own v z2 inner I ∧ St v w (I ++ []) ∧ 0 ≤ i ∧ i ≤ b.steps.length ∧ nonneg inner ∧ stpsT ds (rs.map sgOf) vars b.steps = stpsT ds (rs.map sgOf) inner (b.steps.drop i.toNat) ∧ inner.length + 4 * cntL (b.steps.drop i.toNat) ≤ 10000, fun _ i _ => (b.steps.length - i).toNat, ⟨J1, vars, hO, hS, by omega, by omega, hv, rfl, hb⟩, ?_⟩
  clear hO hS hs
  rintro z2 i w ⟨I, inner, hO, hS, i0, i1, hnn, heq, hbd⟩
  dsimp only
  have hz2 := hO.read hS
  have hz2n := hz2.n
  have hw := hS.sub
  refine ⟨fun hc => ?_, fun hc => ?_⟩
  · simp only [bls] at hc
    have hil : i < b.steps.length := by omega
    have hmem := nth_mem (l := b.steps) i0 hil
    have hdr : b.steps.drop i.toNat = nth b.steps i :: b.steps.drop (i + 1).toNat := by
      rw [show (i + 1).toNat = i.toNat + 1 from by omega]
      have := nth_get (l := b.steps) i0 hil
      rw [List.drop_eq_getElem_cons (by omega)]
      congr 1
      rw [List.getElem?_eq_getElem (by omega)] at this
      exact Option.some.inj this
    obtain ⟨f1, f2, e1, e2, e3, e4, e5, j1, j2, j3, r1, r2⟩ := (hxs.src hw).ofStepD i0 hil
    refine go_ix hxs i0 hil ?_
    rw [hdr, cntL_cons] at hbd
    have hst := c_stepTypeS (c := nth b.steps i) (h.mono hw) hz2 hnn (r1.mono hw) (r2.mono hw) j2 j3 (ih _ hmem) (by omega)
    rw [hdr, stpsT_cons] at heq
    refine ⟨_, _, _, f1, f2, ⟨e1, e2, e3, e4, e5⟩, _, hst, fun hq => ⟨?_, hw⟩, fun hq => ?_⟩
    · simp only [bls] at hq
      have : stpT ds (rs.map sgOf) inner (nth b.steps i) = none := by
        cases hst : stpT ds (rs.map sgOf) inner (nth b.steps i) with
        | none => rfl
        | some t =>
          exfalso
          rw [hst, gD_some] at hq
          have := stpT_nn h.sg hnn hst
          omega
      rw [this] at heq
      rw [heq]; rfl
    · simp only [bls] at hq
      have hsm := gD_eq hq
      rw [hsm] at heq
      dsimp only at heq
      refine go_ix hxs i0 hil ?_
      refine ⟨_, e1, _, c_defines, fun hd => ?_, fun hd => ?_⟩
      · simp only [bls] at hd
        have hcn : ¬ isCnt (nth b.steps i).op := by unfold isCnt; omega
        rw [if_neg hcn] at heq
        have hti : InI (gD (stpT ds (rs.map sgOf) inner (nth b.steps i))) := by
          have := stpT_nn h.sg hnn hsm
          exact ⟨by omega, by omega⟩
        refine St.build (α := Int) (l := [gD (stpT ds (rs.map sgOf) inner (nth b.steps i))]) hS (by (repeat' (first | exact VsOf.nil | apply VsOf.cons | (apply VOf.int; first | assumption | (constructor <;> first | omega | (simp only [List.length_set, List.length_append, List.length_replicate, List.length_cons, List.length_nil, List.length_take, List.length_drop, List.length_map, List.length_singleton] at *; omega))) | exact VOf.bool | exact VOf.str))) rfl (by decide) ?_
        intro z3 w2 I3 hO3 hS3 hs3
        refine ⟨_, rfl, ?_⟩
        refine hO.append hS3 (hO3.src hS3) (by simp; omega) (by decide) ?_
        intro z4 w3 I4 hO4 hS4
        refine ⟨_, rfl, ?_⟩
        refine go_wr (by omega) (by omega) ?_
        refine ⟨rfl, rfl, rfl, rfl, ⟨I4, _, hO4, hS4.to, by omega, by omega, hnn.app fun t ht => by rw [List.mem_singleton.1 ht]; exact stpT_nn h.sg hnn hsm, heq, ?_⟩, by omega⟩
        rw [List.length_append]
        simp only [List.length_singleton]
        omega
      · simp only [bls] at hd
        have hcn : isCnt (nth b.steps i).op := by
          rcases stp_op hsm with h1 | h1
          · omega
          · exact h1
        rw [if_pos hcn] at heq
        refine go_wr (by omega) (by omega) ?_
        exact ⟨rfl, rfl, rfl, rfl, ⟨I, inner, hO, hS, by omega, by omega, hnn, heq, by omega⟩, by omega⟩
  · simp only [bls] at hc
    have hd0 : b.steps.drop i.toNat = [] := List.drop_eq_nil_of_le (by omega)
    rw [hd0, stpsT_nil] at heq
    rw [heq]
    dsimp only
    refine go_wr (by omega) (by omega) ?_
    refine ⟨_, c_inRange, fun hq => ⟨?_, hw⟩, fun hq => ?_⟩
    · simp only [bls] at hq
      rw [if_neg (by omega)]; rfl
    · simp only [bls] at hq
      refine go_ix hz2 (by omega) (by omega) ?_
      refine ld_int hz2 (by omega) (by omega) ?_
      intro _ _
      refine ⟨?_, hw⟩
      rw [if_pos (by omega)]; rfl
end
end Go.Vc

namespace Go.Vc
open Go Go.Proofs Go.RowKit
set_option linter.all false
theorem wrap_low {c : Int} (h : c < -9223372036854775808) (h2 : -18446744073709551616 ≤ c) : IntKind.wrap .i64 c = c + 18446744073709551616 := by
  have e : c % 2 ^ IntKind.i64.bits = c + 18446744073709551616 := by
    show c % 18446744073709551616 = _
    omega
  have hd : (IntKind.i64.signed && decide (c % 2 ^ IntKind.i64.bits ≥ 2 ^ (IntKind.i64.bits - 1))) = false := by
    simp only [e]
    show (true && decide (c + 18446744073709551616 ≥ 9223372036854775808)) = false
    rw [decide_eq_false (by omega)]; rfl
  unfold IntKind.wrap
  dsimp only
  rw [if_neg (by rw [hd]; exact Bool.false_ne_true), e]
/-- cap(x) -/
theorem stepT_cap {P : Program} {t e ty : TypeId} {x : Sl} {v : World} {Q : Value → World → Prop} (ht : P.underlying t = some (.slice e)) (k : Q (.int .i64 (x.c : Int)) v) : StepT P (Builtin.cap_ #[t] ty #[x.val]) v Q := by
  intro w hs
  refine ⟨.int .i64 (x.c : Int), w, v, ?_, ⟨hs, Nat.le_refl _, rfl, rfl, rfl, fun b hb ho => ⟨ho, rfl⟩⟩, k⟩
  simp [Builtin.cap_, run_underlying ht, Sl.val, goInt]
/-- make([]int, 0, n) -/
theorem stepT_make0 {P : Program} {t e : TypeId} {i : TypeInfo} {z : Value} (ht : P.underlying t = some (.slice e)) (hi : P.info? e = some i) (hz : i.zero = some z) {n : Int} {v : World} {Q : Value → World → Prop}
    (h0 : 0 ≤ n) (hb : i.bytes * n.toNat ≤ 281474976710656) (h63 : n ≤ 9223372036854775807)
    (h : ∀ (g : Nat) (w' : World), v.heap.size ≤ g → Sub v w' → w'.heap[g]? = some (.cells (madeCells z.cells (n.toNat * i.size)) e (0, 0)) → Q (Sl.mk (some ⟨g, 0, none⟩) 0 n.toNat).val w') :
    StepT P (Instr.makeSlice t (.int .i64 0) (.int .i64 n)) v Q := by
  intro w hs
  obtain ⟨m, rfl⟩ := Int.eq_ofNat_of_zero_le h0
  simp only [Int.toNat_natCast] at *
  have hr := run_makeN (P := P) t e i z ht hi hz .i64 .i64 0 m (Nat.zero_le _) hb (by omega) w
  obtain ⟨v', fr, hk⟩ := newAt_step (o := .cells (madeCells z.cells (m * i.size)) e) (Q := fun a w' => ∃ g, a = ⟨g, 0, none⟩ ∧ Q (Sl.mk (some ⟨g, 0, none⟩) 0 m).val w') hs (fun g w' hg hsub hh => ⟨g, rfl, h g w' hg hsub hh⟩)
  obtain ⟨g, hg, hq⟩ := hk
  cases hg
  exact ⟨_, _, v', hr, fr, hq⟩
section
variable {α : Type} [Dat α] {u v w : World} {x y z ax kx tx xs s : Sl} {vars args T W l : List Int} {ds : List DeclD} {rs : List RoutD} {ss : List SigD} {n i t op num into m : Int} {c : StepD} {b : BlockD} {kids : List BlockD} {fs : List (List Int)} {L I R : Items}
theorem St.make0 {P : Program} {t : TypeId} {bytes : Nat} {zc : List Value} [hT : SlT P t (Dat.sz α) bytes zc] {n : Int} {Q : Value → World → Prop} (hS : St u w L) (h0 : 0 ≤ n) (hn : n ≤ 1099511627776) (hby : bytes ≤ 128)
    (k : ∀ x w' I, Own u x ([] : List α) I → St u w' (I ++ L) → Sub w w' → Q x.val w') : StepT P (Instr.makeSlice t (.int .i64 0) (.int .i64 n)) w Q := by
  obtain ⟨e, i, z, ht, hi2, hz, hsize, hby2, hzc, hzl, hpos⟩ := hT.ex
  have hb : i.bytes * n.toNat ≤ 128 * 1099511627776 := Nat.mul_le_mul (by omega) (by omega)
  refine stepT_make0 ht hi2 hz h0 (by omega) (by omega) fun g w' hg hs ho => ?_
  refine k _ w' _ ⟨[], .blk g 0 0 n.toNat _ e _ rfl (Nat.zero_le _) (by simp only [maxLen]; omega) (by simp [size_madeCells, hsize]) fun q r hr => (by simp at hr), ⟨rfl, fun q r a hr => (by simp at hr)⟩, Nat.zero_le _⟩ (hS.new hg hs ho (by simp [absent])) hs
instance : SlT Tryz.prog 154 1 24 [.slice none 0 0] := .of (by kernel_rfl) rfl (by decide)
theorem c_grow0 (h0 : 0 ≤ n) (hn : n ≤ 1000000000) : Mk Tryz.prog 151 #[.slice none 0 0, .int .i64 n] v fun r J => ∃ z, r = z.val ∧ Own v z ([] : List Int) J := by
  refine of151 (Sl.mk none 0 0) _ _ _ ?_
  unfold vc151
  refine ⟨fun hc => ?_, fun hc => ?_⟩
  · simp only [bls] at hc; omega
  clear hc
  refine stepT_cap (x := Sl.mk none 0 0) Tryz.underlying37 ?_
  refine ⟨_, rfl, ?_⟩
  refine go_wr (by simp) (by simp) ?_
  refine go_wr (by simp; omega) (by simp; omega) ?_
  refine ⟨fun hc => ?_, fun hc => ?_⟩
  · simp only [bls] at hc
    refine stepT_cap (x := Sl.mk none 0 0) Tryz.underlying37 ?_
    refine ⟨_, rfl, ⟨by simp, by simp, by simp⟩, ?_⟩
    have hcut := (Own.nil (α := Int) v).cut (lo := 0) (hi := 0) (by omega) (by omega) (by simp)
    rw [show n - (((0 : Nat) : Int) - ((0 : Nat) : Int)) = ((n.toNat : Nat) : Int) from by omega] at hc ⊢
    refine Own.appendZ (m := n.toNat) (tn := 3) Tryz.underlying3 hcut (show St v v ([] ++ []) from St.refl v) (by omega) (by simp; omega) (by decide) ?_
    intro x' w' I' hO hS
    refine ⟨_, rfl, ⟨by simp, by simp, by simp⟩, ?_⟩
    have hc2 := hO.cut (lo := 0) (hi := 0) (by omega) (by omega) (by simp; omega)
    exact ⟨I', by simpa using hS, _, rfl, hc2⟩
  · exact ⟨[], St.refl v, Sl.mk none 0 0, rfl, Own.nil v⟩
theorem c_concat2 {a b : List Int} (hx : Read v x [a, b]) (ha : a.length ≤ 1000000) (hb : b.length ≤ 1000000) : Mk Tryz.prog 135 #[x.val] v fun r J => ∃ z, r = z.val ∧ Own v z (a ++ b) J := by
  refine of135 _ _ _ ?_
  unfold vc135
  have hxn := hx.n
  simp only [List.length_cons, List.length_nil] at hxn
  have hel : ∀ i : Int, 0 ≤ i → i < 2 → ∃ g : Sl, v.cell? ((elA x i 1).add 0) = some g.val ∧ Read v g (nth [a, b] i) := by
    intro i h0 h1
    obtain ⟨r, ⟨g, rfl, hr⟩, hc⟩ := hx.row (i := i) h0 (by simpa using h1)
    exact ⟨g, hc 0 _ rfl, hr⟩
  have hlen : ∀ i : Int, 0 ≤ i → i < 2 → (nth [a, b] i).length ≤ 1000000 := by
    intro i h0 h1
    rcases (show i = 0 ∨ i = 1 from by omega) with rfl | rfl
    · exact ha
    · exact hb
  refine ⟨fun n i w => w = v ∧ 0 ≤ i ∧ i ≤ 2 ∧ 0 ≤ n ∧ n ≤ i * 1000000, fun _ i _ => (2 - i).toNat, ⟨rfl, by omega, by omega, by omega, by omega⟩, ?_⟩
  rintro n i _ ⟨rfl, i0, i1, n0, n1⟩
  dsimp only
  refine ⟨fun hi => ?_, fun hi => ?_⟩
  · simp only [bls] at hi
    obtain ⟨g, hg, hr⟩ := hel i i0 (by omega)
    have hgn := hr.n
    have hgl := hlen i i0 (by omega)
    refine go_ix hx i0 (by simp; omega) ?_
    refine ⟨g, hg, ?_⟩
    refine go_wr (by omega) (by omega) ?_
    refine ⟨fun hc => ?_, fun hc => ?_⟩
    · simp only [bls] at hc; omega
    refine go_wr (by omega) (by omega) ?_
    exact ⟨⟨rfl, by omega, by omega, by omega, by omega⟩, by omega⟩
  clear hi
  refine Mk.use (c_grow0 n0 (by omega)) (.refl _) ?_
  rintro _ w1 J1 ⟨z1, rfl, hO1⟩ hS hs
  refine ⟨_, rfl, ?_⟩
  rename_i v
  refine ⟨fun z i w => ∃ I, Own v z (([a, b].take i.toNat).flatten) I ∧ St v w (I ++ []) ∧ 0 ≤ i ∧ i ≤ 2, fun _ i _ => (2 - i).toNat, ⟨J1, by simpa using hO1, hS, by omega, by omega⟩, ?_⟩
  clear hO1 hS hs
  rintro z i w ⟨I, hO, hS, i0, i1⟩
  dsimp only
  refine ⟨fun hi => ?_, fun hi => ?_⟩
  · simp only [bls] at hi
    obtain ⟨g, hg, hr⟩ := hel i i0 (by omega)
    have hgl := hlen i i0 (by omega)
    refine go_ix hx i0 (by simp; omega) ?_
    refine ⟨g, cell_sub hS.sub hg, ?_⟩
    have hle : (([a, b].take i.toNat).flatten).length ≤ 2000000 := by
      rcases (show i = 0 ∨ i = 1 from by omega) with rfl | rfl
      · simp
      · simp; omega
    refine hO.append hS (.ofInts (hr.mono hS.sub)) (by omega) (by decide) ?_
    intro z2 w2 I2 hO2 hS2
    refine ⟨_, rfl, ?_⟩
    refine go_wr (by omega) (by omega) ?_
    refine ⟨⟨I2, ?_, hS2, by omega, by omega⟩, by omega⟩
    rw [take_nth i0 (by simp; omega), List.flatten_append]
    simpa using hO2
  · simp only [bls] at hi
    rw [show i = 2 from by omega] at hO
    exact ⟨I, by simpa using hS, z, rfl, by simpa using hO⟩
theorem c_isCounting : Fn Tryz.prog 85 #[.int .i64 n] v (.bool ((decide (n ≥ 14)) && (decide (n ≤ 17)))) := by
  refine of85 _ _ _ ?_
  unfold vc85
  exact ⟨rfl, .refl v⟩
/-- the program's own look-up of a constructor, of any number -/
theorem c_conAtA (hx : Read v x ds) (hd : SmDs ds) (hn : InI n) : ∃ z : Sl, Read v z (conF ds n) ∧ Fn Tryz.prog 138 #[x.val, .int .i64 n] v (.tuple #[.int .i64 (conTyV ds n), .agg #[z.val]]) := by
  by_cases hsm : -1000000 ≤ n ∧ n ≤ 1000000
  · exact c_conAt hx hd hsm
  have hxn := hx.n
  have hlen := hd.len
  obtain ⟨hn1, hn2⟩ := hn
  have hno : ∀ i : Int, 0 ≤ i → i < ds.length → ¬ conTyOk ds n i := by
    rintro i i0 i1 ⟨q1, q2⟩
    have hfc := hd.fc i.toNat (by omega)
    have hcl := hd.cons _ (nth_mem (l := ds) i0 i1)
    omega
  have hci := conI_none hno
  refine ⟨Sl.mk none 0 0, ?_, ?_⟩
  · unfold conF
    rw [if_pos (by omega)]
    exact ReadB.nil
  refine of138 _ _ _ _ ?_
  unfold vc138
  refine ⟨fun c i w => Sub v w ∧ 0 ≤ i ∧ i ≤ ds.length ∧ InI c ∧ (c < -900000 ∨ 900000 < c) ∧ ((n < 0 → (c = n - firstC ds i.toNat ∨ 900000 < c ∧ 9223372036854775800 ≤ c + i * 3 ∧ n < -9223372036854775700)) ∧ (0 < n → c = n - firstC ds i.toNat)), fun _ i _ => (ds.length - i).toNat, ⟨.refl v, by omega, by omega, ⟨hn1, hn2⟩, by omega, fun _ => .inl (by simp [firstC]), fun _ => by simp [firstC]⟩, ?_⟩
  rintro c i w ⟨hs, i0, i1, ⟨c0, c1⟩, hbig, hneg, hpos⟩
  dsimp only
  refine ⟨fun hi => ?_, fun hi => ?_⟩
  · simp only [bls] at hi
    have hil : i < ds.length := by omega
    have hfc := hd.fc i.toNat (by omega)
    have hfc1 := hd.fc (i + 1).toNat (by omega)
    have hfs := firstC_succ (ds := ds) i0 hil
    obtain ⟨f_cons, e1, e2, e3, j1, j2, r1⟩ := (hx.src hs).ofDeclD i0 hil
    have hfn := r1.n
    have hcl := hd.cons _ (nth_mem (l := ds) i0 hil)
    refine go_ix hx i0 hil ?_
    refine ⟨_, _, f_cons, ⟨e1, e2, e3⟩, fun hq => ?_, fun hq => ?_⟩
    · simp only [bls] at hq
      omega
    · refine go_wrap fun r hr => ?_
      have hrc : (r = c - f_cons.n ∧ -9223372036854775808 ≤ c - f_cons.n) ∨ (c - f_cons.n < -9223372036854775808 ∧ r = c - f_cons.n + 18446744073709551616) := by
        rcases Int.lt_or_le (c - f_cons.n) (-9223372036854775808) with hlt | hge
        · refine .inr ⟨hlt, ?_⟩
          rw [← hr]
          have := wrap_low hlt (by omega)
          exact this
        · refine .inl ⟨?_, hge⟩
          rw [← hr]
          exact wrap_i64 hge (by omega)
      refine go_wr (by omega) (by omega) ?_
      refine ⟨rfl, ⟨hs, by omega, by omega, ⟨by omega, by omega⟩, by omega, fun hn => ?_, fun hn => ?_⟩, by omega⟩
      · have := hneg hn
        omega
      · have := hpos hn
        omega
  · simp only [bls] at hi
    refine ⟨?_, hs⟩
    unfold conTyV
    rw [hci, if_pos (by omega)]
    rfl
end
end Go.Vc
