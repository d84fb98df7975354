/- Part of the proofs about the heaps and memories: a law is joined in the text whose name ends in W and the law. -/
import Derived.Test.YtojmcdmbkfigaaaGreatEQ3
namespace Go.Vc
open Go Go.Proofs Go.RowKit
set_option linter.all false
mutual
def costBk : BlockD → Nat
  | ⟨ss, _⟩ => costSs ss
def costSs : List (StepP BlockD) → Nat
  | [] => 0
  | s :: r => 1 + costSt s + costSs r
def costSt : StepP BlockD → Nat
  | ⟨_, _, _, args, kids⟩ => args.length + costKs kids
def costKs : List BlockD → Nat
  | [] => 0
  | b :: r => 1 + costBk b + costKs r
end
instance : Cost BlockD := ⟨costBk⟩
instance : Cost StepD := ⟨costSt⟩
instance : Cost RoutD := ⟨fun c => c.params.length + c.lent.length + Cost.cost c.body⟩
theorem costSs_eq : ∀ l : List StepD, costSs l = costL l
  | [] => by rw [costSs]; rfl
  | s :: r => by
    rw [costSs, costSs_eq r]
    unfold costL
    simp only [List.length_cons, List.map_cons, List.sum_cons]
    show 1 + costSt s + _ = _ + 1 + (costSt s + _)
    omega
theorem costKs_eq : ∀ l : List BlockD, costKs l = costL l
  | [] => by rw [costKs]; rfl
  | s :: r => by
    rw [costKs, costKs_eq r]
    unfold costL
    simp only [List.length_cons, List.map_cons, List.sum_cons]
    show 1 + costBk s + _ = _ + 1 + (costBk s + _)
    omega
theorem cost_bk (b : BlockD) : Cost.cost b = costL b.steps := by
  cases b
  show costBk _ = _
  rw [costBk, costSs_eq]
theorem cost_st (s : StepD) : Cost.cost s = s.args.length + costL s.kids := by
  cases s
  show costSt _ = _
  rw [costSt, costKs_eq]
theorem cost_rt (s : RoutD) : Cost.cost s = s.params.length + s.lent.length + Cost.cost s.body := rfl
section
variable {u v w : World} {x : Sl} {b i : Int}
theorem rowBlockD {B : Nat} {l : List BlockD} (hx : ReadB B v x l) (h0 : 0 ≤ i) (h1 : i < l.length) : ∃ f_steps : Sl, (v.cell? ((elA x i 2).add 0) = some (f_steps.val) ∧ v.cell? ((elA x i 2).add 1) = some (.int .i64 (nth l i).result)) ∧ ReadB B v f_steps (nth l i).steps := by
  obtain ⟨r, hr, hc⟩ := hx.row h0 h1
  obtain ⟨f, rfl, i1, r1⟩ := block_cells.1 hr
  exact ⟨f, ⟨hc 0 _ rfl, hc 1 _ rfl⟩, r1⟩
theorem rowStepD {B : Nat} {l : List StepD} (hx : ReadB B v x l) (h0 : 0 ≤ i) (h1 : i < l.length) : ∃ f_args f_kids : Sl, (v.cell? ((elA x i 5).add 0) = some (.int .i64 (nth l i).op) ∧ v.cell? ((elA x i 5).add 1) = some (.int .i64 (nth l i).num) ∧ v.cell? ((elA x i 5).add 2) = some (.int .i64 (nth l i).into) ∧ v.cell? ((elA x i 5).add 3) = some (f_args.val) ∧ v.cell? ((elA x i 5).add 4) = some (f_kids.val)) ∧ ReadB B v f_args (nth l i).args ∧ ReadB B v f_kids (nth l i).kids := by
  obtain ⟨r, hr, hc⟩ := hx.row h0 h1
  obtain ⟨f, g, rfl, i1, i2, i3, r1, r2⟩ := step_cells.1 hr
  exact ⟨f, g, ⟨hc 0 _ rfl, hc 1 _ rfl, hc 2 _ rfl, hc 3 _ rfl, hc 4 _ rfl⟩, r1, r2⟩
theorem rowRoutD {B : Nat} {l : List RoutD} (hx : ReadB B v x l) (h0 : 0 ≤ i) (h1 : i < l.length) : ∃ f_params f_lent f_steps : Sl, (v.cell? ((elA x i 5).add 0) = some (f_params.val) ∧ v.cell? ((elA x i 5).add 1) = some (f_lent.val) ∧ v.cell? ((elA x i 5).add 2) = some (.int .i64 (nth l i).result) ∧ v.cell? ((elA x i 5).add 3) = some (f_steps.val) ∧ v.cell? ((elA x i 5).add 4) = some (.int .i64 (nth l i).body.result)) ∧ ReadB B v f_params (nth l i).params ∧ ReadB B v f_lent (nth l i).lent ∧ ReadB B v f_steps (nth l i).body.steps := by
  obtain ⟨r, hr, hc⟩ := hx.row h0 h1
  obtain ⟨f, g, k, rfl, i1, i2, r1, r2, r3⟩ := hr
  exact ⟨f, g, k, ⟨hc 0 _ rfl, hc 1 _ rfl, hc 2 _ rfl, hc 3 _ rfl, hc 4 _ rfl⟩, r1, r2, r3⟩
end
def SzB (c : BlockD) : Prop := ∀ (v : World) (f : Sl) (b : Int), ReadB BM v f c.steps → 0 ≤ b → b ≤ 1048576 → Fn Tryz.prog 69 #[.agg #[f.val, .int .i64 c.result], .int .i64 b] v (.int .i64 (szI b (Cost.cost c)))
section
variable {u v w : World} {x : Sl} {b i : Int}
theorem c_szBlockS {l : List BlockD} (H : ∀ k ∈ l, SzB k) (hx : ReadB BM v x l) (hb0 : 0 ≤ b) (hb : b ≤ 1048576) : Fn Tryz.prog 149 #[x.val, .int .i64 b] v (.int .i64 (szI b (costL l))) := by
  refine of149 _ _ _ _ ?_
  unfold vc149
  have hn := hx.n
  have hl : l.length ≤ 9223372036854775807 := hx.le
  have hcl : costL l = l.length + (l.map Cost.cost).sum := rfl
  refine go_wr (by omega) (by omega) ?_
  refine ⟨fun hc => ⟨?_, .refl v⟩, fun hc => ?_⟩
  · simp only [bls] at hc
    rw [szI_if (by omega)]
  simp only [bls] at hc
  refine ⟨fun b' i w => Sub v w ∧ 0 ≤ i ∧ i ≤ l.length ∧ 0 ≤ b' ∧ b' = b - l.length - ((l.take i.toNat).map Cost.cost).sum, fun _ i _ => (l.length - i).toNat, ⟨.refl v, by omega, by omega, by omega, by simp; omega⟩, ?_⟩
  rintro b' i w ⟨hs, h0, h1, h2, h3⟩
  dsimp only
  refine ⟨fun hi => ?_, fun hi => ?_⟩
  · simp only [bls] at hi
    have e1 := sum_take (l := l) h0 (by omega)
    have e2 := sum_le l (i + 1).toNat
    obtain ⟨f_steps, hcell, r_steps⟩ := rowBlockD (hx.mono hs) h0 (by omega)
    refine go_ix hx h0 (by omega) ?_
    refine ⟨f_steps, _, hcell, _, H _ (nth_mem h0 (by omega)) w f_steps b' r_steps h2 (by omega), fun hq => ⟨?_, hs⟩, fun hq => ?_⟩
    · simp only [bls] at hq
      obtain ⟨d1, d2⟩ := szI_neg hq
      rw [szI_if (by omega)]
    · simp only [bls] at hq
      have d1 := (szI_le hq).1
      refine go_wr (by omega) (by omega) ?_
      exact ⟨⟨hs, by omega, by omega, hq, by omega⟩, by omega⟩
  · simp only [bls] at hi
    have e3 : l.take i.toNat = l := take_all (by omega)
    rw [e3] at h3
    exact ⟨by rw [szI_eq (by omega)]; congr 1; omega, hs⟩
theorem c_szStep {c : StepD} (H : ∀ k ∈ c.kids, SzB k) {f_args f_kids : Sl} (r_args : ReadB BM v f_args c.args) (r_kids : ReadB BM v f_kids c.kids) (hb0 : 0 ≤ b) (hb : b ≤ 1048576) : Fn Tryz.prog 128 #[.agg #[.int .i64 c.op, .int .i64 c.num, .int .i64 c.into, f_args.val, f_kids.val], .int .i64 b] v (.int .i64 (szI b (Cost.cost c))) := by
  refine of128 _ _ _ _ _ _ _ _ ?_
  unfold vc128
  have hcost : Cost.cost c = c.args.length + costL c.kids := cost_st c
  rw [hcost]
  refine ⟨_, c_szIntS r_args.n r_args.le (by omega) (by omega), fun hc => ⟨?_, .refl v⟩, fun hc => ?_⟩
  · simp only [bls] at hc
    obtain ⟨e1, e2⟩ := szI_neg hc
    rw [szI_if (by omega)]
  have hp0 := szI_le (by simp only [bls] at hc; exact hc)
  rw [hp0.1] at hc ⊢
  refine ⟨_, c_szBlockS H r_kids (by omega) (by omega), fun hc => ⟨?_, .refl v⟩, fun hc => ?_⟩
  · simp only [bls] at hc
    obtain ⟨e1, e2⟩ := szI_neg hc
    rw [szI_if (by omega)]
  have hp1 := szI_le (by simp only [bls] at hc; exact hc)
  refine ⟨?_, .refl v⟩
  rw [hp1.1, szI_eq (by omega)]
  congr 1
  omega
theorem c_szStepS {l : List StepD} (H : ∀ s ∈ l, ∀ k ∈ s.kids, SzB k) (hx : ReadB BM v x l) (hb0 : 0 ≤ b) (hb : b ≤ 1048576) : Fn Tryz.prog 97 #[x.val, .int .i64 b] v (.int .i64 (szI b (costL l))) := by
  refine of97 _ _ _ _ ?_
  unfold vc97
  have hn := hx.n
  have hl : l.length ≤ 9223372036854775807 := hx.le
  have hcl : costL l = l.length + (l.map Cost.cost).sum := rfl
  refine go_wr (by omega) (by omega) ?_
  refine ⟨fun hc => ⟨?_, .refl v⟩, fun hc => ?_⟩
  · simp only [bls] at hc
    rw [szI_if (by omega)]
  simp only [bls] at hc
  refine ⟨fun b' i w => Sub v w ∧ 0 ≤ i ∧ i ≤ l.length ∧ 0 ≤ b' ∧ b' = b - l.length - ((l.take i.toNat).map Cost.cost).sum, fun _ i _ => (l.length - i).toNat, ⟨.refl v, by omega, by omega, by omega, by simp; omega⟩, ?_⟩
  rintro b' i w ⟨hs, h0, h1, h2, h3⟩
  dsimp only
  refine ⟨fun hi => ?_, fun hi => ?_⟩
  · simp only [bls] at hi
    have e1 := sum_take (l := l) h0 (by omega)
    have e2 := sum_le l (i + 1).toNat
    obtain ⟨f_args, f_kids, hcell, r_args, r_kids⟩ := rowStepD (hx.mono hs) h0 (by omega)
    refine go_ix hx h0 (by omega) ?_
    refine ⟨_, _, _, f_args, f_kids, hcell, _, c_szStep (c := nth l i) (H _ (nth_mem h0 (by omega))) r_args r_kids h2 (by omega), fun hq => ⟨?_, hs⟩, fun hq => ?_⟩
    · simp only [bls] at hq
      obtain ⟨d1, d2⟩ := szI_neg hq
      rw [szI_if (by omega)]
    · simp only [bls] at hq
      have d1 := (szI_le hq).1
      refine go_wr (by omega) (by omega) ?_
      exact ⟨⟨hs, by omega, by omega, hq, by omega⟩, by omega⟩
  · simp only [bls] at hi
    have e3 : l.take i.toNat = l := take_all (by omega)
    rw [e3] at h3
    exact ⟨by rw [szI_eq (by omega)]; congr 1; omega, hs⟩
theorem c_szBlock (c : BlockD) : SzB c := by
  refine blk_ind (P := SzB) (fun c ih => ?_) c
  intro v f b hf hb0 hb
  refine of69 _ _ _ _ _ ?_
  unfold vc69
  rw [cost_bk]
  refine ⟨_, c_szStepS ih hf (by omega) (by omega), fun hc => ⟨?_, .refl v⟩, fun hc => ?_⟩
  · simp only [bls] at hc
    obtain ⟨e1, e2⟩ := szI_neg hc
    rw [szI_if (by omega)]
  exact ⟨rfl, .refl v⟩
theorem c_szRoutine {c : RoutD} {f_params f_lent f_steps : Sl} (r_params : ReadB BM v f_params c.params) (r_lent : ReadB BM v f_lent c.lent) (r_steps : ReadB BM v f_steps c.body.steps) (hb0 : 0 ≤ b) (hb : b ≤ 1048576) : Fn Tryz.prog 45 #[.agg #[f_params.val, f_lent.val, .int .i64 c.result, f_steps.val, .int .i64 c.body.result], .int .i64 b] v (.int .i64 (szI b (Cost.cost c))) := by
  refine of45 _ _ _ _ _ _ _ _ ?_
  unfold vc45
  have hcost : Cost.cost c = c.params.length + c.lent.length + Cost.cost c.body := rfl
  rw [hcost]
  refine ⟨_, c_szIntS r_params.n r_params.le (by omega) (by omega), fun hc => ⟨?_, .refl v⟩, fun hc => ?_⟩
  · simp only [bls] at hc
    obtain ⟨e1, e2⟩ := szI_neg hc
    rw [szI_if (by omega)]
  have hp0 := szI_le (by simp only [bls] at hc; exact hc)
  rw [hp0.1] at hc ⊢
  refine ⟨_, c_szIntS r_lent.n r_lent.le (by omega) (by omega), fun hc => ⟨?_, .refl v⟩, fun hc => ?_⟩
  · simp only [bls] at hc
    obtain ⟨e1, e2⟩ := szI_neg hc
    rw [szI_if (by omega)]
  have hp1 := szI_le (by simp only [bls] at hc; exact hc)
  rw [hp1.1] at hc ⊢
  refine ⟨_, c_szBlock c.body _ _ _ r_steps (by omega) (by omega), fun hc => ⟨?_, .refl v⟩, fun hc => ?_⟩
  · simp only [bls] at hc
    obtain ⟨e1, e2⟩ := szI_neg hc
    rw [szI_if (by omega)]
  have hp2 := szI_le (by simp only [bls] at hc; exact hc)
  refine ⟨?_, .refl v⟩
  rw [hp2.1, szI_eq (by omega)]
  congr 1
  omega
theorem c_szRoutineS {l : List RoutD}  (hx : ReadB BM v x l) (hb0 : 0 ≤ b) (hb : b ≤ 1048576) : Fn Tryz.prog 26 #[x.val, .int .i64 b] v (.int .i64 (szI b (costL l))) := by
  refine of26 _ _ _ _ ?_
  unfold vc26
  have hn := hx.n
  have hl : l.length ≤ 9223372036854775807 := hx.le
  have hcl : costL l = l.length + (l.map Cost.cost).sum := rfl
  refine go_wr (by omega) (by omega) ?_
  refine ⟨fun hc => ⟨?_, .refl v⟩, fun hc => ?_⟩
  · simp only [bls] at hc
    rw [szI_if (by omega)]
  simp only [bls] at hc
  refine ⟨fun b' i w => Sub v w ∧ 0 ≤ i ∧ i ≤ l.length ∧ 0 ≤ b' ∧ b' = b - l.length - ((l.take i.toNat).map Cost.cost).sum, fun _ i _ => (l.length - i).toNat, ⟨.refl v, by omega, by omega, by omega, by simp; omega⟩, ?_⟩
  rintro b' i w ⟨hs, h0, h1, h2, h3⟩
  dsimp only
  refine ⟨fun hi => ?_, fun hi => ?_⟩
  · simp only [bls] at hi
    have e1 := sum_take (l := l) h0 (by omega)
    have e2 := sum_le l (i + 1).toNat
    obtain ⟨f_params, f_lent, f_steps, hcell, r_params, r_lent, r_steps⟩ := rowRoutD (hx.mono hs) h0 (by omega)
    refine go_ix hx h0 (by omega) ?_
    refine ⟨f_params, f_lent, _, f_steps, _, hcell, _, c_szRoutine (c := nth l i) r_params r_lent r_steps h2 (by omega), fun hq => ⟨?_, hs⟩, fun hq => ?_⟩
    · simp only [bls] at hq
      obtain ⟨d1, d2⟩ := szI_neg hq
      rw [szI_if (by omega)]
    · simp only [bls] at hq
      have d1 := (szI_le hq).1
      refine go_wr (by omega) (by omega) ?_
      exact ⟨⟨hs, by omega, by omega, hq, by omega⟩, by omega⟩
  · simp only [bls] at hi
    have e3 : l.take i.toNat = l := take_all (by omega)
    rw [e3] at h3
    exact ⟨by rw [szI_eq (by omega)]; congr 1; omega, hs⟩
theorem c_szNormal {x y : Sl} {ds : List DeclD} {rs : List RoutD} (hx : ReadB BM v x ds) (hy : ReadB BM v y rs) (hb0 : 0 ≤ b) (hb : b ≤ 1048576) : Fn Tryz.prog 8 #[.agg #[x.val, y.val], .int .i64 b] v (.int .i64 (szI b (costL ds + costL rs))) := by
  refine of8 _ _ _ _ _ ?_
  unfold vc8
  refine ⟨_, c_szDeclS hx (by omega) (by omega), fun hc => ⟨?_, .refl v⟩, fun hc => ?_⟩
  · simp only [bls] at hc
    obtain ⟨e1, e2⟩ := szI_neg hc
    rw [szI_if (by omega)]
  have hp0 := szI_le (by simp only [bls] at hc; exact hc)
  rw [hp0.1] at hc ⊢
  refine ⟨_, c_szRoutineS hy (by omega) (by omega), fun hc => ⟨?_, .refl v⟩, fun hc => ?_⟩
  · simp only [bls] at hc
    obtain ⟨e1, e2⟩ := szI_neg hc
    rw [szI_if (by omega)]
  have hp1 := szI_le (by simp only [bls] at hc; exact hc)
  refine ⟨?_, .refl v⟩
  rw [hp1.1, szI_eq (by omega)]
  congr 1
  omega
end
end Go.Vc

namespace Go.Vc
open Go Go.Proofs Go.RowKit
set_option linter.all false
def EqB (c : BlockD) : Prop := ∀ (v : World) (d : BlockD) (f g : Sl), Read v f c.steps → Read v g d.steps → Fn Tryz.prog 90 #[.agg #[f.val, .int .i64 c.result], .agg #[g.val, .int .i64 d.result]] v (.bool (decide (c = d)))
section
variable {u v w : World} {x y : Sl} {b i : Int}
theorem c_eqBlockS {l m : List BlockD} (H : ∀ k ∈ l, EqB k) (hx : Read v x l) (hy : Read v y m) : Fn Tryz.prog 156 #[x.val, y.val] v (.bool (decide (l = m))) := by
  refine of156 _ _ _ _ ?_
  unfold vc156
  have hn := hx.n
  have hm := hy.n
  have hl := hx.le
  refine ⟨fun hc => ⟨?_, .refl v⟩, fun hc => ?_⟩
  · rw [decide_eq_false (fun h => by rw [h] at hn; simp at hc; omega)]
  have hlen : l.length = m.length := by simp at hc; omega
  refine ⟨fun i w => Sub v w ∧ 0 ≤ i ∧ i ≤ l.length ∧ l.take i.toNat = m.take i.toNat, fun i _ => (l.length - i).toNat, ⟨.refl v, by omega, by omega, by simp⟩, ?_⟩
  rintro i w ⟨hs, h0, h1, h2⟩
  dsimp only
  refine ⟨fun hi => ?_, fun hi => ?_⟩
  · simp only [bls] at hi
    obtain ⟨f_steps, hcell, r_steps⟩ := rowBlockD (hx.mono hs) h0 (by omega)
    obtain ⟨g_steps, hcell2, s_steps⟩ := rowBlockD (hy.mono hs) h0 (by omega)
    refine go_ix hx h0 (by omega) ?_
    refine ⟨f_steps, _, hcell, ?_⟩
    refine go_ix hy h0 (by omega) ?_
    refine ⟨g_steps, _, hcell2, ?_⟩
    refine ⟨_, H _ (nth_mem h0 (by omega)) w (nth m i) f_steps g_steps r_steps s_steps, fun hq => ⟨?_, hs⟩, fun hq => ?_⟩
    · rw [decide_eq_false (fun h => by rw [h] at hq; simp at hq)]
    · have he : nth l i = nth m i := by simpa using hq
      refine go_wr (by omega) (by omega) ?_
      refine ⟨⟨hs, by omega, by omega, ?_⟩, by omega⟩
      rw [take_nth h0 (by omega), take_nth h0 (by omega), h2, he]
  · simp only [bls] at hi
    rw [take_all (by omega), take_all (by omega)] at h2
    exact ⟨by rw [decide_eq_true h2], hs⟩
theorem c_eqStep {c d : StepD} (H : ∀ k ∈ c.kids, EqB k) {f_args f_kids g_args g_kids : Sl} (r_args : Read v f_args c.args) (r_kids : Read v f_kids c.kids) (s_args : Read v g_args d.args) (s_kids : Read v g_kids d.kids) : Fn Tryz.prog 146 #[.agg #[.int .i64 c.op, .int .i64 c.num, .int .i64 c.into, f_args.val, f_kids.val], .agg #[.int .i64 d.op, .int .i64 d.num, .int .i64 d.into, g_args.val, g_kids.val]] v (.bool (decide (c = d))) := by
  refine of146 _ _ _ _ _ _ _ _ _ _ _ _ ?_
  unfold vc146
  refine ⟨fun hc => ⟨?_, .refl v⟩, fun hc => ?_⟩
  · rw [decide_eq_false (fun h => by rw [h] at hc; simp at hc)]
  have e_op : c.op = d.op := by simpa using hc
  refine ⟨fun hc => ⟨?_, .refl v⟩, fun hc => ?_⟩
  · rw [decide_eq_false (fun h => by rw [h] at hc; simp at hc)]
  have e_num : c.num = d.num := by simpa using hc
  refine ⟨fun hc => ⟨?_, .refl v⟩, fun hc => ?_⟩
  · rw [decide_eq_false (fun h => by rw [h] at hc; simp at hc)]
  have e_into : c.into = d.into := by simpa using hc
  refine ⟨_, c_eqIntS r_args s_args, fun hc => ⟨?_, .refl v⟩, fun hc => ?_⟩
  · rw [decide_eq_false (fun h => by rw [h] at hc; simp at hc)]
  have e_args : c.args = d.args := by simpa using hc
  refine ⟨_, c_eqBlockS H r_kids s_kids, fun hc => ⟨?_, .refl v⟩, fun hc => ?_⟩
  · rw [decide_eq_false (fun h => by rw [h] at hc; simp at hc)]
  have e_kids : c.kids = d.kids := by simpa using hc
  have e : c = d := by
    obtain ⟨a1, a2, a3, a4, a5⟩ := c
    obtain ⟨b1, b2, b3, b4, b5⟩ := d
    simp only at e_op e_num e_into e_args e_kids
    subst e_op e_num e_into e_args e_kids
    rfl
  exact ⟨by rw [decide_eq_true e], .refl v⟩
theorem c_eqStepS {l m : List StepD} (H : ∀ s ∈ l, ∀ k ∈ s.kids, EqB k) (hx : Read v x l) (hy : Read v y m) : Fn Tryz.prog 123 #[x.val, y.val] v (.bool (decide (l = m))) := by
  refine of123 _ _ _ _ ?_
  unfold vc123
  have hn := hx.n
  have hm := hy.n
  have hl := hx.le
  refine ⟨fun hc => ⟨?_, .refl v⟩, fun hc => ?_⟩
  · rw [decide_eq_false (fun h => by rw [h] at hn; simp at hc; omega)]
  have hlen : l.length = m.length := by simp at hc; omega
  refine ⟨fun i w => Sub v w ∧ 0 ≤ i ∧ i ≤ l.length ∧ l.take i.toNat = m.take i.toNat, fun i _ => (l.length - i).toNat, ⟨.refl v, by omega, by omega, by simp⟩, ?_⟩
  rintro i w ⟨hs, h0, h1, h2⟩
  dsimp only
  refine ⟨fun hi => ?_, fun hi => ?_⟩
  · simp only [bls] at hi
    obtain ⟨f_args, f_kids, hcell, r_args, r_kids⟩ := rowStepD (hx.mono hs) h0 (by omega)
    obtain ⟨g_args, g_kids, hcell2, s_args, s_kids⟩ := rowStepD (hy.mono hs) h0 (by omega)
    refine go_ix hx h0 (by omega) ?_
    refine ⟨_, _, _, f_args, f_kids, hcell, ?_⟩
    refine go_ix hy h0 (by omega) ?_
    refine ⟨_, _, _, g_args, g_kids, hcell2, ?_⟩
    refine ⟨_, c_eqStep (c := nth l i) (d := nth m i) (H _ (nth_mem h0 (by omega))) r_args r_kids s_args s_kids, fun hq => ⟨?_, hs⟩, fun hq => ?_⟩
    · rw [decide_eq_false (fun h => by rw [h] at hq; simp at hq)]
    · have he : nth l i = nth m i := by simpa using hq
      refine go_wr (by omega) (by omega) ?_
      refine ⟨⟨hs, by omega, by omega, ?_⟩, by omega⟩
      rw [take_nth h0 (by omega), take_nth h0 (by omega), h2, he]
  · simp only [bls] at hi
    rw [take_all (by omega), take_all (by omega)] at h2
    exact ⟨by rw [decide_eq_true h2], hs⟩
theorem c_eqBlock (c : BlockD) : EqB c := by
  refine blk_ind (P := EqB) (fun c ih => ?_) c
  intro v d f g hf hg
  refine of90 _ _ _ _ _ _ ?_
  unfold vc90
  refine ⟨_, c_eqStepS ih hf hg, fun hc => ⟨?_, .refl v⟩, fun hc => ?_⟩
  · rw [decide_eq_false (fun h => by rw [h] at hc; simp at hc)]
  have e_steps : c.steps = d.steps := by simpa using hc
  refine ⟨fun hc => ⟨?_, .refl v⟩, fun hc => ?_⟩
  · rw [decide_eq_false (fun h => by rw [h] at hc; simp at hc)]
  have e_result : c.result = d.result := by simpa using hc
  have e : c = d := by
    obtain ⟨a1, a2⟩ := c
    obtain ⟨b1, b2⟩ := d
    simp only at e_steps e_result
    subst e_steps e_result
    rfl
  exact ⟨by rw [decide_eq_true e], .refl v⟩
theorem c_eqRoutine {c d : RoutD} {f_params f_lent f_steps g_params g_lent g_steps : Sl} (r_params : Read v f_params c.params) (r_lent : Read v f_lent c.lent) (r_steps : Read v f_steps c.body.steps) (s_params : Read v g_params d.params) (s_lent : Read v g_lent d.lent) (s_steps : Read v g_steps d.body.steps) : Fn Tryz.prog 61 #[.agg #[f_params.val, f_lent.val, .int .i64 c.result, f_steps.val, .int .i64 c.body.result], .agg #[g_params.val, g_lent.val, .int .i64 d.result, g_steps.val, .int .i64 d.body.result]] v (.bool (decide (c = d))) := by
  refine of61 _ _ _ _ _ _ _ _ _ _ _ _ ?_
  unfold vc61
  refine ⟨_, c_eqIntS r_params s_params, fun hc => ⟨?_, .refl v⟩, fun hc => ?_⟩
  · rw [decide_eq_false (fun h => by rw [h] at hc; simp at hc)]
  have e_params : c.params = d.params := by simpa using hc
  refine ⟨_, c_eqIntS r_lent s_lent, fun hc => ⟨?_, .refl v⟩, fun hc => ?_⟩
  · rw [decide_eq_false (fun h => by rw [h] at hc; simp at hc)]
  have e_lent : c.lent = d.lent := by simpa using hc
  refine ⟨fun hc => ⟨?_, .refl v⟩, fun hc => ?_⟩
  · rw [decide_eq_false (fun h => by rw [h] at hc; simp at hc)]
  have e_result : c.result = d.result := by simpa using hc
  refine ⟨_, c_eqBlock c.body _ d.body _ _ r_steps s_steps, fun hc => ⟨?_, .refl v⟩, fun hc => ?_⟩
  · rw [decide_eq_false (fun h => by rw [h] at hc; simp at hc)]
  have e_body : c.body = d.body := by simpa using hc
  have e : c = d := by
    obtain ⟨a1, a2, a3, a4⟩ := c
    obtain ⟨b1, b2, b3, b4⟩ := d
    simp only at e_params e_lent e_result e_body
    subst e_params e_lent e_result e_body
    rfl
  exact ⟨by rw [decide_eq_true e], .refl v⟩
theorem c_eqRoutineS {l m : List RoutD}  (hx : Read v x l) (hy : Read v y m) : Fn Tryz.prog 35 #[x.val, y.val] v (.bool (decide (l = m))) := by
  refine of35 _ _ _ _ ?_
  unfold vc35
  have hn := hx.n
  have hm := hy.n
  have hl := hx.le
  refine ⟨fun hc => ⟨?_, .refl v⟩, fun hc => ?_⟩
  · rw [decide_eq_false (fun h => by rw [h] at hn; simp at hc; omega)]
  have hlen : l.length = m.length := by simp at hc; omega
  refine ⟨fun i w => Sub v w ∧ 0 ≤ i ∧ i ≤ l.length ∧ l.take i.toNat = m.take i.toNat, fun i _ => (l.length - i).toNat, ⟨.refl v, by omega, by omega, by simp⟩, ?_⟩
  rintro i w ⟨hs, h0, h1, h2⟩
  dsimp only
  refine ⟨fun hi => ?_, fun hi => ?_⟩
  · simp only [bls] at hi
    obtain ⟨f_params, f_lent, f_steps, hcell, r_params, r_lent, r_steps⟩ := rowRoutD (hx.mono hs) h0 (by omega)
    obtain ⟨g_params, g_lent, g_steps, hcell2, s_params, s_lent, s_steps⟩ := rowRoutD (hy.mono hs) h0 (by omega)
    refine go_ix hx h0 (by omega) ?_
    refine ⟨f_params, f_lent, _, f_steps, _, hcell, ?_⟩
    refine go_ix hy h0 (by omega) ?_
    refine ⟨g_params, g_lent, _, g_steps, _, hcell2, ?_⟩
    refine ⟨_, c_eqRoutine (c := nth l i) (d := nth m i) r_params r_lent r_steps s_params s_lent s_steps, fun hq => ⟨?_, hs⟩, fun hq => ?_⟩
    · rw [decide_eq_false (fun h => by rw [h] at hq; simp at hq)]
    · have he : nth l i = nth m i := by simpa using hq
      refine go_wr (by omega) (by omega) ?_
      refine ⟨⟨hs, by omega, by omega, ?_⟩, by omega⟩
      rw [take_nth h0 (by omega), take_nth h0 (by omega), h2, he]
  · simp only [bls] at hi
    rw [take_all (by omega), take_all (by omega)] at h2
    exact ⟨by rw [decide_eq_true h2], hs⟩
theorem c_eqNormal {x y z t : Sl} {ds ds' : List DeclD} {rs rs' : List RoutD} (hx : Read v x ds) (hy : Read v y rs) (hz : Read v z ds') (ht : Read v t rs') : Fn Tryz.prog 12 #[.agg #[x.val, y.val], .agg #[z.val, t.val]] v (.bool (decide (ds = ds') && decide (rs = rs'))) := by
  refine of12 _ _ _ _ _ _ ?_
  unfold vc12
  refine ⟨_, c_eqDeclS hx hz, fun hc => ⟨?_, .refl v⟩, fun hc => ?_⟩
  · simp at hc; simp [hc]
  have e1 : ds = ds' := by simpa using hc
  refine ⟨_, c_eqRoutineS hy ht, fun hc => ⟨?_, .refl v⟩, fun hc => ?_⟩
  · simp at hc; simp [hc]
  have e2 : rs = rs' := by simpa using hc
  exact ⟨by simp [e1, e2], .refl v⟩
end
end Go.Vc
