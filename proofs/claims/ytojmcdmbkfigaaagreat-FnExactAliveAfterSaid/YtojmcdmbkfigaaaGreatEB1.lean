/- Part of the proofs about the heaps and memories: a law is joined in the text whose name ends in W and the law. -/
import Derived.Test.YtojmcdmbkfigaaaGreatEK4
import Derived.Test.YtojmcdmbkfigaaaGreatEV4
namespace Go.Vc
open Go Go.RowKit
set_option linter.all false

structure StepP (κ : Type) where
  op : Int
  num : Int
  into : Int
  args : List Int
  kids : List κ
structure BlockD where
  steps : List (StepP BlockD)
  result : Int
abbrev StepD := StepP BlockD
instance : Inhabited StepD := ⟨⟨0, 0, 0, [], []⟩⟩
instance : Inhabited BlockD := ⟨⟨[], 0⟩⟩
noncomputable instance : DecidableEq StepD := fun a b => Classical.propDecidable _
noncomputable instance : DecidableEq BlockD := fun a b => Classical.propDecidable _

mutual
inductive StpC (B : Nat) (w : World) : List Value → StepD → Prop where
  | mk {op num into : Int} {args : List Int} {kids : List BlockD} {xa xk : Sl} {rows : List (List Value)} : InI op → InI num → InI into → ReadB B w xa args → Rows w xk 2 rows → rows.length = kids.length →
      (∀ (i : Nat) (r : List Value) (b : BlockD), rows[i]? = some r → kids[i]? = some b → BlkC B w r b) → kids.length ≤ B → StpC B w [intV op, intV num, intV into, xa.val, xk.val] ⟨op, num, into, args, kids⟩
inductive BlkC (B : Nat) (w : World) : List Value → BlockD → Prop where
  | mk {steps : List StepD} {result : Int} {xs : Sl} {rows : List (List Value)} : InI result → Rows w xs 5 rows → rows.length = steps.length →
      (∀ (i : Nat) (r : List Value) (s : StepD), rows[i]? = some r → steps[i]? = some s → StpC B w r s) → steps.length ≤ B → BlkC B w [xs.val, intV result] ⟨steps, result⟩
end
mutual
theorem StpC.mono {B : Nat} {u w : World} {cs : List Value} {a : StepD} (hs : Sub u w) : StpC B u cs a → StpC B w cs a
  | .mk h1 h2 h3 h4 h5 h6 h7 h8 => .mk h1 h2 h3 (h4.mono hs) (h5.sub hs) h6 (fun i r b hr hb => BlkC.mono hs (h7 i r b hr hb)) h8
theorem BlkC.mono {B : Nat} {u w : World} {cs : List Value} {a : BlockD} (hs : Sub u w) : BlkC B u cs a → BlkC B w cs a
  | .mk h1 h2 h3 h4 h5 => .mk h1 (h2.sub hs) h3 (fun i r b hr hb => StpC.mono hs (h4 i r b hr hb)) h5
end
instance : Dat BlockD where
  sz := 2
  cells := BlkC
  mono := fun hs h => h.mono hs
  len := fun h => by cases h; rfl
  one := fun h v hv => by
    cases h
    simp only [List.mem_cons, List.not_mem_nil, or_false] at hv
    rcases hv with rfl | rfl <;> rfl
instance : Dat StepD where
  sz := 5
  cells := StpC
  mono := fun hs h => h.mono hs
  len := fun h => by cases h; rfl
  one := fun h v hv => by
    cases h
    simp only [List.mem_cons, List.not_mem_nil, or_false] at hv
    rcases hv with rfl | rfl | rfl | rfl | rfl <;> rfl
theorem step_cells {B : Nat} {w : World} {cs : List Value} {c : StepD} : Dat.cells B w cs c ↔ ∃ f_args f_kids : Sl, cs = [intV c.op, intV c.num, intV c.into, f_args.val, f_kids.val] ∧ InI c.op ∧ InI c.num ∧ InI c.into ∧ ReadB B w f_args c.args ∧ ReadB B w f_kids c.kids := by
  constructor
  · intro h
    cases h with
    | mk h1 h2 h3 h4 h5 h6 h7 h8 => exact ⟨_, _, rfl, h1, h2, h3, h4, _, h5, ⟨h6, h7⟩, h8⟩
  · rintro ⟨xa, xk, rfl, h1, h2, h3, h4, rows, h5, ⟨h6, h7⟩, h8⟩
    exact .mk h1 h2 h3 h4 h5 h6 h7 h8
theorem block_cells {B : Nat} {w : World} {cs : List Value} {c : BlockD} : Dat.cells B w cs c ↔ ∃ f_steps : Sl, cs = [f_steps.val, intV c.result] ∧ InI c.result ∧ ReadB B w f_steps c.steps := by
  constructor
  · intro h
    cases h with
    | mk h1 h2 h3 h4 h5 => exact ⟨_, rfl, h1, _, h2, ⟨h3, h4⟩, h5⟩
  · obtain ⟨steps, result⟩ := c
    rintro ⟨xs, rfl, h1, rows, h2, ⟨h3, h4⟩, h5⟩
    exact .mk h1 h2 h3 h4 h5
mutual
inductive StpO : List Value → StepD → Items → Prop where
  | mk {op num into : Int} {args : List Int} {kids : List BlockD} {xa xk : Sl} {rows : List (List Value)} {Ka I0 E I : Items} {Is : List Items} : InI op → InI num → InI into → (∀ u, Own u xa args Ka) → OSl 2 xk rows I0 → rows.length = kids.length → Is.length = kids.length →
      (∀ (i : Nat) (r : List Value) (b : BlockD) (K : Items), rows[i]? = some r → kids[i]? = some b → Is[i]? = some K → BlkO r b K) → I.Perm (I0 ++ (Is.flatten ++ E)) → kids.length ≤ BB →
      StpO [intV op, intV num, intV into, xa.val, xk.val] ⟨op, num, into, args, kids⟩ (Ka ++ I)
inductive BlkO : List Value → BlockD → Items → Prop where
  | mk {steps : List StepD} {result : Int} {xs : Sl} {rows : List (List Value)} {I0 E I : Items} {Is : List Items} : InI result → OSl 5 xs rows I0 → rows.length = steps.length → Is.length = steps.length →
      (∀ (i : Nat) (r : List Value) (s : StepD) (K : Items), rows[i]? = some r → steps[i]? = some s → Is[i]? = some K → StpO r s K) → I.Perm (I0 ++ (Is.flatten ++ E)) → steps.length ≤ BB → BlkO [xs.val, intV result] ⟨steps, result⟩ I
end
theorem get_len {α β : Type} {l : List α} {m : List β} {i : Nat} {a : α} (h : l[i]? = some a) (hl : l.length = m.length) : i < m.length := by
  have := (List.getElem?_eq_some_iff.1 h).1
  omega
mutual
theorem StpO.read {w : World} {cs : List Value} {a : StepD} {I : Items} : StpO cs a I → AtAll w I → StpC BB w cs a
  | .mk (Is := Is) (kids := kids) (rows := rows) h1 h2 h3 h4 h5 h6 h7 h8 h9 h10, hA => by
    have hA' := (show AtAll w _ from fun p hp => hA p (List.mem_append_right _ hp)).perm h9.symm
    refine .mk h1 h2 h3 (let ⟨rows, k1, k2, k3⟩ := h4 w; ⟨rows, k1.rd fun p hp => hA p (List.mem_append_left _ hp), k2, k3⟩) (h5.rd fun p hp => hA' p (List.mem_append_left _ hp)) h6 (fun i r b hr hb => ?_) h10
    have hlt : i < Is.length := get_len hr (by omega)
    exact BlkO.read (h8 i r b _ hr hb (List.getElem?_eq_getElem hlt)) fun p hp => hA' p (List.mem_append_right _ (List.mem_append_left _ (List.mem_flatten.2 ⟨_, List.getElem_mem hlt, hp⟩)))
theorem BlkO.read {w : World} {cs : List Value} {a : BlockD} {I : Items} : BlkO cs a I → AtAll w I → BlkC BB w cs a
  | .mk (Is := Is) (rows := rows) h1 h5 h6 h7 h8 h9 h10, hA => by
    have hA' := hA.perm h9.symm
    refine .mk h1 (h5.rd fun p hp => hA' p (List.mem_append_left _ hp)) h6 (fun i r b hr hb => ?_) h10
    have hlt : i < Is.length := get_len hr (by omega)
    exact StpO.read (h8 i r b _ hr hb (List.getElem?_eq_getElem hlt)) fun p hp => hA' p (List.mem_append_right _ (List.mem_append_left _ (List.mem_flatten.2 ⟨_, List.getElem_mem hlt, hp⟩)))
end
instance : DatO BlockD where
  own := BlkO
  read := BlkO.read
instance : DatO StepD where
  own := StpO
  read := StpO.read
theorem step_own {cs : List Value} {c : StepD} {K : Items} : DatO.own cs c K ↔ ∃ f_args f_kids : Sl, ∃ K_args K_kids : Items, cs = [intV c.op, intV c.num, intV c.into, f_args.val, f_kids.val] ∧ InI c.op ∧ InI c.num ∧ InI c.into ∧ (∀ u, Own u f_args c.args K_args) ∧ OwnD f_kids c.kids K_kids ∧ K = K_args ++ K_kids := by
  constructor
  · intro h
    cases h with
    | mk h1 h2 h3 h4 h5 h6 h7 h8 h9 h10 => exact ⟨_, _, _, _, rfl, h1, h2, h3, h4, ⟨_, _, _, _, h5, h6, h7, h8, h9, h10⟩, rfl⟩
  · rintro ⟨xa, xk, Ka, Kk, rfl, h1, h2, h3, h4, ⟨_, _, _, _, h5, h6, h7, h8, h9, h10⟩, rfl⟩
    exact .mk h1 h2 h3 h4 h5 h6 h7 h8 h9 h10
theorem block_own {cs : List Value} {c : BlockD} {K : Items} : DatO.own cs c K ↔ ∃ f_steps : Sl, cs = [f_steps.val, intV c.result] ∧ InI c.result ∧ OwnD f_steps c.steps K := by
  constructor
  · intro h
    cases h with
    | mk h1 h5 h6 h7 h8 h9 h10 => exact ⟨_, rfl, h1, _, _, _, _, h5, h6, h7, h8, h9, h10⟩
  · obtain ⟨steps, result⟩ := c
    rintro ⟨xs, rfl, h1, _, _, _, _, h5, h6, h7, h8, h9, h10⟩
    exact .mk h1 h5 h6 h7 h8 h9 h10
mutual
theorem blk_indA {P : BlockD → Prop} (h : ∀ b : BlockD, (∀ s ∈ b.steps, ∀ k ∈ s.kids, P k) → P b) : ∀ b : BlockD, P b
  | ⟨steps, result⟩ => h _ (stps_indA h steps)
theorem stps_indA {P : BlockD → Prop} (h : ∀ b : BlockD, (∀ s ∈ b.steps, ∀ k ∈ s.kids, P k) → P b) : ∀ (l : List (StepP BlockD)), ∀ s ∈ l, ∀ k ∈ s.kids, P k
  | [] => fun s hs => by cases hs
  | a :: r => fun s hs => by
    rcases List.mem_cons.1 hs with e | hs
    · rw [e]; exact stp_indA h a
    · exact stps_indA h r s hs
theorem stp_indA {P : BlockD → Prop} (h : ∀ b : BlockD, (∀ s ∈ b.steps, ∀ k ∈ s.kids, P k) → P b) : ∀ (s : StepP BlockD), ∀ k ∈ s.kids, P k
  | ⟨_, _, _, _, kids⟩ => blks_indA h kids
theorem blks_indA {P : BlockD → Prop} (h : ∀ b : BlockD, (∀ s ∈ b.steps, ∀ k ∈ s.kids, P k) → P b) : ∀ (l : List BlockD), ∀ k ∈ l, P k
  | [] => fun s hs => by cases hs
  | a :: r => fun s hs => by
    rcases List.mem_cons.1 hs with e | hs
    · rw [e]; exact blk_indA h a
    · exact blks_indA h r s hs
end
theorem blk_ind {P : BlockD → Prop} (h : ∀ b : BlockD, (∀ s ∈ b.steps, ∀ k ∈ s.kids, P k) → P b) (b : BlockD) : P b := blk_indA h b
end Go.Vc

namespace Go.Vc
open Go Go.Proofs Go.RowKit
set_option linter.all false
/-- a routine of a normal form -/
structure RoutD where
  params : List Int
  lent : List Int
  result : Int
  body : BlockD
noncomputable instance : DecidableEq RoutD := fun a b => Classical.propDecidable _
instance : Inhabited RoutD := ⟨⟨[], [], 0, default⟩⟩
instance : Dat RoutD where
  sz := 5
  cells B w cs c := ∃ f_params f_lent f_steps : Sl, cs = [f_params.val, f_lent.val, intV c.result, f_steps.val, intV c.body.result] ∧ InI c.result ∧ InI c.body.result ∧ ReadB B w f_params c.params ∧ ReadB B w f_lent c.lent ∧ ReadB B w f_steps c.body.steps
  mono := fun hs ⟨f1, f2, f3, h0, i1, i2, r1, r2, r3⟩ => ⟨f1, f2, f3, h0, i1, i2, r1.mono hs, r2.mono hs, r3.mono hs⟩
  len := fun ⟨f1, f2, f3, h0, _⟩ => by rw [h0]; rfl
  one := fun ⟨f1, f2, f3, h0, _⟩ v hv => by
    rw [h0] at hv; simp only [List.mem_cons, List.not_mem_nil, or_false] at hv
    rcases hv with rfl | rfl | rfl | rfl | rfl <;> rfl
def sgOf (r : RoutD) : SigD := ⟨r.params, r.lent, r.result⟩
theorem Src.ofStepD {u w : World} {x : Sl} {l : List StepD} {i : Int} (hx : Src u w x l) (h0 : 0 ≤ i) (h1 : i < l.length) : ∃ f_args f_kids : Sl, w.cell? ((elA x i 5).add 0) = some (.int .i64 (nth l i).op) ∧ w.cell? ((elA x i 5).add 1) = some (.int .i64 (nth l i).num) ∧ w.cell? ((elA x i 5).add 2) = some (.int .i64 (nth l i).into) ∧ w.cell? ((elA x i 5).add 3) = some f_args.val ∧ w.cell? ((elA x i 5).add 4) = some f_kids.val ∧ InI (nth l i).op ∧ InI (nth l i).num ∧ InI (nth l i).into ∧ Read u f_args (nth l i).args ∧ Read u f_kids (nth l i).kids := by
  obtain ⟨r, hr, h5⟩ := hx.row h0 h1
  obtain ⟨f_args, f_kids, rfl, i1, i2, i3, r1, r2⟩ := step_cells.1 hr
  exact ⟨f_args, f_kids, h5 0 _ rfl, h5 1 _ rfl, h5 2 _ rfl, h5 3 _ rfl, h5 4 _ rfl, i1, i2, i3, r1, r2⟩
theorem Src.ofBlockD {u w : World} {x : Sl} {l : List BlockD} {i : Int} (hx : Src u w x l) (h0 : 0 ≤ i) (h1 : i < l.length) : ∃ f_steps : Sl, w.cell? ((elA x i 2).add 0) = some f_steps.val ∧ w.cell? ((elA x i 2).add 1) = some (.int .i64 (nth l i).result) ∧ InI (nth l i).result ∧ Read u f_steps (nth l i).steps := by
  obtain ⟨r, hr, h5⟩ := hx.row h0 h1
  obtain ⟨f_steps, rfl, i1, r1⟩ := block_cells.1 hr
  exact ⟨f_steps, h5 0 _ rfl, h5 1 _ rfl, i1, r1⟩
theorem Src.ofRoutD {u w : World} {x : Sl} {l : List RoutD} {i : Int} (hx : Src u w x l) (h0 : 0 ≤ i) (h1 : i < l.length) : ∃ f_params f_lent f_steps : Sl, w.cell? ((elA x i 5).add 0) = some f_params.val ∧ w.cell? ((elA x i 5).add 1) = some f_lent.val ∧ w.cell? ((elA x i 5).add 2) = some (.int .i64 (nth l i).result) ∧ w.cell? ((elA x i 5).add 3) = some f_steps.val ∧ w.cell? ((elA x i 5).add 4) = some (.int .i64 (nth l i).body.result) ∧
    InI (nth l i).result ∧ InI (nth l i).body.result ∧ Read u f_params (nth l i).params ∧ Read u f_lent (nth l i).lent ∧ Read u f_steps (nth l i).body.steps := by
  obtain ⟨r, hr, h5⟩ := hx.row h0 h1
  obtain ⟨f1, f2, f3, rfl, i1, i2, r1, r2, r3⟩ := hr
  exact ⟨f1, f2, f3, h5 0 _ rfl, h5 1 _ rfl, h5 2 _ rfl, h5 3 _ rfl, h5 4 _ rfl, i1, i2, r1, r2, r3⟩
instance : SlT Tryz.prog 78 5 72 [intV 0, intV 0, intV 0, .slice none 0 0, .slice none 0 0] := .of (by kernel_rfl) rfl (by decide)
instance : SlT Tryz.prog 101 2 32 [.slice none 0 0, intV 0] := .of (by kernel_rfl) rfl (by decide)
instance : SlT Tryz.prog 29 5 88 [.slice none 0 0, .slice none 0 0, intV 0, .slice none 0 0, intV 0] := .of (by kernel_rfl) rfl (by decide)
/-! blocks: how many steps, and of what type -/
mutual
def cntB : BlockD → Nat
  | ⟨ss, _⟩ => cntL ss
def cntL : List (StepP BlockD) → Nat
  | [] => 0
  | s :: r => 1 + cntS s + cntL r
def cntS : StepP BlockD → Nat
  | ⟨_, _, _, _, ks⟩ => cntK ks
def cntK : List BlockD → Nat
  | [] => 0
  | b :: r => cntB b + cntK r
end
def isCnt (op : Int) : Prop := 14 ≤ op ∧ op ≤ 17
instance (op : Int) : Decidable (isCnt op) := inferInstanceAs (Decidable (14 ≤ op ∧ op ≤ 17))
/-- the arguments are variables in scope -/
def argsIn (vars args : List Int) : Prop := ∀ a ∈ args, 0 ≤ a ∧ a < vars.length
def intoIn (vars : List Int) (op into : Int) : Prop := into = 0 ∨ (op = 6 ∧ 1 ≤ into ∧ into ≤ vars.length ∧ nth vars (into - 1) ≠ 0)
def typs (vars args : List Int) : List Int := args.map (nth vars)
def cntOk (ds : List DeclD) (op num : Int) (T : List Int) : Prop := T.length = 1 ∧ nth T 0 ≠ 0 ∧ num = 0 ∧ (op = 16 ∨ op = 17 → ¬ isArr ds (nth T 0))
/-- the fields of the constructors of a type -/
noncomputable def armF (ds : List DeclD) (t : Int) : List (List Int) := (consL ds t).map (conF ds)
open Classical in
/-- the types that the arguments of a step without kids must have, and its own -/
noncomputable def wantB (ds : List DeclD) (ss : List SigD) (op num t0 : Int) : Option (List Int × Int) :=
  if op = 0 then (if -999 ≤ num ∧ num ≤ 999 then some ([], 0) else none)
  else if op = 1 ∨ op = 2 ∨ op = 3 ∨ op = 4 then (if num = 0 then some ([0, 0], 0) else none)
  else if op = 5 then (if num = 0 then some ([0], 0) else none)
  else if op = 6 then (if 0 < conTyV ds num then some (conF ds num, conTyV ds num) else none)
  else if op = 9 then (if 0 ≤ num ∧ num < ss.length then some ((nth ss num).params, (nth ss num).result) else none)
  else if op = 10 then (if 0 ≤ num ∧ num < ss.length ∧ 1 ≤ (nth ss num).params.length ∧ (nth ss num).lent.length = 0 ∧ 0 < arrI ds (nth (nth ss num).params (((nth ss num).params.length : Int) - 1)) (nth ss num).result then
    some ((nth ss num).params.take ((nth ss num).params.length - 1), arrI ds (nth (nth ss num).params (((nth ss num).params.length : Int) - 1)) (nth ss num).result) else none)
  else if op = 11 then (if num = 0 ∧ isArr ds t0 then some ([t0, (nth ds (t0 - 1)).frm], (nth ds (t0 - 1)).to_) else none)
  else none
noncomputable def simB (ds : List DeclD) (ss : List SigD) (op num : Int) (T : List Int) : Option Int :=
  match wantB ds ss op num (nth T 0) with
  | some (W, n) => if T = W then some n else none
  | none => none
/-- one type that all have -/
def same1 : List (Option Int) → Option Int
  | some t :: r => if ∀ q ∈ r, q = some t then some t else none
  | _ => none
section
open Classical
mutual
/-- the type of a block's result, in the scope of variables of some types -/
noncomputable def blkT (ds : List DeclD) (ss : List SigD) (vars : List Int) : BlockD → Option Int
  | ⟨steps, result⟩ => match stpsT ds ss vars steps with
    | none => none
    | some inner => if 0 ≤ result ∧ result < inner.length then some (nth inner result) else none
noncomputable def stpsT (ds : List DeclD) (ss : List SigD) (vars : List Int) : List (StepP BlockD) → Option (List Int)
  | [] => some vars
  | s :: r => match stpT ds ss vars s with
    | none => none
    | some t => stpsT ds ss (if isCnt s.op then vars else vars ++ [t]) r
noncomputable def stpT (ds : List DeclD) (ss : List SigD) (vars : List Int) : StepP BlockD → Option Int
  | ⟨op, num, into, args, kids⟩ =>
    if argsIn vars args ∧ intoIn vars op into then
      (if isCnt op then (if cntOk ds op num (typs vars args) ∧ kids.length = 0 then some 0 else none)
       else if op = 7 then (if typs vars args = [0] ∧ num = 0 ∧ kids.length = 2 then same1 (kidsT ds ss vars [[], []] kids) else none)
       else if op = 8 then (if typs vars args = [num] ∧ 0 < (armF ds num).length ∧ kids.length = (armF ds num).length then same1 (kidsT ds ss vars (armF ds num) kids) else none)
       else if kids.length = 0 then simB ds ss op num (typs vars args) else none)
    else none
noncomputable def kidsT (ds : List DeclD) (ss : List SigD) (vars : List Int) : List (List Int) → List BlockD → List (Option Int)
  | fs, b :: r => blkT ds ss (vars ++ nth fs 0) b :: kidsT ds ss vars (fs.drop 1) r
  | _, [] => []
end
end
section
variable {ds : List DeclD} {ss : List SigD} {vars : List Int} {b : BlockD} {s : StepD} {r : List StepD} {l : List BlockD} {fs : List (List Int)} {t n num op : Int} {T : List Int}
theorem cntB_eq : cntB b = cntL b.steps := by cases b; rw [cntB]
theorem cntL_cons : cntL (s :: r) = 1 + cntS s + cntL r := by rw [cntL]
theorem cntS_eq : cntS s = cntK s.kids := by cases s; rw [cntS]
theorem cntK_cons : cntK (b :: l) = cntB b + cntK l := by rw [cntK]
theorem stpsT_cons : stpsT ds ss vars (s :: r) = match stpT ds ss vars s with
    | none => none
    | some t => stpsT ds ss (if isCnt s.op then vars else vars ++ [t]) r := by rw [stpsT]
theorem stpsT_nil : stpsT ds ss vars [] = some vars := by rw [stpsT]
theorem blkT_eq : blkT ds ss vars b = match stpsT ds ss vars b.steps with
    | none => none
    | some inner => if 0 ≤ b.result ∧ b.result < inner.length then some (nth inner b.result) else none := by cases b; rw [blkT]
open Classical in
theorem stpT_eq : stpT ds ss vars s =
    if argsIn vars s.args ∧ intoIn vars s.op s.into then
      (if isCnt s.op then (if cntOk ds s.op s.num (typs vars s.args) ∧ s.kids.length = 0 then some 0 else none)
       else if s.op = 7 then (if typs vars s.args = [0] ∧ s.num = 0 ∧ s.kids.length = 2 then same1 (kidsT ds ss vars [[], []] s.kids) else none)
       else if s.op = 8 then (if typs vars s.args = [s.num] ∧ 0 < (armF ds s.num).length ∧ s.kids.length = (armF ds s.num).length then same1 (kidsT ds ss vars (armF ds s.num) s.kids) else none)
       else if s.kids.length = 0 then simB ds ss s.op s.num (typs vars s.args) else none)
    else none := by cases s; rw [stpT]
theorem kidsT_cons : kidsT ds ss vars fs (b :: l) = blkT ds ss (vars ++ nth fs 0) b :: kidsT ds ss vars (fs.drop 1) l := by rw [kidsT]
theorem kidsT_nil : kidsT ds ss vars fs [] = [] := by rw [kidsT]
theorem kidsT_len : ∀ (l : List BlockD) (fs : List (List Int)), (kidsT ds ss vars fs l).length = l.length
  | [], fs => by rw [kidsT_nil]; rfl
  | b :: l, fs => by rw [kidsT_cons, List.length_cons, List.length_cons, kidsT_len l]
theorem kidsT_get : ∀ (l : List BlockD) (fs : List (List Int)) (i : Nat), (kidsT ds ss vars fs l)[i]? = (l[i]?).map fun b => blkT ds ss (vars ++ nth fs i) b
  | [], fs, i => by rw [kidsT_nil]; simp
  | b :: l, fs, 0 => by rw [kidsT_cons]; simp
  | b :: l, fs, i + 1 => by
    rw [kidsT_cons, List.getElem?_cons_succ, kidsT_get l, List.getElem?_cons_succ]
    have e : nth (fs.drop 1) ((i : Nat) : Int) = nth fs ((i + 1 : Nat) : Int) := by unfold nth; simp only [List.getD, List.getElem?_drop, Int.toNat_natCast]; rw [Nat.add_comm]
    rw [e]
/-- no type is negative -/
def nonneg (l : List Int) : Prop := ∀ t ∈ l, 0 ≤ t ∧ t ≤ 4
theorem nonneg.app {a b : List Int} (h : nonneg a) (k : nonneg b) : nonneg (a ++ b) := fun t ht => (List.mem_append.1 ht).elim (h t) (k t)
theorem nonneg.nth {a : List Int} (h : nonneg a) {i : Int} (h0 : 0 ≤ i) (h1 : i < a.length) : 0 ≤ nth a i ∧ nth a i ≤ 4 := h _ (nth_mem h0 h1)
theorem conF_nn (h : typesOk ds) (n : Int) : nonneg (conF ds n) := by
  intro t ht
  obtain ⟨i, hi, rfl⟩ := List.getElem_of_mem ht
  have := conF_typ (n := n) (i := i) h (by omega) (by omega)
  rwa [nth_of (a := (conF ds n)[i]) (by simp [hi])] at this
theorem conF_len3 (h : typesOk ds) (n : Int) : (conF ds n).length ≤ 3 := by
  unfold conF
  split
  · simp
  · rcases conI_cases ds n with ⟨g1, _⟩ | ⟨g1, g2, ⟨q1, q2⟩, g4⟩
    · omega
    · exact ((declOk_easy (h.2 _ g1 g2)).2.2.2.2.1 _ (nth_mem (by omega) (by omega))).1
theorem conTyV_cases (ds : List DeclD) (n : Int) : conTyV ds n = -1 ∨ (1 ≤ conTyV ds n ∧ conTyV ds n ≤ ds.length) := by
  unfold conTyV
  rcases conI_cases ds n with ⟨g1, _⟩ | ⟨g1, g2, _⟩
  · rw [if_pos (by omega)]; exact .inl rfl
  · rw [if_neg (by omega)]; exact .inr ⟨by omega, by omega⟩
theorem sig_nn (h : sigSigs ds ss) {i : Int} (h0 : 0 ≤ i) (h1 : i < ss.length) : nonneg (nth ss i).params ∧ (0 ≤ (nth ss i).result ∧ (nth ss i).result ≤ 4) ∧ (nth ss i).params.length ≤ 3 := by
  obtain ⟨⟨p1, p2, p3⟩, _⟩ := h.2.2.2.2.2 i h0 h1
  have hl := h.1.1
  refine ⟨fun t ht => ?_, ?_, p1⟩
  · have := List.all_eq_true.1 p2 t ht
    unfold typeB at this; simp only [Bool.and_eq_true, decide_eq_true_eq] at this; omega
  · unfold typeB at p3; simp only [Bool.and_eq_true, decide_eq_true_eq] at p3; omega
theorem to_nn (h : typesOk ds) (ht : isArr ds t) : (0 ≤ (nth ds (t - 1)).to_ ∧ (nth ds (t - 1)).to_ ≤ 4) ∧ (0 ≤ (nth ds (t - 1)).frm ∧ (nth ds (t - 1)).frm ≤ 4) := by
  have hl := h.1
  have hd := h.2 (t - 1) (by have := ht.1; omega) (by have := ht.2.1; omega)
  unfold declOk at hd
  rw [if_neg (by have := ht.2.2; omega)] at hd
  obtain ⟨_, h2, h3⟩ := hd
  unfold typeB at h2 h3; simp only [Bool.and_eq_true, decide_eq_true_eq] at h2 h3
  omega
theorem arrI_cases (ds : List DeclD) (f t : Int) : arrI ds f t = -1 ∨ (1 ≤ arrI ds f t ∧ arrI ds f t ≤ ds.length) := by
  unfold arrI
  split
  · rename_i hex
    have := (leastM_spec hex).1
    exact .inr ⟨by omega, by omega⟩
  · exact .inl rfl
theorem simB_nn (h : sigSigs ds ss) (hs : simB ds ss op num T = some t) : 0 ≤ t ∧ t ≤ 4 := by
  have hl := h.1.1
  have hct := conTyV_cases ds num
  have har := arrI_cases ds (nth (nth ss num).params (((nth ss num).params.length : Int) - 1)) (nth ss num).result
  unfold simB at hs
  split at hs
  · rename_i W n hw
    split at hs
    · cases hs
      unfold wantB at hw
      repeat' split at hw
      all_goals first | (cases hw; done) | skip
      all_goals first | (cases hw; omega) | skip
      all_goals
        rename_i hc
        simp only [Option.some.injEq, Prod.mk.injEq] at hw
        obtain ⟨_, rfl⟩ := hw
        first
          | omega
          | exact (sig_nn h hc.1 hc.2).2.1
          | exact (to_nn h.1 hc.2).1
    · cases hs
  · cases hs
theorem same1_some {l : List (Option Int)} (h : same1 l = some t) : ∀ q ∈ l, q = some t := by
  unfold same1 at h
  split at h
  · rename_i t' r
    split at h
    · rename_i hr
      cases h
      intro q hq
      rcases List.mem_cons.1 hq with e | hq
      · exact e
      · exact hr q hq
    · cases h
  · cases h
theorem same1_ne {l : List (Option Int)} (h : same1 l = some t) : l ≠ [] := by
  rintro rfl; unfold same1 at h; cases h
theorem same1_of {l : List (Option Int)} (h : ∀ q ∈ l, q = some t) (hl : l ≠ []) : same1 l = some t := by
  match l, hl, h with
  | q :: r, _, h =>
    have e := h q (by simp)
    subst e
    exact if_pos fun q hq => h q (List.mem_cons_of_mem _ hq)
theorem armF_nn (h : typesOk ds) (n : Int) (i : Nat) : nonneg (nth (armF ds n) i) := by
  unfold armF nth
  simp only [List.getD, List.getElem?_map]
  cases (consL ds n)[((i : Int)).toNat]? with
  | none => exact fun t ht => by simp at ht; cases ht
  | some c => exact conF_nn h c
theorem stpT_nn0 (h : sigSigs ds ss) (hv : nonneg vars) (hks : ∀ k ∈ s.kids, ∀ vars t, nonneg vars → blkT ds ss vars k = some t → 0 ≤ t ∧ t ≤ 4) (ht : stpT ds ss vars s = some t) : 0 ≤ t ∧ t ≤ 4 := by
  rw [stpT_eq] at ht
  have kid : ∀ fs : List (List Int), (∀ i : Nat, nonneg (nth fs i)) → same1 (kidsT ds ss vars fs s.kids) = some t → 0 ≤ t ∧ t ≤ 4 := by
    intro fs hf he
    have hne := same1_ne he
    have hall := same1_some he
    match hkk : s.kids with
    | [] => rw [hkk, kidsT_nil] at hne; exact absurd rfl hne
    | k :: rest =>
      rw [hkk, kidsT_cons] at hall
      exact hks k (by rw [hkk]; simp) _ _ (hv.app (hf 0)) (hall _ (by simp))
  split at ht <;> first | (cases ht; done) | skip
  split at ht
  · split at ht
    · cases ht; omega
    · cases ht
  split at ht
  · split at ht <;> first | (cases ht; done) | skip
    exact kid _ (fun i => by
      match i with
      | 0 => exact fun t ht => by cases ht
      | 1 => exact fun t ht => by cases ht
      | i + 2 => exact fun t ht => by cases ht) ht
  split at ht
  · split at ht <;> first | (cases ht; done) | skip
    exact kid _ (fun i => armF_nn h.1 _ i) ht
  · split at ht <;> first | (cases ht; done) | skip
    exact simB_nn h ht
theorem stpsT_nn0 (h : sigSigs ds ss) : ∀ (l : List StepD), (∀ s ∈ l, ∀ k ∈ s.kids, ∀ vars t, nonneg vars → blkT ds ss vars k = some t → 0 ≤ t ∧ t ≤ 4) → ∀ vars inner, nonneg vars → stpsT ds ss vars l = some inner → nonneg inner
  | [] => fun _ vars inner hv he => by rw [stpsT_nil] at he; cases he; exact hv
  | s :: r => fun hk vars inner hv he => by
    rw [stpsT_cons] at he
    split at he
    · cases he
    · rename_i t' ht'
      refine stpsT_nn0 h r (fun s' hs' => hk s' (by simp [hs'])) _ _ ?_ he
      split
      · exact hv
      · refine hv.app fun q hq => ?_
        rw [List.mem_singleton.1 hq]
        exact stpT_nn0 h hv (hk s (by simp)) ht'
theorem blkT_nn (h : sigSigs ds ss) (b : BlockD) : ∀ vars t, nonneg vars → blkT ds ss vars b = some t → 0 ≤ t ∧ t ≤ 4 := by
  refine blk_ind (P := fun b => ∀ vars t, nonneg vars → blkT ds ss vars b = some t → 0 ≤ t ∧ t ≤ 4) (fun b ih vars t hv hb => ?_) b
  rw [blkT_eq] at hb
  split at hb
  · cases hb
  · rename_i inner hin
    split at hb
    · rename_i hr
      cases hb
      exact (stpsT_nn0 h b.steps ih vars inner hv hin).nth hr.1 hr.2
    · cases hb
theorem stpT_nn (h : sigSigs ds ss) (hv : nonneg vars) (ht : stpT ds ss vars s = some t) : 0 ≤ t ∧ t ≤ 4 := stpT_nn0 h hv (fun k _ => blkT_nn h k) ht
end
end Go.Vc

namespace Go.Vc
open Go Go.Proofs Go.RowKit
set_option linter.all false
/-- a normal form in memory, its signatures valid -/
structure Nrm (v : World) (x y : Sl) (ds : List DeclD) (rs : List RoutD) : Prop where
  hx : Read v x ds
  hy : Read v y rs
  sg : sigSigs ds (rs.map sgOf)
theorem Nrm.mono {v w : World} {x y : Sl} {ds : List DeclD} {rs : List RoutD} (h : Nrm v x y ds rs) (hs : Sub v w) : Nrm w x y ds rs := ⟨h.hx.mono hs, h.hy.mono hs, h.sg⟩
theorem Nrm.sm {v : World} {x y : Sl} {ds : List DeclD} {rs : List RoutD} (h : Nrm v x y ds rs) : SmDs ds := h.sg.1.sm
theorem nth_sg (rs : List RoutD) (i : Int) : nth (rs.map sgOf) i = sgOf (nth rs i) := by
  unfold nth List.getD
  rw [List.getElem?_map]
  cases rs[i.toNat]? <;> rfl
section
variable {u v w : World} {x y z ax kx tx xs : Sl} {vars args T : List Int} {ds : List DeclD} {rs : List RoutD} {n i t op num into : Int} {c : StepD} {b : BlockD}
theorem nth_typs (h0 : 0 ≤ i) (h1 : i < args.length) : nth (typs vars args) i = nth vars (nth args i) := by
  refine nth_of ?_
  unfold typs
  rw [List.getElem?_map, nth_get h0 h1]
  rfl
theorem typs_len : (typs vars args).length = args.length := by unfold typs; simp
theorem eq_nth {l m : List Int} (hl : l.length = m.length) (h : ∀ j : Int, 0 ≤ j → j < l.length → nth l j = nth m j) : l = m := by
  refine List.ext_getElem hl fun j h1 h2 => ?_
  have := h j (by omega) (by omega)
  rwa [nth_of (a := l[j]) (by simp [h1]), nth_of (a := m[j]) (by simp [h2])] at this
theorem argsIn_nth (h : argsIn vars args) (h0 : 0 ≤ i) (h1 : i < args.length) : 0 ≤ nth args i ∧ nth args i < vars.length := h _ (nth_mem h0 h1)
theorem argsIn_of (h : ∀ j : Int, 0 ≤ j → j < args.length → 0 ≤ nth args j ∧ nth args j < vars.length) : argsIn vars args := by
  intro a ha
  obtain ⟨j, hj, rfl⟩ := List.getElem_of_mem ha
  have := h j (by omega) (by omega)
  rwa [nth_of (a := args[j]) (by simp [hj])] at this
theorem c_hasNum : Fn Tryz.prog 100 #[.int .i64 n] v (.bool (((((decide (n = 0)) || (decide (n = 6))) || (decide (n = 8))) || (decide (n = 9))) || (decide (n = 10)))) := by
  refine of100 _ _ _ ?_
  unfold vc100
  exact ⟨rfl, .refl v⟩
theorem c_typed (hz : Read v z vars) (ha : Read v ax args) (ht : Read v tx T) : Fn Tryz.prog 102 #[z.val, ax.val, tx.val] v (.bool (pB (argsIn vars args ∧ typs vars args = T))) := by
  refine of102 _ _ _ _ _ ?_
  unfold vc102
  have hzn := hz.n
  have han := ha.n
  have htn := ht.n
  have hzl := hz.le
  have hal := ha.le
  refine ⟨fun hc => ⟨?_, .refl v⟩, fun hc => ?_⟩
  · rw [pB_f]
    rintro ⟨_, h⟩
    have := congrArg List.length h
    rw [typs_len] at this
    simp only [bls] at hc
    omega
  simp only [bls] at hc
  refine ⟨fun i w => w = v ∧ 0 ≤ i ∧ i ≤ args.length ∧ ∀ j : Int, 0 ≤ j → j < i → (0 ≤ nth args j ∧ nth args j < vars.length) ∧ nth vars (nth args j) = nth T j, fun i _ => (args.length - i).toNat, ⟨rfl, by omega, by omega, fun j j0 j1 => by omega⟩, ?_⟩
  rintro i _ ⟨rfl, i0, i1, h⟩
  dsimp only
  refine ⟨fun hi => ?_, fun hi => ?_⟩
  · simp only [bls] at hi
    refine go_ix ha i0 (by omega) ?_
    refine ld_int ha i0 (by omega) ?_
    intro c0 c1
    refine go_wr (by omega) (by omega) ?_
    refine ⟨_, c_inRange, ?_⟩
    have hg : (!(decide (0 ≤ nth args i) && decide (nth args i ≤ (z.n : Int) - 1))) = false → 0 ≤ nth args i ∧ nth args i < vars.length := fun h => by simp only [bls] at h; omega
    refine go_ixg ha (fun _ => ⟨i0, by omega⟩) ?_
    refine ld_intg ha (fun _ => ⟨i0, by omega⟩) ?_
    refine go_ixg hz hg ?_
    refine ld_intg hz hg ?_
    refine go_ixg ht (fun _ => ⟨i0, by omega⟩) ?_
    refine ld_intg ht (fun _ => ⟨i0, by omega⟩) ?_
    refine ⟨fun hq => ⟨?_, .refl _⟩, fun hq => ?_⟩
    · rw [pB_f]
      rintro ⟨q1, q2⟩
      have q3 := argsIn_nth q1 i0 (by omega)
      have q4 : nth T i = nth vars (nth args i) := by rw [← q2]; exact nth_typs i0 (by omega)
      simp only [bls] at hq
      omega
    · simp only [bls] at hq
      refine go_wr (by omega) (by omega) ?_
      refine ⟨⟨rfl, by omega, by omega, fun j j0 j1 => ?_⟩, by omega⟩
      by_cases e : j = i
      · subst e; exact ⟨⟨by omega, by omega⟩, by omega⟩
      · exact h j j0 (by omega)
  · simp only [bls] at hi
    refine ⟨?_, .refl _⟩
    rw [pB_t]
    refine ⟨argsIn_of fun j j0 j1 => (h j j0 (by omega)).1, eq_nth (by rw [typs_len]; omega) fun j j0 j1 => ?_⟩
    rw [typs_len] at j1
    rw [nth_typs j0 j1]
    exact (h j j0 (by omega)).2
theorem c_validInto (hz : Read v z vars) (hv : nonneg vars) (hi : InI into) : Fn Tryz.prog 101 #[z.val, .agg #[.int .i64 op, .int .i64 num, .int .i64 into, ax.val, kx.val]] v (.bool (pB (intoIn vars op into))) := by
  refine of101 _ _ _ _ _ _ _ _ ?_
  unfold vc101
  have hzn := hz.n
  have hzl := hz.le
  obtain ⟨hi1, hi2⟩ := hi
  refine ⟨fun hc => ⟨?_, .refl v⟩, fun hc => ?_⟩
  · simp only [bls] at hc
    rw [pB_t (.inl hc)]
  simp only [bls] at hc
  refine ⟨_, fun _ => c_inRange, ?_⟩
  have hg : (decide (op = 6) && (decide (1 ≤ into) && decide (into ≤ (z.n : Int)))) = true → 0 ≤ into - 1 ∧ into - 1 < vars.length := fun h => by simp only [bls] at h; omega
  refine go_wrg (fun h => by have := hg h; omega) ?_
  refine go_ixg hz hg ?_
  refine ld_intg hz hg ?_
  refine ⟨?_, .refl v⟩
  congr 1
  refine (pB_eq ⟨fun h => ?_, fun h => ?_⟩)
  · simp only [bls] at h
    exact .inr ⟨by omega, by omega, by omega, by omega⟩
  · rcases h with h | ⟨h1, h2, h3, h4⟩
    · omega
    · have := hv.nth (i := into - 1) (by omega) (by omega)
      simp only [bls]
      omega
theorem c_countingType (h : Nrm v x y ds rs) (hz : Read v z vars) (hv : nonneg vars) (ha : Read v ax args) (hop : isCnt op) (hn : num = 0) :
    Fn Tryz.prog 108 #[.agg #[x.val, y.val], z.val, .agg #[.int .i64 op, .int .i64 num, .int .i64 into, ax.val, kx.val]] v (.int .i64 (bif pB (argsIn vars args ∧ cntOk ds op num (typs vars args)) then 0 else -1)) := by
  refine of108 _ _ _ _ _ _ _ _ _ _ ?_
  unfold vc108
  have hzn := hz.n
  have hzl := hz.le
  have han := ha.n
  have hal := ha.le
  unfold isCnt at hop
  have h1l : (!decide ((ax.n : Int) = 1)) = false → args.length = 1 := fun h => by simp only [bls] at h; omega
  refine go_ixg ha (fun h => by have := h1l h; omega) ?_
  refine ld_intg ha (fun h => by have := h1l h; omega) ?_
  refine go_wrg (fun h => by omega) ?_
  refine ⟨_, fun _ => c_inRange, ?_⟩
  have hg : (!decide ((ax.n : Int) = 1) || !(decide (0 ≤ nth args 0) && decide (nth args 0 ≤ (z.n : Int) - 1))) = false → args.length = 1 ∧ 0 ≤ nth args 0 ∧ nth args 0 < vars.length := fun h => by simp only [bls] at h; omega
  refine go_ixg ha (fun h => by have := hg h; omega) ?_
  refine ld_intg ha (fun h => by have := hg h; omega) ?_
  refine go_ixg hz (fun h => by have := hg h; omega) ?_
  refine ld_intg hz (fun h => by have := hg h; omega) ?_
  have hnt : args.length = 1 → nth (typs vars args) 0 = nth vars (nth args 0) := fun h => nth_typs (by omega) (by omega)
  refine ⟨fun hc => ⟨?_, .refl v⟩, fun hc => ?_⟩
  · rw [pB_f]
    · rfl
    rintro ⟨q1, q2, q3, _⟩
    rw [typs_len] at q2
    rw [hnt q2] at q3
    have := argsIn_nth q1 (i := 0) (by omega) (by omega)
    simp only [bls] at hc
    omega
  · have hc2 := hc
    simp only [bls] at hc2
    have hl : args.length = 1 := by omega
    have hb : 0 ≤ nth args 0 ∧ nth args 0 < vars.length := by omega
    refine go_ixg ha (fun _ => ⟨by omega, by omega⟩) ?_
    refine ld_intg ha (fun _ => ⟨by omega, by omega⟩) ?_
    refine go_ixg hz (fun _ => hb) ?_
    refine ld_intg hz (fun _ => hb) ?_
    obtain ⟨q, hq, hT⟩ := c_isArrow (n := nth vars (nth args 0)) h.hx h.sm.len
    have hin : argsIn vars args := argsIn_of fun j j0 j1 => by rw [show j = 0 from by omega]; exact hb
    refine ⟨q, fun _ => hT, fun hh => ⟨?_, .refl v⟩, fun hh => ⟨?_, .refl v⟩⟩
    · simp only [bls] at hh
      rw [pB_f]
      · rfl
      rintro ⟨_, _, _, _, q4⟩
      rw [hnt hl] at q4
      exact q4 (by omega) (hq.1 hh.2)
    · rw [pB_t]
      · rfl
      refine ⟨hin, by rw [typs_len]; exact hl, by rw [hnt hl]; omega, hn, fun ho ha => ?_⟩
      rw [hnt hl] at ha
      have := hq.2 ha
      rw [this] at hh
      simp only [bls] at hh
      omega
end
end Go.Vc

namespace Go.Vc
open Go Go.Proofs Go.RowKit
set_option linter.all false
section
variable {u v w : World} {x y z ax kx tx xs : Sl} {vars args T : List Int} {ds : List DeclD} {rs : List RoutD} {n i t op num into : Int} {c : StepD} {b : BlockD}
/-- the type of a step, or -1 -/
noncomputable def gD (o : Option Int) : Int := o.getD (-1)
theorem gD_some : gD (some t) = t := rfl
theorem simB_9 (hop : op = 9) (h0 : 0 ≤ num) (h1 : num < (rs.map sgOf).length) : simB ds (rs.map sgOf) op num T = if T = (nth rs num).params then some (nth rs num).result else none := by
  unfold simB wantB
  rw [if_neg (by omega), if_neg (by omega), if_neg (by omega), if_neg (by omega), if_pos hop, if_pos ⟨h0, h1⟩, nth_sg]
  rfl
theorem simB_9n (hop : op = 9 ∨ op = 10) (h1 : ¬ (0 ≤ num ∧ num < (rs.map sgOf).length)) : simB ds (rs.map sgOf) op num T = none := by
  unfold simB wantB
  rw [if_neg (by omega), if_neg (by omega), if_neg (by omega), if_neg (by omega)]
  rcases hop with hop | hop
  · rw [if_pos hop, if_neg h1]
  · rw [if_neg (by omega), if_pos hop, if_neg fun h => h1 ⟨h.1, h.2.1⟩]
theorem simB_10 (hop : op = 10) (h0 : 0 ≤ num) (h1 : num < (rs.map sgOf).length) (h2 : 1 ≤ (nth rs num).params.length) (h3 : (nth rs num).lent.length = 0) :
    gD (simB ds (rs.map sgOf) op num T) = if T = (nth rs num).params.take ((nth rs num).params.length - 1) then arrI ds (nth (nth rs num).params (((nth rs num).params.length : Int) - 1)) (nth rs num).result else -1 := by
  have ha := arrI_cases ds (nth (nth rs num).params (((nth rs num).params.length : Int) - 1)) (nth rs num).result
  unfold simB wantB
  rw [if_neg (by omega), if_neg (by omega), if_neg (by omega), if_neg (by omega), if_neg (by omega), if_pos hop, nth_sg]
  by_cases hp : 0 < arrI ds (nth (nth rs num).params (((nth rs num).params.length : Int) - 1)) (nth rs num).result
  · rw [if_pos ⟨h0, h1, h2, h3, hp⟩]
    dsimp only [sgOf]
    split <;> rfl
  · rw [if_neg fun h => hp h.2.2.2.2]
    have : arrI ds (nth (nth rs num).params (((nth rs num).params.length : Int) - 1)) (nth rs num).result = -1 := by omega
    rw [this, ite_self]
    rfl
theorem simB_10n (hop : op = 10) (h : ¬ (1 ≤ (nth rs num).params.length ∧ (nth rs num).lent.length = 0)) : simB ds (rs.map sgOf) op num T = none := by
  unfold simB wantB
  rw [if_neg (by omega), if_neg (by omega), if_neg (by omega), if_neg (by omega), if_neg (by omega), if_pos hop, nth_sg, if_neg fun hh => h ⟨hh.2.2.1, hh.2.2.2.1⟩]
open Classical in
theorem c_routineType (h : Nrm v x y ds rs) (hz : Read v z vars) (ha : Read v ax args) (hop : op = 9 ∨ op = 10) :
    Fn Tryz.prog 106 #[.agg #[x.val, y.val], z.val, .agg #[.int .i64 op, .int .i64 num, .int .i64 into, ax.val, kx.val]] v (.int .i64 (if argsIn vars args then gD (simB ds (rs.map sgOf) op num (typs vars args)) else -1)) := by
  refine of106 _ _ _ _ _ _ _ _ _ _ ?_
  unfold vc106
  have hyn := h.hy.n
  have hyl := h.hy.le
  have hlen : (rs.map sgOf).length = rs.length := by simp
  refine go_wr (by omega) (by omega) ?_
  refine ⟨_, c_inRange, fun hc => ⟨?_, .refl v⟩, fun hc => ?_⟩
  · simp only [bls] at hc
    rw [simB_9n hop (by omega)]
    split <;> rfl
  simp only [bls] at hc
  have h0 : 0 ≤ num := by omega
  have h1 : num < rs.length := by omega
  obtain ⟨f1, f2, f3, e1, e2, e3, e4, e5, i1, i2, r1, r2, r3⟩ := (h.hy.src (.refl v)).ofRoutD h0 h1
  have r1n := r1.n
  have r2n := r2.n
  have r1l := r1.le
  refine go_ix h.hy h0 h1 ?_
  refine ⟨f1, f2, _, f3, _, ⟨e1, e2, e3, e4, e5⟩, fun ho => ?_, fun ho => ?_⟩
  · simp only [bls] at ho
    rw [simB_9 ho h0 (by omega)]
    refine ⟨_, c_typed hz ha r1, fun hq => ⟨?_, .refl v⟩, fun hq => ⟨?_, .refl v⟩⟩
    · simp only [bls] at hq
      have hn : ¬ _ := fun hh => by rw [pB_t hh] at hq; cases hq
      split
      · rename_i hin
        rw [if_neg fun he => hn ⟨hin, he⟩]; rfl
      · rfl
    · simp only [bls] at hq
      obtain ⟨q1, q2⟩ := pB_iff.1 hq
      rw [if_pos q1, if_pos q2]; rfl
  · simp only [bls] at ho
    have ho : op = 10 := by omega
    have hg : (decide ((f1.n : Int) = 0) || decide ((f2.n : Int) > 0)) = false → 1 ≤ (nth rs num).params.length ∧ (nth rs num).lent.length = 0 := fun h => by simp only [bls] at h; omega
    refine go_wrg (fun h => by have := hg h; omega) ?_
    refine ⟨fun hh => ⟨by omega, by have := hg hh; omega, by have := hg hh; obtain ⟨_, hr, _⟩ := r1; have := hr.2.1; omega⟩, ?_⟩
    by_cases hp : 1 ≤ (nth rs num).params.length ∧ (nth rs num).lent.length = 0
    · have hcut := r1.cut (lo := 0) (hi := (f1.n : Int) - 1) (by omega) (by omega) (by omega)
      simp only [show ((0 : Int)).toNat = 0 from rfl, List.drop_zero] at hcut
      rw [show ((f1.n : Int) - 1).toNat = (nth rs num).params.length - 1 from by omega] at hcut
      refine ⟨_, fun _ => c_typed hz ha hcut, fun hq => ⟨?_, .refl v⟩, fun hq => ?_⟩
      · simp only [bls] at hq
        have hq : ¬ (argsIn vars args ∧ typs vars args = (nth rs num).params.take ((nth rs num).params.length - 1)) := fun hh => by rw [pB_t hh] at hq; simp only [bls] at hq; omega
        split
        · rename_i hin
          rw [simB_10 ho h0 (by omega) hp.1 hp.2, if_neg fun he => hq ⟨hin, he⟩]
        · rfl
      · simp only [bls] at hq
        obtain ⟨q1, q2⟩ := pB_iff.1 hq.2
        refine go_wr (by omega) (by omega) ?_
        refine go_ix r1 (by omega) (by omega) ?_
        refine ld_int r1 (by omega) (by omega) ?_
        intro _ _
        refine ⟨_, c_arrowOf h.hx h.sm.len, ?_, .refl v⟩
        rw [if_pos q1, simB_10 ho h0 (by omega) hp.1 hp.2, if_pos q2, r1n]
    · have hb : (decide ((f1.n : Int) = 0) || decide ((f2.n : Int) > 0)) = true := by simp only [bls]; omega
      refine ⟨false, fun hh => (by rw [hb] at hh; cases hh), fun hq => ⟨?_, .refl v⟩, fun hq => ?_⟩
      · rw [simB_10n ho hp]
        split <;> rfl
      · rw [hb] at hq; simp at hq
end
end Go.Vc
