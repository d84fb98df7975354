/- Part of the proofs about the heaps and memories: a law is joined in the text whose name ends in W and the law. -/
import Derived.Test.YtelgbndeeccblaaGreatDoorEK4
import Derived.Test.YtelgbndeeccblaaGreatDoorEV3
import Derived.Test.YtelgbndeeccblaaGreatDoorEE5
namespace Go.Vc
open Go Go.RowKit
set_option linter.all false

structure StepP (κ : Type) where
  op : Int
  num : Int
  into : Int
  args : List Int
  kids : List κ
structure BlockD where
  steps : List (StepP BlockD)
  result : Int
abbrev StepD := StepP BlockD
instance : Inhabited StepD := ⟨⟨0, 0, 0, [], []⟩⟩
instance : Inhabited BlockD := ⟨⟨[], 0⟩⟩
noncomputable instance : DecidableEq StepD := fun a b => Classical.propDecidable _
noncomputable instance : DecidableEq BlockD := fun a b => Classical.propDecidable _

mutual
inductive StpC (B : Nat) (w : World) : List Value → StepD → Prop where
  | mk {op num into : Int} {args : List Int} {kids : List BlockD} {xa xk : Sl} {rows : List (List Value)} : InI op → InI num → InI into → ReadB B w xa args → Rows w xk 2 rows → rows.length = kids.length →
      (∀ (i : Nat) (r : List Value) (b : BlockD), rows[i]? = some r → kids[i]? = some b → BlkC B w r b) → kids.length ≤ B → StpC B w [intV op, intV num, intV into, xa.val, xk.val] ⟨op, num, into, args, kids⟩
inductive BlkC (B : Nat) (w : World) : List Value → BlockD → Prop where
  | mk {steps : List StepD} {result : Int} {xs : Sl} {rows : List (List Value)} : InI result → Rows w xs 5 rows → rows.length = steps.length →
      (∀ (i : Nat) (r : List Value) (s : StepD), rows[i]? = some r → steps[i]? = some s → StpC B w r s) → steps.length ≤ B → BlkC B w [xs.val, intV result] ⟨steps, result⟩
end
mutual
theorem StpC.mono {B : Nat} {u w : World} {cs : List Value} {a : StepD} (hs : Sub u w) : StpC B u cs a → StpC B w cs a
  | .mk h1 h2 h3 h4 h5 h6 h7 h8 => .mk h1 h2 h3 (h4.mono hs) (h5.sub hs) h6 (fun i r b hr hb => BlkC.mono hs (h7 i r b hr hb)) h8
theorem BlkC.mono {B : Nat} {u w : World} {cs : List Value} {a : BlockD} (hs : Sub u w) : BlkC B u cs a → BlkC B w cs a
  | .mk h1 h2 h3 h4 h5 => .mk h1 (h2.sub hs) h3 (fun i r b hr hb => StpC.mono hs (h4 i r b hr hb)) h5
end
instance : Dat BlockD where
  sz := 2
  cells := BlkC
  mono := fun hs h => h.mono hs
  len := fun h => by cases h; rfl
  one := fun h v hv => by
    cases h
    simp only [List.mem_cons, List.not_mem_nil, or_false] at hv
    rcases hv with rfl | rfl <;> rfl
instance : Dat StepD where
  sz := 5
  cells := StpC
  mono := fun hs h => h.mono hs
  len := fun h => by cases h; rfl
  one := fun h v hv => by
    cases h
    simp only [List.mem_cons, List.not_mem_nil, or_false] at hv
    rcases hv with rfl | rfl | rfl | rfl | rfl <;> rfl
mutual
inductive StpO : List Value → StepD → Items → Prop where
  | mk {op num into : Int} {args : List Int} {kids : List BlockD} {xa xk : Sl} {rows : List (List Value)} {Ka I0 E I : Items} {Is : List Items} : InI op → InI num → InI into → (∀ u, Own u xa args Ka) → OSl 2 xk rows I0 → rows.length = kids.length → Is.length = kids.length →
      (∀ (i : Nat) (r : List Value) (b : BlockD) (K : Items), rows[i]? = some r → kids[i]? = some b → Is[i]? = some K → BlkO r b K) → I.Perm (I0 ++ (Is.flatten ++ E)) → kids.length ≤ BB →
      StpO [intV op, intV num, intV into, xa.val, xk.val] ⟨op, num, into, args, kids⟩ (Ka ++ I)
inductive BlkO : List Value → BlockD → Items → Prop where
  | mk {steps : List StepD} {result : Int} {xs : Sl} {rows : List (List Value)} {I0 E I : Items} {Is : List Items} : InI result → OSl 5 xs rows I0 → rows.length = steps.length → Is.length = steps.length →
      (∀ (i : Nat) (r : List Value) (s : StepD) (K : Items), rows[i]? = some r → steps[i]? = some s → Is[i]? = some K → StpO r s K) → I.Perm (I0 ++ (Is.flatten ++ E)) → steps.length ≤ BB → BlkO [xs.val, intV result] ⟨steps, result⟩ I
end
theorem get_len {α β : Type} {l : List α} {m : List β} {i : Nat} {a : α} (h : l[i]? = some a) (hl : l.length = m.length) : i < m.length := by
  have := (List.getElem?_eq_some_iff.1 h).1
  omega
mutual
theorem StpO.read {w : World} {cs : List Value} {a : StepD} {I : Items} : StpO cs a I → AtAll w I → StpC BB w cs a
  | .mk (Is := Is) (kids := kids) (rows := rows) h1 h2 h3 h4 h5 h6 h7 h8 h9 h10, hA => by
    have hA' := (show AtAll w _ from fun p hp => hA p (List.mem_append_right _ hp)).perm h9.symm
    refine .mk h1 h2 h3 (let ⟨rows, k1, k2, k3⟩ := h4 w; ⟨rows, k1.rd fun p hp => hA p (List.mem_append_left _ hp), k2, k3⟩) (h5.rd fun p hp => hA' p (List.mem_append_left _ hp)) h6 (fun i r b hr hb => ?_) h10
    have hlt : i < Is.length := get_len hr (by omega)
    exact BlkO.read (h8 i r b _ hr hb (List.getElem?_eq_getElem hlt)) fun p hp => hA' p (List.mem_append_right _ (List.mem_append_left _ (List.mem_flatten.2 ⟨_, List.getElem_mem hlt, hp⟩)))
theorem BlkO.read {w : World} {cs : List Value} {a : BlockD} {I : Items} : BlkO cs a I → AtAll w I → BlkC BB w cs a
  | .mk (Is := Is) (rows := rows) h1 h5 h6 h7 h8 h9 h10, hA => by
    have hA' := hA.perm h9.symm
    refine .mk h1 (h5.rd fun p hp => hA' p (List.mem_append_left _ hp)) h6 (fun i r b hr hb => ?_) h10
    have hlt : i < Is.length := get_len hr (by omega)
    exact StpO.read (h8 i r b _ hr hb (List.getElem?_eq_getElem hlt)) fun p hp => hA' p (List.mem_append_right _ (List.mem_append_left _ (List.mem_flatten.2 ⟨_, List.getElem_mem hlt, hp⟩)))
end
instance : DatO BlockD where
  own := BlkO
  read := BlkO.read
instance : DatO StepD where
  own := StpO
  read := StpO.read
mutual
theorem blk_indA {P : BlockD → Prop} (h : ∀ b : BlockD, (∀ s ∈ b.steps, ∀ k ∈ s.kids, P k) → P b) : ∀ b : BlockD, P b
  | ⟨steps, result⟩ => h _ (stps_indA h steps)
theorem stps_indA {P : BlockD → Prop} (h : ∀ b : BlockD, (∀ s ∈ b.steps, ∀ k ∈ s.kids, P k) → P b) : ∀ (l : List (StepP BlockD)), ∀ s ∈ l, ∀ k ∈ s.kids, P k
  | [] => fun s hs => by cases hs
  | a :: r => fun s hs => by
    rcases List.mem_cons.1 hs with e | hs
    · rw [e]; exact stp_indA h a
    · exact stps_indA h r s hs
theorem stp_indA {P : BlockD → Prop} (h : ∀ b : BlockD, (∀ s ∈ b.steps, ∀ k ∈ s.kids, P k) → P b) : ∀ (s : StepP BlockD), ∀ k ∈ s.kids, P k
  | ⟨_, _, _, _, kids⟩ => blks_indA h kids
theorem blks_indA {P : BlockD → Prop} (h : ∀ b : BlockD, (∀ s ∈ b.steps, ∀ k ∈ s.kids, P k) → P b) : ∀ (l : List BlockD), ∀ k ∈ l, P k
  | [] => fun s hs => by cases hs
  | a :: r => fun s hs => by
    rcases List.mem_cons.1 hs with e | hs
    · rw [e]; exact blk_indA h a
    · exact blks_indA h r s hs
end
end Go.Vc

namespace Go.Vc
open Go Go.Proofs Go.RowKit
set_option linter.all false
/-- a routine of a normal form -/
structure RoutD where
  params : List Int
  lent : List Int
  result : Int
  body : BlockD
noncomputable instance : DecidableEq RoutD := fun a b => Classical.propDecidable _
instance : Inhabited RoutD := ⟨⟨[], [], 0, default⟩⟩
instance : Dat RoutD where
  sz := 5
  cells B w cs c := ∃ f_params f_lent f_steps : Sl, cs = [f_params.val, f_lent.val, intV c.result, f_steps.val, intV c.body.result] ∧ InI c.result ∧ InI c.body.result ∧ ReadB B w f_params c.params ∧ ReadB B w f_lent c.lent ∧ ReadB B w f_steps c.body.steps
  mono := fun hs ⟨f1, f2, f3, h0, i1, i2, r1, r2, r3⟩ => ⟨f1, f2, f3, h0, i1, i2, r1.mono hs, r2.mono hs, r3.mono hs⟩
  len := fun ⟨f1, f2, f3, h0, _⟩ => by rw [h0]; rfl
  one := fun ⟨f1, f2, f3, h0, _⟩ v hv => by
    rw [h0] at hv; simp only [List.mem_cons, List.not_mem_nil, or_false] at hv
    rcases hv with rfl | rfl | rfl | rfl | rfl <;> rfl
def sgOf (r : RoutD) : SigD := ⟨r.params, r.lent, r.result⟩
/-! blocks: how many steps, and of what type -/
mutual
def cntB : BlockD → Nat
  | ⟨ss, _⟩ => cntL ss
def cntL : List (StepP BlockD) → Nat
  | [] => 0
  | s :: r => 1 + cntS s + cntL r
def cntS : StepP BlockD → Nat
  | ⟨_, _, _, _, ks⟩ => cntK ks
def cntK : List BlockD → Nat
  | [] => 0
  | b :: r => cntB b + cntK r
end
def isCnt (op : Int) : Prop := 14 ≤ op ∧ op ≤ 17
instance (op : Int) : Decidable (isCnt op) := inferInstanceAs (Decidable (14 ≤ op ∧ op ≤ 17))
/-- the arguments are variables in scope -/
def argsIn (vars args : List Int) : Prop := ∀ a ∈ args, 0 ≤ a ∧ a < vars.length
def intoIn (vars : List Int) (op into : Int) : Prop := into = 0 ∨ (op = 6 ∧ 1 ≤ into ∧ into ≤ vars.length ∧ nth vars (into - 1) ≠ 0)
def typs (vars args : List Int) : List Int := args.map (nth vars)
def cntOk (ds : List DeclD) (op num : Int) (T : List Int) : Prop := T.length = 1 ∧ nth T 0 ≠ 0 ∧ num = 0 ∧ (op = 16 ∨ op = 17 → ¬ isArr ds (nth T 0))
/-- the fields of the constructors of a type -/
noncomputable def armF (ds : List DeclD) (t : Int) : List (List Int) := (consL ds t).map (conF ds)
open Classical in
/-- the types that the arguments of a step without kids must have, and its own -/
noncomputable def wantB (ds : List DeclD) (ss : List SigD) (op num t0 : Int) : Option (List Int × Int) :=
  if op = 0 then (if -999 ≤ num ∧ num ≤ 999 then some ([], 0) else none)
  else if op = 1 ∨ op = 2 ∨ op = 3 ∨ op = 4 then (if num = 0 then some ([0, 0], 0) else none)
  else if op = 5 then (if num = 0 then some ([0], 0) else none)
  else if op = 6 then (if 0 < conTyV ds num then some (conF ds num, conTyV ds num) else none)
  else if op = 9 then (if 0 ≤ num ∧ num < ss.length then some ((nth ss num).params, (nth ss num).result) else none)
  else if op = 10 then (if 0 ≤ num ∧ num < ss.length ∧ 1 ≤ (nth ss num).params.length ∧ (nth ss num).lent.length = 0 ∧ 0 < arrI ds (nth (nth ss num).params (((nth ss num).params.length : Int) - 1)) (nth ss num).result then
    some ((nth ss num).params.take ((nth ss num).params.length - 1), arrI ds (nth (nth ss num).params (((nth ss num).params.length : Int) - 1)) (nth ss num).result) else none)
  else if op = 11 then (if num = 0 ∧ isArr ds t0 then some ([t0, (nth ds (t0 - 1)).frm], (nth ds (t0 - 1)).to_) else none)
  else none
noncomputable def simB (ds : List DeclD) (ss : List SigD) (op num : Int) (T : List Int) : Option Int :=
  match wantB ds ss op num (nth T 0) with
  | some (W, n) => if T = W then some n else none
  | none => none
/-- one type that all have -/
def same1 : List (Option Int) → Option Int
  | some t :: r => if ∀ q ∈ r, q = some t then some t else none
  | _ => none
section
open Classical
mutual
/-- the type of a block's result, in the scope of variables of some types -/
noncomputable def blkT (ds : List DeclD) (ss : List SigD) (vars : List Int) : BlockD → Option Int
  | ⟨steps, result⟩ => match stpsT ds ss vars steps with
    | none => none
    | some inner => if 0 ≤ result ∧ result < inner.length then some (nth inner result) else none
noncomputable def stpsT (ds : List DeclD) (ss : List SigD) (vars : List Int) : List (StepP BlockD) → Option (List Int)
  | [] => some vars
  | s :: r => match stpT ds ss vars s with
    | none => none
    | some t => stpsT ds ss (if isCnt s.op then vars else vars ++ [t]) r
noncomputable def stpT (ds : List DeclD) (ss : List SigD) (vars : List Int) : StepP BlockD → Option Int
  | ⟨op, num, into, args, kids⟩ =>
    if argsIn vars args ∧ intoIn vars op into then
      (if isCnt op then (if cntOk ds op num (typs vars args) ∧ kids.length = 0 then some 0 else none)
       else if op = 7 then (if typs vars args = [0] ∧ num = 0 ∧ kids.length = 2 then same1 (kidsT ds ss vars [[], []] kids) else none)
       else if op = 8 then (if typs vars args = [num] ∧ 0 < (armF ds num).length ∧ kids.length = (armF ds num).length then same1 (kidsT ds ss vars (armF ds num) kids) else none)
       else if kids.length = 0 then simB ds ss op num (typs vars args) else none)
    else none
noncomputable def kidsT (ds : List DeclD) (ss : List SigD) (vars : List Int) : List (List Int) → List BlockD → List (Option Int)
  | fs, b :: r => blkT ds ss (vars ++ nth fs 0) b :: kidsT ds ss vars (fs.drop 1) r
  | _, [] => []
end
end
section
variable {ds : List DeclD} {ss : List SigD} {vars : List Int} {b : BlockD} {s : StepD} {r : List StepD} {l : List BlockD} {fs : List (List Int)} {t n num op : Int} {T : List Int}
/-- no type is negative -/
def nonneg (l : List Int) : Prop := ∀ t ∈ l, 0 ≤ t ∧ t ≤ 4
theorem nonneg.app {a b : List Int} (h : nonneg a) (k : nonneg b) : nonneg (a ++ b) := fun t ht => (List.mem_append.1 ht).elim (h t) (k t)
theorem nonneg.nth {a : List Int} (h : nonneg a) {i : Int} (h0 : 0 ≤ i) (h1 : i < a.length) : 0 ≤ nth a i ∧ nth a i ≤ 4 := h _ (nth_mem h0 h1)
theorem conF_nn (h : typesOk ds) (n : Int) : nonneg (conF ds n) := by
  intro t ht
  obtain ⟨i, hi, rfl⟩ := List.getElem_of_mem ht
  have := conF_typ (n := n) (i := i) h (by omega) (by omega)
  rwa [nth_of (a := (conF ds n)[i]) (by simp [hi])] at this
theorem conF_len3 (h : typesOk ds) (n : Int) : (conF ds n).length ≤ 3 := by
  unfold conF
  split
  · simp
  · rcases conI_cases ds n with ⟨g1, _⟩ | ⟨g1, g2, ⟨q1, q2⟩, g4⟩
    · omega
    · exact ((declOk_easy (h.2 _ g1 g2)).2.2.2.2.1 _ (nth_mem (by omega) (by omega))).1
end
end Go.Vc

namespace Go.Vc
open Go Go.Proofs Go.RowKit
set_option linter.all false
/-- a normal form in memory, its signatures valid -/
structure Nrm (v : World) (x y : Sl) (ds : List DeclD) (rs : List RoutD) : Prop where
  hx : Read v x ds
  hy : Read v y rs
  sg : sigSigs ds (rs.map sgOf)
theorem Nrm.mono {v w : World} {x y : Sl} {ds : List DeclD} {rs : List RoutD} (h : Nrm v x y ds rs) (hs : Sub v w) : Nrm w x y ds rs := ⟨h.hx.mono hs, h.hy.mono hs, h.sg⟩
theorem Nrm.sm {v : World} {x y : Sl} {ds : List DeclD} {rs : List RoutD} (h : Nrm v x y ds rs) : SmDs ds := h.sg.1.sm
section
variable {u v w : World} {x y z ax kx tx xs : Sl} {vars args T : List Int} {ds : List DeclD} {rs : List RoutD} {n i t op num into : Int} {c : StepD} {b : BlockD}
end
end Go.Vc

namespace Go.Vc
open Go Go.Proofs Go.RowKit
set_option linter.all false
section
variable {u v w : World} {x y z ax kx tx xs : Sl} {vars args T : List Int} {ds : List DeclD} {rs : List RoutD} {n i t op num into : Int} {c : StepD} {b : BlockD}
open Classical in
end
end Go.Vc

namespace Go.Vc
open Go Go.Proofs Go.RowKit
set_option linter.all false
section
variable {u v w : World} {x y z ax kx tx xs : Sl} {vars args T W : List Int} {ds : List DeclD} {rs : List RoutD} {ss : List SigD} {n i t op num into : Int} {c : StepD} {b : BlockD} {kids : List BlockD} {fs : List (List Int)}
theorem c_extend (hx : Read v z vars) (hy : Read v ax args) (hb : vars.length + args.length ≤ 1099511627776) : Mk Tryz.prog 136 #[z.val, ax.val] v fun r J => ∃ y, r = y.val ∧ Own v y (vars ++ args) J := by
  refine of136 _ _ _ _ ?_
  unfold vc136
  refine Mk.use (c_copyInts hx) (.refl v) ?_
  rintro _ w1 J ⟨y, rfl, hO⟩ hS hs
  refine ⟨_, rfl, ?_⟩
  refine hO.append hS (.ofInts (hy.mono hs)) hb (by decide) ?_
  intro y2 w2 I2 hO2 hS2
  exact ⟨_, rfl, I2, by simpa using hS2, y2, rfl, hO2⟩
theorem c_consOfB (hx : Read v x ds) (hd : SmDs ds) (hn : InI n) : Mk Tryz.prog 180 #[x.val, .int .i64 n] v fun r J => ∃ z, r = z.val ∧ Own v z (consL ds n) J :=
  c_consOf hx hn (by have := hd.len; omega) (fun d h => by have := hd.cons d h; omega) fun i i0 i1 => by have := hd.fc i.toNat (by omega); omega
end
end Go.Vc

namespace Go.Vc
open Go Go.Proofs Go.RowKit
set_option linter.all false
section
variable {u v w : World} {x y z ax kx tx xs : Sl} {vars args T W : List Int} {ds : List DeclD} {rs : List RoutD} {ss : List SigD} {n i t op num into : Int} {c : StepD} {b : BlockD} {kids : List BlockD} {fs : List (List Int)}
end
end Go.Vc

namespace Go.Vc
open Go Go.Proofs Go.RowKit
set_option linter.all false
section
variable {α : Type} [Dat α] {u v w : World} {x y z ax kx tx xs s : Sl} {vars args T W l : List Int} {ds : List DeclD} {rs : List RoutD} {ss : List SigD} {n i t op num into m : Int} {c : StepD} {b : BlockD} {kids : List BlockD} {fs : List (List Int)} {L I R : Items}
instance : SlT Tryz.prog 189 1 24 [.slice none 0 0] := .of (by kernel_rfl) rfl (by decide)
end
end Go.Vc

namespace Go.Vc
open Go Go.Proofs Go.RowKit
set_option linter.all false
section
variable {u v w : World} {x y z ax kx tx xs s : Sl} {vars args T W : List Int} {ds : List DeclD} {rs : List RoutD} {ss : List SigD} {n i t op num into : Int} {c : StepD} {b : BlockD} {kids : List BlockD} {fs : List (List Int)} {q : Bool}
end
end Go.Vc
