/- Part of the proofs about the heaps and memories: a law is joined in the text whose name ends in W and the law. -/
import Derived.Test.YtlcegaeioheikaaEK4
import Derived.Test.YtlcegaeioheikaaEV3
import Derived.Test.YtlcegaeioheikaaEH2
namespace Go.Vc
open Go Go.RowKit
set_option linter.all false

structure StepP (κ : Type) where
  op : Int
  num : Int
  into : Int
  args : List Int
  kids : List κ
structure BlockD where
  steps : List (StepP BlockD)
  result : Int
abbrev StepD := StepP BlockD
instance : Inhabited StepD := ⟨⟨0, 0, 0, [], []⟩⟩
instance : Inhabited BlockD := ⟨⟨[], 0⟩⟩
noncomputable instance : DecidableEq StepD := fun a b => Classical.propDecidable _
noncomputable instance : DecidableEq BlockD := fun a b => Classical.propDecidable _

mutual
inductive StpC (B : Nat) (w : World) : List Value → StepD → Prop where
  | mk {op num into : Int} {args : List Int} {kids : List BlockD} {xa xk : Sl} {rows : List (List Value)} : InI op → InI num → InI into → ReadB B w xa args → Rows w xk 2 rows → rows.length = kids.length →
      (∀ (i : Nat) (r : List Value) (b : BlockD), rows[i]? = some r → kids[i]? = some b → BlkC B w r b) → kids.length ≤ B → StpC B w [intV op, intV num, intV into, xa.val, xk.val] ⟨op, num, into, args, kids⟩
inductive BlkC (B : Nat) (w : World) : List Value → BlockD → Prop where
  | mk {steps : List StepD} {result : Int} {xs : Sl} {rows : List (List Value)} : InI result → Rows w xs 5 rows → rows.length = steps.length →
      (∀ (i : Nat) (r : List Value) (s : StepD), rows[i]? = some r → steps[i]? = some s → StpC B w r s) → steps.length ≤ B → BlkC B w [xs.val, intV result] ⟨steps, result⟩
end
mutual
theorem StpC.mono {B : Nat} {u w : World} {cs : List Value} {a : StepD} (hs : Sub u w) : StpC B u cs a → StpC B w cs a
  | .mk h1 h2 h3 h4 h5 h6 h7 h8 => .mk h1 h2 h3 (h4.mono hs) (h5.sub hs) h6 (fun i r b hr hb => BlkC.mono hs (h7 i r b hr hb)) h8
theorem BlkC.mono {B : Nat} {u w : World} {cs : List Value} {a : BlockD} (hs : Sub u w) : BlkC B u cs a → BlkC B w cs a
  | .mk h1 h2 h3 h4 h5 => .mk h1 (h2.sub hs) h3 (fun i r b hr hb => StpC.mono hs (h4 i r b hr hb)) h5
end
instance : Dat BlockD where
  sz := 2
  cells := BlkC
  mono := fun hs h => h.mono hs
  len := fun h => by cases h; rfl
  one := fun h v hv => by
    cases h
    simp only [List.mem_cons, List.not_mem_nil, or_false] at hv
    rcases hv with rfl | rfl <;> rfl
instance : Dat StepD where
  sz := 5
  cells := StpC
  mono := fun hs h => h.mono hs
  len := fun h => by cases h; rfl
  one := fun h v hv => by
    cases h
    simp only [List.mem_cons, List.not_mem_nil, or_false] at hv
    rcases hv with rfl | rfl | rfl | rfl | rfl <;> rfl
mutual
inductive StpO : List Value → StepD → Items → Prop where
  | mk {op num into : Int} {args : List Int} {kids : List BlockD} {xa xk : Sl} {rows : List (List Value)} {Ka I0 E I : Items} {Is : List Items} : InI op → InI num → InI into → (∀ u, Own u xa args Ka) → OSl 2 xk rows I0 → rows.length = kids.length → Is.length = kids.length →
      (∀ (i : Nat) (r : List Value) (b : BlockD) (K : Items), rows[i]? = some r → kids[i]? = some b → Is[i]? = some K → BlkO r b K) → I.Perm (I0 ++ (Is.flatten ++ E)) → kids.length ≤ BB →
      StpO [intV op, intV num, intV into, xa.val, xk.val] ⟨op, num, into, args, kids⟩ (Ka ++ I)
inductive BlkO : List Value → BlockD → Items → Prop where
  | mk {steps : List StepD} {result : Int} {xs : Sl} {rows : List (List Value)} {I0 E I : Items} {Is : List Items} : InI result → OSl 5 xs rows I0 → rows.length = steps.length → Is.length = steps.length →
      (∀ (i : Nat) (r : List Value) (s : StepD) (K : Items), rows[i]? = some r → steps[i]? = some s → Is[i]? = some K → StpO r s K) → I.Perm (I0 ++ (Is.flatten ++ E)) → steps.length ≤ BB → BlkO [xs.val, intV result] ⟨steps, result⟩ I
end
theorem get_len {α β : Type} {l : List α} {m : List β} {i : Nat} {a : α} (h : l[i]? = some a) (hl : l.length = m.length) : i < m.length := by
  have := (List.getElem?_eq_some_iff.1 h).1
  omega
mutual
theorem StpO.read {w : World} {cs : List Value} {a : StepD} {I : Items} : StpO cs a I → AtAll w I → StpC BB w cs a
  | .mk (Is := Is) (kids := kids) (rows := rows) h1 h2 h3 h4 h5 h6 h7 h8 h9 h10, hA => by
    have hA' := (show AtAll w _ from fun p hp => hA p (List.mem_append_right _ hp)).perm h9.symm
    refine .mk h1 h2 h3 (let ⟨rows, k1, k2, k3⟩ := h4 w; ⟨rows, k1.rd fun p hp => hA p (List.mem_append_left _ hp), k2, k3⟩) (h5.rd fun p hp => hA' p (List.mem_append_left _ hp)) h6 (fun i r b hr hb => ?_) h10
    have hlt : i < Is.length := get_len hr (by omega)
    exact BlkO.read (h8 i r b _ hr hb (List.getElem?_eq_getElem hlt)) fun p hp => hA' p (List.mem_append_right _ (List.mem_append_left _ (List.mem_flatten.2 ⟨_, List.getElem_mem hlt, hp⟩)))
theorem BlkO.read {w : World} {cs : List Value} {a : BlockD} {I : Items} : BlkO cs a I → AtAll w I → BlkC BB w cs a
  | .mk (Is := Is) (rows := rows) h1 h5 h6 h7 h8 h9 h10, hA => by
    have hA' := hA.perm h9.symm
    refine .mk h1 (h5.rd fun p hp => hA' p (List.mem_append_left _ hp)) h6 (fun i r b hr hb => ?_) h10
    have hlt : i < Is.length := get_len hr (by omega)
    exact StpO.read (h8 i r b _ hr hb (List.getElem?_eq_getElem hlt)) fun p hp => hA' p (List.mem_append_right _ (List.mem_append_left _ (List.mem_flatten.2 ⟨_, List.getElem_mem hlt, hp⟩)))
end
instance : DatO BlockD where
  own := BlkO
  read := BlkO.read
instance : DatO StepD where
  own := StpO
  read := StpO.read
mutual
theorem blk_indA {P : BlockD → Prop} (h : ∀ b : BlockD, (∀ s ∈ b.steps, ∀ k ∈ s.kids, P k) → P b) : ∀ b : BlockD, P b
  | ⟨steps, result⟩ => h _ (stps_indA h steps)
theorem stps_indA {P : BlockD → Prop} (h : ∀ b : BlockD, (∀ s ∈ b.steps, ∀ k ∈ s.kids, P k) → P b) : ∀ (l : List (StepP BlockD)), ∀ s ∈ l, ∀ k ∈ s.kids, P k
  | [] => fun s hs => by cases hs
  | a :: r => fun s hs => by
    rcases List.mem_cons.1 hs with e | hs
    · rw [e]; exact stp_indA h a
    · exact stps_indA h r s hs
theorem stp_indA {P : BlockD → Prop} (h : ∀ b : BlockD, (∀ s ∈ b.steps, ∀ k ∈ s.kids, P k) → P b) : ∀ (s : StepP BlockD), ∀ k ∈ s.kids, P k
  | ⟨_, _, _, _, kids⟩ => blks_indA h kids
theorem blks_indA {P : BlockD → Prop} (h : ∀ b : BlockD, (∀ s ∈ b.steps, ∀ k ∈ s.kids, P k) → P b) : ∀ (l : List BlockD), ∀ k ∈ l, P k
  | [] => fun s hs => by cases hs
  | a :: r => fun s hs => by
    rcases List.mem_cons.1 hs with e | hs
    · rw [e]; exact blk_indA h a
    · exact blks_indA h r s hs
end
end Go.Vc

namespace Go.Vc
open Go Go.Proofs Go.RowKit
set_option linter.all false
/-- a routine of a normal form -/
structure RoutD where
  params : List Int
  lent : List Int
  result : Int
  body : BlockD
noncomputable instance : DecidableEq RoutD := fun a b => Classical.propDecidable _
instance : Inhabited RoutD := ⟨⟨[], [], 0, default⟩⟩
instance : Dat RoutD where
  sz := 5
  cells B w cs c := ∃ f_params f_lent f_steps : Sl, cs = [f_params.val, f_lent.val, intV c.result, f_steps.val, intV c.body.result] ∧ InI c.result ∧ InI c.body.result ∧ ReadB B w f_params c.params ∧ ReadB B w f_lent c.lent ∧ ReadB B w f_steps c.body.steps
  mono := fun hs ⟨f1, f2, f3, h0, i1, i2, r1, r2, r3⟩ => ⟨f1, f2, f3, h0, i1, i2, r1.mono hs, r2.mono hs, r3.mono hs⟩
  len := fun ⟨f1, f2, f3, h0, _⟩ => by rw [h0]; rfl
  one := fun ⟨f1, f2, f3, h0, _⟩ v hv => by
    rw [h0] at hv; simp only [List.mem_cons, List.not_mem_nil, or_false] at hv
    rcases hv with rfl | rfl | rfl | rfl | rfl <;> rfl
def sgOf (r : RoutD) : SigD := ⟨r.params, r.lent, r.result⟩
/-! blocks: how many steps, and of what type -/
mutual
def cntB : BlockD → Nat
  | ⟨ss, _⟩ => cntL ss
def cntL : List (StepP BlockD) → Nat
  | [] => 0
  | s :: r => 1 + cntS s + cntL r
def cntS : StepP BlockD → Nat
  | ⟨_, _, _, _, ks⟩ => cntK ks
def cntK : List BlockD → Nat
  | [] => 0
  | b :: r => cntB b + cntK r
end
def isCnt (op : Int) : Prop := 14 ≤ op ∧ op ≤ 17
instance (op : Int) : Decidable (isCnt op) := inferInstanceAs (Decidable (14 ≤ op ∧ op ≤ 17))
/-- the arguments are variables in scope -/
def argsIn (vars args : List Int) : Prop := ∀ a ∈ args, 0 ≤ a ∧ a < vars.length
def intoIn (vars : List Int) (op into : Int) : Prop := into = 0 ∨ (op = 6 ∧ 1 ≤ into ∧ into ≤ vars.length ∧ nth vars (into - 1) ≠ 0)
def typs (vars args : List Int) : List Int := args.map (nth vars)
def cntOk (ds : List DeclD) (op num : Int) (T : List Int) : Prop := T.length = 1 ∧ nth T 0 ≠ 0 ∧ num = 0 ∧ (op = 16 ∨ op = 17 → ¬ isArr ds (nth T 0))
/-- the fields of the constructors of a type -/
noncomputable def armF (ds : List DeclD) (t : Int) : List (List Int) := (consL ds t).map (conF ds)
open Classical in
/-- the types that the arguments of a step without kids must have, and its own -/
noncomputable def wantB (ds : List DeclD) (ss : List SigD) (op num t0 : Int) : Option (List Int × Int) :=
  if op = 0 then (if -999 ≤ num ∧ num ≤ 999 then some ([], 0) else none)
  else if op = 1 ∨ op = 2 ∨ op = 3 ∨ op = 4 then (if num = 0 then some ([0, 0], 0) else none)
  else if op = 5 then (if num = 0 then some ([0], 0) else none)
  else if op = 6 then (if 0 < conTyV ds num then some (conF ds num, conTyV ds num) else none)
  else if op = 9 then (if 0 ≤ num ∧ num < ss.length then some ((nth ss num).params, (nth ss num).result) else none)
  else if op = 10 then (if 0 ≤ num ∧ num < ss.length ∧ 1 ≤ (nth ss num).params.length ∧ (nth ss num).lent.length = 0 ∧ 0 < arrI ds (nth (nth ss num).params (((nth ss num).params.length : Int) - 1)) (nth ss num).result then
    some ((nth ss num).params.take ((nth ss num).params.length - 1), arrI ds (nth (nth ss num).params (((nth ss num).params.length : Int) - 1)) (nth ss num).result) else none)
  else if op = 11 then (if num = 0 ∧ isArr ds t0 then some ([t0, (nth ds (t0 - 1)).frm], (nth ds (t0 - 1)).to_) else none)
  else none
noncomputable def simB (ds : List DeclD) (ss : List SigD) (op num : Int) (T : List Int) : Option Int :=
  match wantB ds ss op num (nth T 0) with
  | some (W, n) => if T = W then some n else none
  | none => none
/-- one type that all have -/
def same1 : List (Option Int) → Option Int
  | some t :: r => if ∀ q ∈ r, q = some t then some t else none
  | _ => none
section
open Classical
mutual
/-- the type of a block's result, in the scope of variables of some types -/
noncomputable def blkT (ds : List DeclD) (ss : List SigD) (vars : List Int) : BlockD → Option Int
  | ⟨steps, result⟩ => match stpsT ds ss vars steps with
    | none => none
    | some inner => if 0 ≤ result ∧ result < inner.length then some (nth inner result) else none
noncomputable def stpsT (ds : List DeclD) (ss : List SigD) (vars : List Int) : List (StepP BlockD) → Option (List Int)
  | [] => some vars
  | s :: r => match stpT ds ss vars s with
    | none => none
    | some t => stpsT ds ss (if isCnt s.op then vars else vars ++ [t]) r
noncomputable def stpT (ds : List DeclD) (ss : List SigD) (vars : List Int) : StepP BlockD → Option Int
  | ⟨op, num, into, args, kids⟩ =>
    if argsIn vars args ∧ intoIn vars op into then
      (if isCnt op then (if cntOk ds op num (typs vars args) ∧ kids.length = 0 then some 0 else none)
       else if op = 7 then (if typs vars args = [0] ∧ num = 0 ∧ kids.length = 2 then same1 (kidsT ds ss vars [[], []] kids) else none)
       else if op = 8 then (if typs vars args = [num] ∧ 0 < (armF ds num).length ∧ kids.length = (armF ds num).length then same1 (kidsT ds ss vars (armF ds num) kids) else none)
       else if kids.length = 0 then simB ds ss op num (typs vars args) else none)
    else none
noncomputable def kidsT (ds : List DeclD) (ss : List SigD) (vars : List Int) : List (List Int) → List BlockD → List (Option Int)
  | fs, b :: r => blkT ds ss (vars ++ nth fs 0) b :: kidsT ds ss vars (fs.drop 1) r
  | _, [] => []
end
end
section
variable {ds : List DeclD} {ss : List SigD} {vars : List Int} {b : BlockD} {s : StepD} {r : List StepD} {l : List BlockD} {fs : List (List Int)} {t n num op : Int} {T : List Int}
/-- no type is negative -/
def nonneg (l : List Int) : Prop := ∀ t ∈ l, 0 ≤ t ∧ t ≤ 4
theorem nonneg.app {a b : List Int} (h : nonneg a) (k : nonneg b) : nonneg (a ++ b) := fun t ht => (List.mem_append.1 ht).elim (h t) (k t)
theorem nonneg.nth {a : List Int} (h : nonneg a) {i : Int} (h0 : 0 ≤ i) (h1 : i < a.length) : 0 ≤ nth a i ∧ nth a i ≤ 4 := h _ (nth_mem h0 h1)
theorem conF_nn (h : typesOk ds) (n : Int) : nonneg (conF ds n) := by
  intro t ht
  obtain ⟨i, hi, rfl⟩ := List.getElem_of_mem ht
  have := conF_typ (n := n) (i := i) h (by omega) (by omega)
  rwa [nth_of (a := (conF ds n)[i]) (by simp [hi])] at this
theorem conF_len3 (h : typesOk ds) (n : Int) : (conF ds n).length ≤ 3 := by
  unfold conF
  split
  · simp
  · rcases conI_cases ds n with ⟨g1, _⟩ | ⟨g1, g2, ⟨q1, q2⟩, g4⟩
    · omega
    · exact ((declOk_easy (h.2 _ g1 g2)).2.2.2.2.1 _ (nth_mem (by omega) (by omega))).1
theorem conTyV_cases (ds : List DeclD) (n : Int) : conTyV ds n = -1 ∨ (1 ≤ conTyV ds n ∧ conTyV ds n ≤ ds.length) := by
  unfold conTyV
  rcases conI_cases ds n with ⟨g1, _⟩ | ⟨g1, g2, _⟩
  · rw [if_pos (by omega)]; exact .inl rfl
  · rw [if_neg (by omega)]; exact .inr ⟨by omega, by omega⟩
theorem sig_nn (h : sigSigs ds ss) {i : Int} (h0 : 0 ≤ i) (h1 : i < ss.length) : nonneg (nth ss i).params ∧ (0 ≤ (nth ss i).result ∧ (nth ss i).result ≤ 4) ∧ (nth ss i).params.length ≤ 3 := by
  obtain ⟨⟨p1, p2, p3⟩, _⟩ := h.2.2.2.2.2 i h0 h1
  have hl := h.1.1
  refine ⟨fun t ht => ?_, ?_, p1⟩
  · have := List.all_eq_true.1 p2 t ht
    unfold typeB at this; simp only [Bool.and_eq_true, decide_eq_true_eq] at this; omega
  · unfold typeB at p3; simp only [Bool.and_eq_true, decide_eq_true_eq] at p3; omega
theorem to_nn (h : typesOk ds) (ht : isArr ds t) : (0 ≤ (nth ds (t - 1)).to_ ∧ (nth ds (t - 1)).to_ ≤ 4) ∧ (0 ≤ (nth ds (t - 1)).frm ∧ (nth ds (t - 1)).frm ≤ 4) := by
  have hl := h.1
  have hd := h.2 (t - 1) (by have := ht.1; omega) (by have := ht.2.1; omega)
  unfold declOk at hd
  rw [if_neg (by have := ht.2.2; omega)] at hd
  obtain ⟨_, h2, h3⟩ := hd
  unfold typeB at h2 h3; simp only [Bool.and_eq_true, decide_eq_true_eq] at h2 h3
  omega
theorem arrI_cases (ds : List DeclD) (f t : Int) : arrI ds f t = -1 ∨ (1 ≤ arrI ds f t ∧ arrI ds f t ≤ ds.length) := by
  unfold arrI
  split
  · rename_i hex
    have := (leastM_spec hex).1
    exact .inr ⟨by omega, by omega⟩
  · exact .inl rfl
theorem simB_nn (h : sigSigs ds ss) (hs : simB ds ss op num T = some t) : 0 ≤ t ∧ t ≤ 4 := by
  have hl := h.1.1
  have hct := conTyV_cases ds num
  have har := arrI_cases ds (nth (nth ss num).params (((nth ss num).params.length : Int) - 1)) (nth ss num).result
  unfold simB at hs
  split at hs
  · rename_i W n hw
    split at hs
    · cases hs
      unfold wantB at hw
      repeat' split at hw
      all_goals first | (cases hw; done) | skip
      all_goals first | (cases hw; omega) | skip
      all_goals
        rename_i hc
        simp only [Option.some.injEq, Prod.mk.injEq] at hw
        obtain ⟨_, rfl⟩ := hw
        first
          | omega
          | exact (sig_nn h hc.1 hc.2).2.1
          | exact (to_nn h.1 hc.2).1
    · cases hs
  · cases hs
theorem same1_some {l : List (Option Int)} (h : same1 l = some t) : ∀ q ∈ l, q = some t := by
  unfold same1 at h
  split at h
  · rename_i t' r
    split at h
    · rename_i hr
      cases h
      intro q hq
      rcases List.mem_cons.1 hq with e | hq
      · exact e
      · exact hr q hq
    · cases h
  · cases h
theorem same1_of {l : List (Option Int)} (h : ∀ q ∈ l, q = some t) (hl : l ≠ []) : same1 l = some t := by
  match l, hl, h with
  | q :: r, _, h =>
    have e := h q (by simp)
    subst e
    exact if_pos fun q hq => h q (List.mem_cons_of_mem _ hq)
end
end Go.Vc

namespace Go.Vc
open Go Go.Proofs Go.RowKit
set_option linter.all false
/-- a normal form in memory, its signatures valid -/
structure Nrm (v : World) (x y : Sl) (ds : List DeclD) (rs : List RoutD) : Prop where
  hx : Read v x ds
  hy : Read v y rs
  sg : sigSigs ds (rs.map sgOf)
theorem Nrm.mono {v w : World} {x y : Sl} {ds : List DeclD} {rs : List RoutD} (h : Nrm v x y ds rs) (hs : Sub v w) : Nrm w x y ds rs := ⟨h.hx.mono hs, h.hy.mono hs, h.sg⟩
theorem Nrm.sm {v : World} {x y : Sl} {ds : List DeclD} {rs : List RoutD} (h : Nrm v x y ds rs) : SmDs ds := h.sg.1.sm
section
variable {u v w : World} {x y z ax kx tx xs : Sl} {vars args T : List Int} {ds : List DeclD} {rs : List RoutD} {n i t op num into : Int} {c : StepD} {b : BlockD}
end
end Go.Vc

namespace Go.Vc
open Go Go.Proofs Go.RowKit
set_option linter.all false
section
variable {u v w : World} {x y z ax kx tx xs : Sl} {vars args T : List Int} {ds : List DeclD} {rs : List RoutD} {n i t op num into : Int} {c : StepD} {b : BlockD}
/-- the type of a step, or -1 -/
noncomputable def gD (o : Option Int) : Int := o.getD (-1)
theorem gD_some : gD (some t) = t := rfl
theorem gD_none : gD none = -1 := rfl
open Classical in
end
end Go.Vc

namespace Go.Vc
open Go Go.Proofs Go.RowKit
set_option linter.all false
section
variable {u v w : World} {x y z ax kx tx xs : Sl} {vars args T W : List Int} {ds : List DeclD} {rs : List RoutD} {ss : List SigD} {n i t op num into : Int} {c : StepD} {b : BlockD} {kids : List BlockD} {fs : List (List Int)}
theorem wantB_other (ho : ¬ (0 ≤ op ∧ op ≤ 6) ∧ ¬ (9 ≤ op ∧ op ≤ 11)) : wantB ds ss op num t = none := by
  (unfold wantB; repeat (first | rw [if_neg (by omega)] | rw [if_pos (by omega)]))
theorem gD_eq {o : Option Int} (h : 0 ≤ gD o) : o = some (gD o) := by
  cases o with
  | none => unfold gD at h; simp at h
  | some t => rfl
theorem c_extend (hx : Read v z vars) (hy : Read v ax args) (hb : vars.length + args.length ≤ 1099511627776) : Mk Try.prog 36 #[z.val, ax.val] v fun r J => ∃ y, r = y.val ∧ Own v y (vars ++ args) J := by
  refine of36 _ _ _ _ ?_
  unfold vc36
  refine Mk.use (c_copyInts hx) (.refl v) ?_
  rintro _ w1 J ⟨y, rfl, hO⟩ hS hs
  refine ⟨_, rfl, ?_⟩
  refine hO.append hS (.ofInts (hy.mono hs)) hb (by decide) ?_
  intro y2 w2 I2 hO2 hS2
  exact ⟨_, rfl, I2, by simpa using hS2, y2, rfl, hO2⟩
theorem c_consOfB (hx : Read v x ds) (hd : SmDs ds) (hn : InI n) : Mk Try.prog 75 #[x.val, .int .i64 n] v fun r J => ∃ z, r = z.val ∧ Own v z (consL ds n) J :=
  c_consOf hx hn (by have := hd.len; omega) (fun d h => by have := hd.cons d h; omega) fun i i0 i1 => by have := hd.fc i.toNat (by omega); omega
end
end Go.Vc

namespace Go.Vc
open Go Go.Proofs Go.RowKit
set_option linter.all false
section
variable {u v w : World} {x y z ax kx tx xs : Sl} {vars args T W : List Int} {ds : List DeclD} {rs : List RoutD} {ss : List SigD} {n i t op num into : Int} {c : StepD} {b : BlockD} {kids : List BlockD} {fs : List (List Int)}
end
end Go.Vc

namespace Go.Vc
open Go Go.Proofs Go.RowKit
set_option linter.all false
theorem wrap_low {c : Int} (h : c < -9223372036854775808) (h2 : -18446744073709551616 ≤ c) : IntKind.wrap .i64 c = c + 18446744073709551616 := by
  have e : c % 2 ^ IntKind.i64.bits = c + 18446744073709551616 := by
    show c % 18446744073709551616 = _
    omega
  have hd : (IntKind.i64.signed && decide (c % 2 ^ IntKind.i64.bits ≥ 2 ^ (IntKind.i64.bits - 1))) = false := by
    simp only [e]
    show (true && decide (c + 18446744073709551616 ≥ 9223372036854775808)) = false
    rw [decide_eq_false (by omega)]; rfl
  unfold IntKind.wrap
  dsimp only
  rw [if_neg (by rw [hd]; exact Bool.false_ne_true), e]
/-- cap(x) -/
theorem stepT_cap {P : Program} {t e ty : TypeId} {x : Sl} {v : World} {Q : Value → World → Prop} (ht : P.underlying t = some (.slice e)) (k : Q (.int .i64 (x.c : Int)) v) : StepT P (Builtin.cap_ #[t] ty #[x.val]) v Q := by
  intro w hs
  refine ⟨.int .i64 (x.c : Int), w, v, ?_, ⟨hs, Nat.le_refl _, rfl, rfl, rfl, fun b hb ho => ⟨ho, rfl⟩⟩, k⟩
  simp [Builtin.cap_, run_underlying ht, Sl.val, goInt]
/-- make([]int, 0, n) -/
theorem stepT_make0 {P : Program} {t e : TypeId} {i : TypeInfo} {z : Value} (ht : P.underlying t = some (.slice e)) (hi : P.info? e = some i) (hz : i.zero = some z) {n : Int} {v : World} {Q : Value → World → Prop}
    (h0 : 0 ≤ n) (hb : i.bytes * n.toNat ≤ 281474976710656) (h63 : n ≤ 9223372036854775807)
    (h : ∀ (g : Nat) (w' : World), v.heap.size ≤ g → Sub v w' → w'.heap[g]? = some (.cells (madeCells z.cells (n.toNat * i.size)) e (0, 0)) → Q (Sl.mk (some ⟨g, 0, none⟩) 0 n.toNat).val w') :
    StepT P (Instr.makeSlice t (.int .i64 0) (.int .i64 n)) v Q := by
  intro w hs
  obtain ⟨m, rfl⟩ := Int.eq_ofNat_of_zero_le h0
  simp only [Int.toNat_natCast] at *
  have hr := run_makeN (P := P) t e i z ht hi hz .i64 .i64 0 m (Nat.zero_le _) hb (by omega) w
  obtain ⟨v', fr, hk⟩ := newAt_step (o := .cells (madeCells z.cells (m * i.size)) e) (Q := fun a w' => ∃ g, a = ⟨g, 0, none⟩ ∧ Q (Sl.mk (some ⟨g, 0, none⟩) 0 m).val w') hs (fun g w' hg hsub hh => ⟨g, rfl, h g w' hg hsub hh⟩)
  obtain ⟨g, hg, hq⟩ := hk
  cases hg
  exact ⟨_, _, v', hr, fr, hq⟩
section
variable {α : Type} [Dat α] {u v w : World} {x y z ax kx tx xs s : Sl} {vars args T W l : List Int} {ds : List DeclD} {rs : List RoutD} {ss : List SigD} {n i t op num into m : Int} {c : StepD} {b : BlockD} {kids : List BlockD} {fs : List (List Int)} {L I R : Items}
theorem St.make0 {P : Program} {t : TypeId} {bytes : Nat} {zc : List Value} [hT : SlT P t (Dat.sz α) bytes zc] {n : Int} {Q : Value → World → Prop} (hS : St u w L) (h0 : 0 ≤ n) (hn : n ≤ 1099511627776) (hby : bytes ≤ 128)
    (k : ∀ x w' I, Own u x ([] : List α) I → St u w' (I ++ L) → Sub w w' → Q x.val w') : StepT P (Instr.makeSlice t (.int .i64 0) (.int .i64 n)) w Q := by
  obtain ⟨e, i, z, ht, hi2, hz, hsize, hby2, hzc, hzl, hpos⟩ := hT.ex
  have hb : i.bytes * n.toNat ≤ 128 * 1099511627776 := Nat.mul_le_mul (by omega) (by omega)
  refine stepT_make0 ht hi2 hz h0 (by omega) (by omega) fun g w' hg hs ho => ?_
  refine k _ w' _ ⟨[], .blk g 0 0 n.toNat _ e _ rfl (Nat.zero_le _) (by simp only [maxLen]; omega) (by simp [size_madeCells, hsize]) fun q r hr => (by simp at hr), ⟨rfl, fun q r a hr => (by simp at hr)⟩, Nat.zero_le _⟩ (hS.new hg hs ho (by simp [absent])) hs
instance : SlT Try.prog 75 1 24 [.slice none 0 0] := .of (by kernel_rfl) rfl (by decide)
theorem c_grow0 (h0 : 0 ≤ n) (hn : n ≤ 1000000000) : Mk Try.prog 85 #[.slice none 0 0, .int .i64 n] v fun r J => ∃ z, r = z.val ∧ Own v z ([] : List Int) J := by
  refine of85 (Sl.mk none 0 0) _ _ _ ?_
  unfold vc85
  refine ⟨fun hc => ?_, fun hc => ?_⟩
  · simp only [bls] at hc; omega
  clear hc
  refine stepT_cap (x := Sl.mk none 0 0) Try.underlying27 ?_
  refine ⟨_, rfl, ?_⟩
  refine go_wr (by simp) (by simp) ?_
  refine go_wr (by simp; omega) (by simp; omega) ?_
  refine ⟨fun hc => ?_, fun hc => ?_⟩
  · simp only [bls] at hc
    refine stepT_cap (x := Sl.mk none 0 0) Try.underlying27 ?_
    refine ⟨_, rfl, ⟨by simp, by simp, by simp⟩, ?_⟩
    have hcut := (Own.nil (α := Int) v).cut (lo := 0) (hi := 0) (by omega) (by omega) (by simp)
    rw [show n - (((0 : Nat) : Int) - ((0 : Nat) : Int)) = ((n.toNat : Nat) : Int) from by omega] at hc ⊢
    refine Own.appendZ (m := n.toNat) (tn := 3) Try.underlying3 hcut (show St v v ([] ++ []) from St.refl v) (by omega) (by simp; omega) (by decide) ?_
    intro x' w' I' hO hS
    refine ⟨_, rfl, ⟨by simp, by simp, by simp⟩, ?_⟩
    have hc2 := hO.cut (lo := 0) (hi := 0) (by omega) (by omega) (by simp; omega)
    exact ⟨I', by simpa using hS, _, rfl, hc2⟩
  · exact ⟨[], St.refl v, Sl.mk none 0 0, rfl, Own.nil v⟩
theorem c_concat2 {a b : List Int} (hx : Read v x [a, b]) (ha : a.length ≤ 1000000) (hb : b.length ≤ 1000000) : Mk Try.prog 67 #[x.val] v fun r J => ∃ z, r = z.val ∧ Own v z (a ++ b) J := by
  refine of67 _ _ _ ?_
  unfold vc67
  have hxn := hx.n
  simp only [List.length_cons, List.length_nil] at hxn
  have hel : ∀ i : Int, 0 ≤ i → i < 2 → ∃ g : Sl, v.cell? ((elA x i 1).add 0) = some g.val ∧ Read v g (nth [a, b] i) := by
    intro i h0 h1
    obtain ⟨r, ⟨g, rfl, hr⟩, hc⟩ := hx.row (i := i) h0 (by simpa using h1)
    exact ⟨g, hc 0 _ rfl, hr⟩
  have hlen : ∀ i : Int, 0 ≤ i → i < 2 → (nth [a, b] i).length ≤ 1000000 := by
    intro i h0 h1
    rcases (show i = 0 ∨ i = 1 from by omega) with rfl | rfl
    · exact ha
    · exact hb
  refine ⟨fun n i w => w = v ∧ 0 ≤ i ∧ i ≤ 2 ∧ 0 ≤ n ∧ n ≤ i * 1000000, fun _ i _ => (2 - i).toNat, ⟨rfl, by omega, by omega, by omega, by omega⟩, ?_⟩
  rintro n i _ ⟨rfl, i0, i1, n0, n1⟩
  dsimp only
  refine ⟨fun hi => ?_, fun hi => ?_⟩
  · simp only [bls] at hi
    obtain ⟨g, hg, hr⟩ := hel i i0 (by omega)
    have hgn := hr.n
    have hgl := hlen i i0 (by omega)
    refine go_ix hx i0 (by simp; omega) ?_
    refine ⟨g, hg, ?_⟩
    refine go_wr (by omega) (by omega) ?_
    refine ⟨fun hc => ?_, fun hc => ?_⟩
    · simp only [bls] at hc; omega
    refine go_wr (by omega) (by omega) ?_
    exact ⟨⟨rfl, by omega, by omega, by omega, by omega⟩, by omega⟩
  clear hi
  refine Mk.use (c_grow0 n0 (by omega)) (.refl _) ?_
  rintro _ w1 J1 ⟨z1, rfl, hO1⟩ hS hs
  refine ⟨_, rfl, ?_⟩
  rename_i v
  refine ⟨fun z i w => ∃ I, Own v z (([a, b].take i.toNat).flatten) I ∧ St v w (I ++ []) ∧ 0 ≤ i ∧ i ≤ 2, fun _ i _ => (2 - i).toNat, ⟨J1, by simpa using hO1, hS, by omega, by omega⟩, ?_⟩
  clear hO1 hS hs
  rintro z i w ⟨I, hO, hS, i0, i1⟩
  dsimp only
  refine ⟨fun hi => ?_, fun hi => ?_⟩
  · simp only [bls] at hi
    obtain ⟨g, hg, hr⟩ := hel i i0 (by omega)
    have hgl := hlen i i0 (by omega)
    refine go_ix hx i0 (by simp; omega) ?_
    refine ⟨g, cell_sub hS.sub hg, ?_⟩
    have hle : (([a, b].take i.toNat).flatten).length ≤ 2000000 := by
      rcases (show i = 0 ∨ i = 1 from by omega) with rfl | rfl
      · simp
      · simp; omega
    refine hO.append hS (.ofInts (hr.mono hS.sub)) (by omega) (by decide) ?_
    intro z2 w2 I2 hO2 hS2
    refine ⟨_, rfl, ?_⟩
    refine go_wr (by omega) (by omega) ?_
    refine ⟨⟨I2, ?_, hS2, by omega, by omega⟩, by omega⟩
    rw [take_nth i0 (by simp; omega), List.flatten_append]
    simpa using hO2
  · simp only [bls] at hi
    rw [show i = 2 from by omega] at hO
    exact ⟨I, by simpa using hS, z, rfl, by simpa using hO⟩
/-- the program's own look-up of a constructor, of any number -/
theorem c_conAtA (hx : Read v x ds) (hd : SmDs ds) (hn : InI n) : ∃ z : Sl, Read v z (conF ds n) ∧ Fn Try.prog 69 #[x.val, .int .i64 n] v (.tuple #[.int .i64 (conTyV ds n), .agg #[z.val]]) := by
  by_cases hsm : -1000000 ≤ n ∧ n ≤ 1000000
  · exact c_conAt hx hd hsm
  have hxn := hx.n
  have hlen := hd.len
  obtain ⟨hn1, hn2⟩ := hn
  have hno : ∀ i : Int, 0 ≤ i → i < ds.length → ¬ conTyOk ds n i := by
    rintro i i0 i1 ⟨q1, q2⟩
    have hfc := hd.fc i.toNat (by omega)
    have hcl := hd.cons _ (nth_mem (l := ds) i0 i1)
    omega
  have hci := conI_none hno
  refine ⟨Sl.mk none 0 0, ?_, ?_⟩
  · unfold conF
    rw [if_pos (by omega)]
    exact ReadB.nil
  refine of69 _ _ _ _ ?_
  unfold vc69
  refine ⟨fun c i w => Sub v w ∧ 0 ≤ i ∧ i ≤ ds.length ∧ InI c ∧ (c < -900000 ∨ 900000 < c) ∧ ((n < 0 → (c = n - firstC ds i.toNat ∨ 900000 < c ∧ 9223372036854775800 ≤ c + i * 3 ∧ n < -9223372036854775700)) ∧ (0 < n → c = n - firstC ds i.toNat)), fun _ i _ => (ds.length - i).toNat, ⟨.refl v, by omega, by omega, ⟨hn1, hn2⟩, by omega, fun _ => .inl (by simp [firstC]), fun _ => by simp [firstC]⟩, ?_⟩
  rintro c i w ⟨hs, i0, i1, ⟨c0, c1⟩, hbig, hneg, hpos⟩
  dsimp only
  refine ⟨fun hi => ?_, fun hi => ?_⟩
  · simp only [bls] at hi
    have hil : i < ds.length := by omega
    have hfc := hd.fc i.toNat (by omega)
    have hfc1 := hd.fc (i + 1).toNat (by omega)
    have hfs := firstC_succ (ds := ds) i0 hil
    obtain ⟨f_cons, e1, e2, e3, j1, j2, r1⟩ := (hx.src hs).ofDeclD i0 hil
    have hfn := r1.n
    have hcl := hd.cons _ (nth_mem (l := ds) i0 hil)
    refine go_ix hx i0 hil ?_
    refine ⟨_, _, f_cons, ⟨e1, e2, e3⟩, fun hq => ?_, fun hq => ?_⟩
    · simp only [bls] at hq
      omega
    · refine go_wrap fun r hr => ?_
      have hrc : (r = c - f_cons.n ∧ -9223372036854775808 ≤ c - f_cons.n) ∨ (c - f_cons.n < -9223372036854775808 ∧ r = c - f_cons.n + 18446744073709551616) := by
        rcases Int.lt_or_le (c - f_cons.n) (-9223372036854775808) with hlt | hge
        · refine .inr ⟨hlt, ?_⟩
          rw [← hr]
          have := wrap_low hlt (by omega)
          exact this
        · refine .inl ⟨?_, hge⟩
          rw [← hr]
          exact wrap_i64 hge (by omega)
      refine go_wr (by omega) (by omega) ?_
      refine ⟨rfl, ⟨hs, by omega, by omega, ⟨by omega, by omega⟩, by omega, fun hn => ?_, fun hn => ?_⟩, by omega⟩
      · have := hneg hn
        omega
      · have := hpos hn
        omega
  · simp only [bls] at hi
    refine ⟨?_, hs⟩
    unfold conTyV
    rw [hci, if_pos (by omega)]
    rfl
end
end Go.Vc

namespace Go.Vc
open Go Go.Proofs Go.RowKit
set_option linter.all false
/-- a type and whether there is one -/
def TyR (n : Int) (q : Bool) (o : Option Int) : Prop := (q = true → o = some n) ∧ (q = false → o = none)
section
variable {u v w : World} {x y z ax kx tx xs s : Sl} {vars args T W : List Int} {ds : List DeclD} {rs : List RoutD} {ss : List SigD} {n i t op num into : Int} {c : StepD} {b : BlockD} {kids : List BlockD} {fs : List (List Int)} {q : Bool}
theorem tyR_w (hw : wantB ds ss op num (nth T 0) = some (W, n)) : TyR n (decide (T = W)) (simB ds ss op num T) := by
  refine ⟨fun hq => ?_, fun hq => ?_⟩ <;> unfold simB <;> rw [hw] <;> dsimp only
  · rw [if_pos (of_decide_eq_true hq)]
  · rw [if_neg (of_decide_eq_false hq)]
theorem tyR_n (hw : wantB ds ss op num (nth T 0) = none) : TyR n false (simB ds ss op num T) := by
  refine ⟨fun hq => (by cases hq), fun hq => ?_⟩
  unfold simB; rw [hw]
theorem tyR_c {C : Prop} [Decidable C] (h1 : C → wantB ds ss op num (nth T 0) = some (W, n)) (h2 : ¬ C → wantB ds ss op num (nth T 0) = none) : TyR n (decide C && decide (T = W)) (simB ds ss op num T) := by
  by_cases hc : C
  · rw [decide_eq_true hc, Bool.true_and]; exact tyR_w (h1 hc)
  · rw [decide_eq_false hc, Bool.false_and]; exact tyR_n (h2 hc)
theorem c_simpleTypeA (hx : Read v x ds) (hs : Read v s ss) (hT : Read v tx T) (hsg : sigSigs ds ss) (hn : InI num) (hlent : op = 10 → 0 ≤ num → num < ss.length → (nth ss num).lent.length = 0) :
    ∃ (n : Int) (q : Bool), Fn Try.prog 44 #[.agg #[x.val, s.val], .int .i64 op, .int .i64 num, tx.val] v (.tuple #[.int .i64 n, .bool q]) ∧ TyR n q (simB ds ss op num T) := by
  classical
  have hTn := hT.n
  have hsn := hs.n
  have hS := St.refl v
  by_cases o0 : op = 0
  · refine ⟨0, decide (-999 ≤ num ∧ num ≤ 999) && decide (T = []), ?_, tyR_c (fun h => by unfold wantB; rw [if_pos o0, if_pos h]) (fun h => by unfold wantB; rw [if_pos o0, if_neg h])⟩
    refine of44 _ _ _ _ _ _ _ ?_
    unfold vc44
    repeat (first | refine ⟨fun h => absurd (of_decide_eq_true h) (by omega), fun _ => ?_⟩ | refine ⟨fun _ => ?_, fun h => absurd (of_decide_eq_false h) (by omega)⟩)
    refine ⟨?_, .refl _⟩
    have e : ((decide (num ≥ (-999)) && decide (num ≤ 999)) && decide ((tx.n : Int) = 0)) = (decide (-999 ≤ num ∧ num ≤ 999) && decide (T = [])) := by
      rw [Bool.eq_iff_iff]
      simp only [Bool.and_eq_true, decide_eq_true_eq, ← List.length_eq_zero_iff]
      constructor
      · intro h; omega
      · intro h; omega
    rw [e]
  by_cases o1 : op = 1 ∨ op = 2 ∨ op = 3 ∨ op = 4
  · refine ⟨0, decide (num = 0) && decide (T = [0, 0]), ?_, tyR_c (fun h => by unfold wantB; rw [if_neg o0, if_pos o1, if_pos h]) (fun h => by unfold wantB; rw [if_neg o0, if_pos o1, if_neg h])⟩
    refine of44 _ _ _ _ _ _ _ ?_
    unfold vc44
    rcases o1 with o1 | o1 | o1 | o1
    all_goals
      repeat (first | refine ⟨fun h => absurd (of_decide_eq_true h) (by omega), fun _ => ?_⟩ | refine ⟨fun _ => ?_, fun h => absurd (of_decide_eq_false h) (by omega)⟩)
      refine St.build (α := Int) hS (by (repeat' (first | exact VsOf.nil | apply VsOf.cons | (apply VOf.int; first | assumption | (constructor <;> first | omega | (simp only [List.length_set, List.length_append, List.length_replicate, List.length_cons, List.length_nil, List.length_take, List.length_drop, List.length_map, List.length_singleton] at *; omega))) | exact VOf.bool | exact VOf.str))) rfl (by decide) ?_
      intro z w1 J hO hS hs
      exact ⟨_, rfl, _, fun _ => c_slicesEqualK (hT.mono hs) (hO.read hS), rfl, hS.sub⟩
  by_cases o5 : op = 5
  · refine ⟨0, decide (num = 0) && decide (T = [0]), ?_, tyR_c (fun h => by unfold wantB; rw [if_neg o0, if_neg o1, if_pos o5, if_pos h]) (fun h => by unfold wantB; rw [if_neg o0, if_neg o1, if_pos o5, if_neg h])⟩
    refine of44 _ _ _ _ _ _ _ ?_
    unfold vc44
    repeat (first | refine ⟨fun h => absurd (of_decide_eq_true h) (by omega), fun _ => ?_⟩ | refine ⟨fun _ => ?_, fun h => absurd (of_decide_eq_false h) (by omega)⟩)
    refine St.build (α := Int) hS (by (repeat' (first | exact VsOf.nil | apply VsOf.cons | (apply VOf.int; first | assumption | (constructor <;> first | omega | (simp only [List.length_set, List.length_append, List.length_replicate, List.length_cons, List.length_nil, List.length_take, List.length_drop, List.length_map, List.length_singleton] at *; omega))) | exact VOf.bool | exact VOf.str))) rfl (by decide) ?_
    intro z w1 J hO hS hs
    exact ⟨_, rfl, _, fun _ => c_slicesEqualK (hT.mono hs) (hO.read hS), rfl, hS.sub⟩
  by_cases o6 : op = 6
  · obtain ⟨z, hz, hf⟩ := c_conAtA (n := num) hx hsg.1.sm hn
    have hct := conTyV_cases ds num
    refine ⟨conTyV ds num, decide (conTyV ds num ≥ 0) && decide (T = conF ds num), ?_, tyR_c (fun h => by unfold wantB; rw [if_neg o0, if_neg o1, if_neg o5, if_pos o6, if_pos (by omega)]) (fun h => by unfold wantB; rw [if_neg o0, if_neg o1, if_neg o5, if_pos o6, if_neg (by omega)])⟩
    refine of44 _ _ _ _ _ _ _ ?_
    unfold vc44
    repeat (first | refine ⟨fun h => absurd (of_decide_eq_true h) (by omega), fun _ => ?_⟩ | refine ⟨fun _ => ?_, fun h => absurd (of_decide_eq_false h) (by omega)⟩)
    exact ⟨_, z, hf, _, fun _ => c_slicesEqualK hT hz, rfl, hS.sub⟩
  by_cases o9 : op = 9
  · by_cases hb : 0 ≤ num ∧ num < ss.length
    · obtain ⟨px', lx', e1, e2, e3, i1, r1, r2⟩ := (hs.src (.refl v)).ofSigD hb.1 hb.2
      refine ⟨(nth ss num).result, decide (T = (nth ss num).params), ?_, tyR_w (by unfold wantB; rw [if_neg o0, if_neg o1, if_neg o5, if_neg o6, if_pos o9, if_pos hb])⟩
      refine of44 _ _ _ _ _ _ _ ?_
      unfold vc44
      repeat (first | refine ⟨fun h => absurd (of_decide_eq_true h) (by omega), fun _ => ?_⟩ | refine ⟨fun _ => ?_, fun h => absurd (of_decide_eq_false h) (by omega)⟩)
      refine ⟨fun hq => ?_, fun hq => ?_⟩
      · simp only [bls] at hq; omega
      refine ⟨hs.ix hb.1 hb.2, px', e1, hs.ix hb.1 hb.2, _, e3, ?_⟩
      repeat (first | refine ⟨fun h => absurd (of_decide_eq_true h) (by omega), fun _ => ?_⟩ | refine ⟨fun _ => ?_, fun h => absurd (of_decide_eq_false h) (by omega)⟩)
      exact ⟨_, c_slicesEqualK hT r1, rfl, hS.sub⟩
    · refine ⟨-1, false, ?_, tyR_n (by unfold wantB; rw [if_neg o0, if_neg o1, if_neg o5, if_neg o6, if_pos o9, if_neg hb])⟩
      refine of44 _ _ _ _ _ _ _ ?_
      unfold vc44
      repeat (first | refine ⟨fun h => absurd (of_decide_eq_true h) (by omega), fun _ => ?_⟩ | refine ⟨fun _ => ?_, fun h => absurd (of_decide_eq_false h) (by omega)⟩)
      refine ⟨fun hq => ⟨rfl, hS.sub⟩, fun hq => ?_⟩
      simp only [bls] at hq; omega
  by_cases o10 : op = 10
  · by_cases hb : 0 ≤ num ∧ num < ss.length
    · have hl0 := hlent o10 hb.1 hb.2
      have hpl : (nth ss num).params.length ≤ 3 := (hsg.2.2.2.2.2 num hb.1 hb.2).1.1
      have hbd := arrI_cases ds (nth (nth ss num).params (((nth ss num).params.length : Int) - 1)) (nth ss num).result
      obtain ⟨px', lx', e1, e2, e3, i1, r1, r2⟩ := (hs.src (.refl v)).ofSigD hb.1 hb.2
      have hpn := r1.n
      have hcap : px'.n ≤ px'.c := by obtain ⟨rows, hr, _⟩ := r1; exact hr.2.1
      by_cases hp1 : 1 ≤ (nth ss num).params.length
      · have hcut := r1.cut (lo := 0) (hi := ((nth ss num).params.length : Int) - 1) (by omega) (by omega) (by omega)
        rw [show (((nth ss num).params.length : Int) - 1).toNat = (nth ss num).params.length - 1 from by omega, show ((0 : Int)).toNat = 0 from rfl, List.drop_zero] at hcut
        refine ⟨arrI ds (nth (nth ss num).params (((nth ss num).params.length : Int) - 1)) (nth ss num).result, decide (arrI ds (nth (nth ss num).params (((nth ss num).params.length : Int) - 1)) (nth ss num).result ≥ 0) && decide (T = (nth ss num).params.take ((nth ss num).params.length - 1)), ?_,
          tyR_c (fun h => by unfold wantB; rw [if_neg o0, if_neg o1, if_neg o5, if_neg o6, if_neg o9, if_pos o10, if_pos ⟨hb.1, hb.2, hp1, hl0, by omega⟩]) (fun h => by unfold wantB; rw [if_neg o0, if_neg o1, if_neg o5, if_neg o6, if_neg o9, if_pos o10, if_neg (fun hh => h (by omega))])⟩
        refine of44 _ _ _ _ _ _ _ ?_
        unfold vc44
        repeat (first | refine ⟨fun h => absurd (of_decide_eq_true h) (by omega), fun _ => ?_⟩ | refine ⟨fun _ => ?_, fun h => absurd (of_decide_eq_false h) (by omega)⟩)
        refine ⟨fun hq => ?_, fun hq => ?_⟩
        · simp only [bls] at hq; omega
        refine ⟨hs.ix hb.1 hb.2, px', e1, hs.ix hb.1 hb.2, _, e3, ?_⟩
        refine ⟨fun h => absurd (of_decide_eq_true h) (by omega), fun _ => ?_⟩
        rw [hpn]
        refine go_wr (by omega) (by omega) ?_
        refine ⟨fun hq => ?_, fun hq => ?_⟩
        · simp only [bls] at hq; omega
        refine go_ix r1 (by omega) (by omega) ?_
        refine ld_int r1 (by omega) (by omega) fun _ _ => ?_
        refine ⟨_, c_kArrowOf hx hsg.1.1, ?_⟩
        exact ⟨fun _ => ⟨by omega, by omega, by omega⟩, _, fun _ => c_slicesEqualK hT hcut, rfl, hS.sub⟩
      · refine ⟨-1, false, ?_, tyR_n (by unfold wantB; rw [if_neg o0, if_neg o1, if_neg o5, if_neg o6, if_neg o9, if_pos o10, if_neg (fun hh => hp1 hh.2.2.1)])⟩
        refine of44 _ _ _ _ _ _ _ ?_
        unfold vc44
        repeat (first | refine ⟨fun h => absurd (of_decide_eq_true h) (by omega), fun _ => ?_⟩ | refine ⟨fun _ => ?_, fun h => absurd (of_decide_eq_false h) (by omega)⟩)
        refine ⟨fun hq => ?_, fun hq => ?_⟩
        · simp only [bls] at hq; omega
        refine ⟨hs.ix hb.1 hb.2, px', e1, hs.ix hb.1 hb.2, _, e3, ?_⟩
        refine ⟨fun h => absurd (of_decide_eq_true h) (by omega), fun _ => ?_⟩
        rw [hpn]
        refine go_wr (by omega) (by omega) ?_
        refine ⟨fun hq => ⟨rfl, hS.sub⟩, fun hq => ?_⟩
        simp only [bls] at hq; omega
    · refine ⟨-1, false, ?_, tyR_n (by unfold wantB; rw [if_neg o0, if_neg o1, if_neg o5, if_neg o6, if_neg o9, if_pos o10, if_neg (fun hh => hb ⟨hh.1, hh.2.1⟩)])⟩
      refine of44 _ _ _ _ _ _ _ ?_
      unfold vc44
      repeat (first | refine ⟨fun h => absurd (of_decide_eq_true h) (by omega), fun _ => ?_⟩ | refine ⟨fun _ => ?_, fun h => absurd (of_decide_eq_false h) (by omega)⟩)
      refine ⟨fun hq => ⟨rfl, hS.sub⟩, fun hq => ?_⟩
      simp only [bls] at hq; omega
  by_cases o11 : op = 11
  · have hw : wantB ds ss op num (nth T 0) = if num = 0 ∧ isArr ds (nth T 0) then some ([nth T 0, (nth ds (nth T 0 - 1)).frm], (nth ds (nth T 0 - 1)).to_) else none := by
      unfold wantB; rw [if_neg o0, if_neg o1, if_neg o5, if_neg o6, if_neg o9, if_neg o10, if_pos o11]
    by_cases hl2 : T.length = 2
    · obtain ⟨b, cc, z, q, hq1, hq2, hf⟩ := c_arrowAt (t := nth T 0) hx hsg.1.1
      have hTe : T = [nth T 0, nth T 1] := two_el hl2
      refine ⟨cc, (q && decide (nth T 1 = b)) && decide (num = 0), ?_, fun hq => ?_, fun hq => ?_⟩
      · refine of44 _ _ _ _ _ _ _ ?_
        unfold vc44
        repeat (first | refine ⟨fun h => absurd (of_decide_eq_true h) (by omega), fun _ => ?_⟩ | refine ⟨fun _ => ?_, fun h => absurd (of_decide_eq_false h) (by omega)⟩)
        refine ⟨fun hq => ?_, fun hq => ?_⟩
        · simp only [bls] at hq; omega
        refine go_ix hT (by omega) (by omega) ?_
        refine ld_int hT (by omega) (by omega) fun _ _ => ?_
        refine ⟨b, cc, z, q, hf, .refl _, ?_⟩
        refine go_ixg hT (fun _ => by omega) ?_
        refine ld_intg hT (fun _ => by omega) ?_
        exact ⟨rfl, .refl _⟩
      · simp only [Bool.and_eq_true, decide_eq_true_eq] at hq
        obtain ⟨⟨g1, g2⟩, g3⟩ := hq
        obtain ⟨e1, e2⟩ := hq2 g1
        unfold simB
        rw [hw, if_pos ⟨g3, hq1.1 g1⟩]
        dsimp only
        rw [if_pos (by rw [← e1, ← g2]; exact hTe), ← e2]
      · unfold simB
        rw [hw]
        by_cases hh : num = 0 ∧ isArr ds (nth T 0)
        · rw [if_pos hh]
          dsimp only
          have hqt := hq1.2 hh.2
          obtain ⟨e1, e2⟩ := hq2 hqt
          rw [if_neg]
          intro he
          rw [hqt, decide_eq_true hh.1] at hq
          simp only [Bool.true_and, Bool.and_true, decide_eq_false_iff_not] at hq
          apply hq
          rw [e1, he]
          rfl
        · rw [if_neg hh]
    · refine ⟨-1, false, ?_, fun hq => (by cases hq), fun hq => ?_⟩
      · refine of44 _ _ _ _ _ _ _ ?_
        unfold vc44
        repeat (first | refine ⟨fun h => absurd (of_decide_eq_true h) (by omega), fun _ => ?_⟩ | refine ⟨fun _ => ?_, fun h => absurd (of_decide_eq_false h) (by omega)⟩)
        refine ⟨fun hq => ⟨rfl, hS.sub⟩, fun hq => ?_⟩
        simp only [bls] at hq; omega
      · unfold simB
        rw [hw]
        split
        · rename_i W' n' he
          split at he
          · cases he
            rw [if_neg]
            intro he
            apply hl2
            rw [he]; rfl
          · cases he
        · rfl
  · refine ⟨-1, false, ?_, tyR_n (wantB_other (by omega))⟩
    refine of44 _ _ _ _ _ _ _ ?_
    unfold vc44
    repeat (first | refine ⟨fun h => absurd (of_decide_eq_true h) (by omega), fun _ => ?_⟩ | refine ⟨fun _ => ?_, fun h => absurd (of_decide_eq_false h) (by omega)⟩)
    exact ⟨rfl, .refl _⟩
end
end Go.Vc
