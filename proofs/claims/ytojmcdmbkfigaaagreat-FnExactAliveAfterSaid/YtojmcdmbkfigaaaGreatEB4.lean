/- Part of the proofs about the heaps and memories: a law is joined in the text whose name ends in W and the law. -/
import Derived.Test.YtojmcdmbkfigaaaGreatEB3
namespace Go.Vc
open Go Go.Proofs Go.RowKit
set_option linter.all false
/-- an arm of a variable around a place -/
structure ArmK where
  matched : Int
  first : Int
  con : Int
  fields : List Int
instance : Inhabited ArmK := ⟨⟨0, 0, 0, []⟩⟩
instance : Dat ArmK where
  sz := 4
  cells B w cs c := ∃ f : Sl, cs = [intV c.matched, intV c.first, f.val, .bool false] ∧ InI c.matched ∧ InI c.first ∧ ReadB B w f c.fields
  mono := fun hs ⟨f, h0, i, j, r⟩ => ⟨f, h0, i, j, r.mono hs⟩
  len := fun ⟨f, h0, _⟩ => by rw [h0]; rfl
  one := fun ⟨f, h0, _⟩ v hv => by
    rw [h0] at hv; simp only [List.mem_cons, List.not_mem_nil, or_false] at hv
    rcases hv with rfl | rfl | rfl | rfl <;> rfl
/-- how often each variable is owned, and how many fields its kept cell has -/
structure BalS where
  vars : List Int
  own : List Int
  tok : List Int
def inArm (v : Int) (a : ArmK) : Bool := decide (a.first ≤ v) && decide (v < a.first + a.fields.length)
def armFor (arms : List ArmK) (v : Int) : Option ArmK := arms.find? (inArm v)
def armOf (arms : List ArmK) (v : Int) : Option ArmK := arms.reverse.find? fun a => decide (a.matched = v)
inductive AlB (arms : List ArmK) (lent own : List Int) : Int → Prop where
  | own {v : Int} : 0 < nth own v → AlB arms lent own v
  | lent {v : Int} : v ∈ lent → AlB arms lent own v
  | up {v : Int} {a : ArmK} : armFor arms v = some a → AlB arms lent own a.matched → AlB arms lent own v
theorem AlB.inv {arms : List ArmK} {lent own : List Int} {v : Int} (h : AlB arms lent own v) : 0 < nth own v ∨ v ∈ lent ∨ ∃ a, armFor arms v = some a ∧ AlB arms lent own a.matched := by
  cases h with
  | own h => exact .inl h
  | lent h => exact .inr (.inl h)
  | up h1 h2 => exact .inr (.inr ⟨_, h1, h2⟩)
def incB (σ : BalS) (v : Int) : BalS := ⟨σ.vars, σ.own.set v.toNat (nth σ.own v + 1), σ.tok⟩
def takeB (σ : BalS) (v : Int) : Option BalS := if nth σ.own v < 1 then none else some ⟨σ.vars, σ.own.set v.toNat (nth σ.own v - 1), σ.tok⟩
def tokB (σ : BalS) (v k : Int) : BalS := ⟨σ.vars, σ.own, σ.tok.set v.toNat k⟩
/-- the first fields that are no integers are owned once more -/
def incsB (σ : BalS) (first : Int) (fields : List Int) : Nat → BalS
  | 0 => σ
  | k + 1 => if nth fields (k : Int) ≠ 0 then incB (incsB σ first fields k) (first + k) else incsB σ first fields k
open Classical in
noncomputable def openB (arms : List ArmK) (σ : BalS) (op v : Int) : Option BalS :=
  match armOf arms v with
  | none => none
  | some a => if op = 17 ∧ 0 ≤ nth σ.tok v then none else (takeB σ v).map fun σ' => if op = 17 then tokB (incsB σ' a.first a.fields a.fields.length) v a.fields.length else incsB σ' a.first a.fields a.fields.length
def isCons (op : Int) : Prop := op = 6 ∨ op = 9 ∨ op = 10 ∨ op = 11
def lentAtB (ss : List SigD) (op num : Int) (i : Int) : Prop := op = 9 ∧ i ∈ (nth ss num).lent
def consAt (ss : List SigD) (vars : List Int) (op num : Int) (args : List Int) (i : Int) : Prop := isCons op ∧ nth vars (nth args i) ≠ 0 ∧ ¬ lentAtB ss op num i
open Classical in
noncomputable def takesB (ss : List SigD) (op num : Int) (args : List Int) : Nat → BalS → Option BalS
  | 0, σ => some σ
  | i + 1, σ => (takesB ss op num args i σ).bind fun σ' => if consAt ss σ'.vars op num args (i : Int) then takeB σ' (nth args (i : Int)) else some σ'
def lentsOk (ss : List SigD) (lent : List Int) (arms : List ArmK) (op num : Int) (args : List Int) (σ : BalS) : Prop := ∀ i : Int, 0 ≤ i → i < args.length → lentAtB ss op num i → AlB arms lent σ.own (nth args i)
def intoB (into : Int) (args : List Int) (σ : BalS) : Option BalS := if into = 0 then some σ else if nth σ.tok (into - 1) ≠ args.length then none else some (tokB σ (into - 1) (-1))
open Classical in
noncomputable def handB (ss : List SigD) (lent : List Int) (arms : List ArmK) (op num into : Int) (args : List Int) (σ : BalS) : Option BalS :=
  (takesB ss op num args args.length σ).bind fun σ' => if lentsOk ss lent arms op num args σ' then intoB into args σ' else none
def growB (σ : BalS) (t o : Int) : BalS := ⟨σ.vars ++ [t], σ.own ++ [o], σ.tok ++ [-1]⟩
def oneOf (t : Int) : Int := if t ≠ 0 then 1 else 0
/-- all leave one state -/
def joinB : List (Option (List Int × List Int)) → Option (List Int × List Int)
  | some p :: r => if ∀ q ∈ r, q = some p then some p else none
  | _ => none
open Classical in
/-- the end of a block: what is left of the variables before it -/
noncomputable def endB (σ : BalS) (result : Int) (m : Nat) : Option (List Int × List Int) :=
  (if nth σ.vars result ≠ 0 then takeB σ result else some σ).bind fun σ' =>
    if ∀ v : Int, m ≤ v → v < σ'.vars.length → nth σ'.own v = 0 ∧ nth σ'.tok v < 0 then some (σ'.own.take m, σ'.tok.take m) else none
/-- the state in which a kid of a choice begins -/
def kidS (σ : BalS) (fields : List Int) : BalS := ⟨σ.vars ++ fields, σ.own ++ List.replicate fields.length 0, σ.tok ++ List.replicate fields.length (-1)⟩
noncomputable def kidF (ds : List DeclD) (op c : Int) : List Int := if op = 8 then conF ds c else []
noncomputable def kidA (ds : List DeclD) (arms : List ArmK) (op v : Int) (m : Nat) (c : Int) : List ArmK := if op = 8 then arms ++ [⟨v, m, c, conF ds c⟩] else arms
section
open Classical
mutual
noncomputable def bkB (ds : List DeclD) (ss : List SigD) (lent : List Int) (arms : List ArmK) (σ : BalS) (m : Nat) : BlockD → Option (List Int × List Int)
  | ⟨steps, result⟩ => match stsB ds ss lent arms σ steps with
    | none => none
    | some σ' => endB σ' result m
noncomputable def stsB (ds : List DeclD) (ss : List SigD) (lent : List Int) (arms : List ArmK) (σ : BalS) : List (StepP BlockD) → Option BalS
  | [] => some σ
  | s :: r => match stB ds ss lent arms σ s with
    | none => none
    | some σ' => stsB ds ss lent arms σ' r
noncomputable def stB (ds : List DeclD) (ss : List SigD) (lent : List Int) (arms : List ArmK) (σ : BalS) : StepP BlockD → Option BalS
  | ⟨op, num, into, args, kids⟩ =>
    if op = 14 then (if AlB arms lent σ.own (nth args 0) then some (incB σ (nth args 0)) else none)
    else if op = 15 then takeB σ (nth args 0)
    else if op = 16 ∨ op = 17 then openB arms σ op (nth args 0)
    else if op = 7 ∨ op = 8 then
      (if op = 8 ∧ ¬ AlB arms lent σ.own (nth args 0) then none
       else match joinB (kdsB ds ss lent arms σ op (nth args 0) (consL ds num) kids) with
        | none => none
        | some p => some (growB ⟨σ.vars, p.1, p.2⟩ (gD (stpT ds ss σ.vars ⟨op, num, into, args, kids⟩)) (oneOf (gD (stpT ds ss σ.vars ⟨op, num, into, args, kids⟩)))))
    else match handB ss lent arms op num into args σ with
      | none => none
      | some σ' => some (growB σ' (gD (stpT ds ss σ.vars ⟨op, num, into, args, kids⟩)) (oneOf (gD (stpT ds ss σ.vars ⟨op, num, into, args, kids⟩))))
noncomputable def kdsB (ds : List DeclD) (ss : List SigD) (lent : List Int) (arms : List ArmK) (σ : BalS) (op v : Int) : List Int → List BlockD → List (Option (List Int × List Int))
  | cs, b :: r => bkB ds ss lent (kidA ds arms op v σ.vars.length (nth cs 0)) (kidS σ (kidF ds op (nth cs 0))) σ.vars.length b :: kdsB ds ss lent arms σ op v (cs.drop 1) r
  | _, [] => []
end
end
/-- what holds of a state: its columns are of one length, what is owned is between 0 and B -/
structure WfB (ds : List DeclD) (arms : List ArmK) (B : Nat) (σ : BalS) : Prop where
  l1 : σ.own.length = σ.vars.length
  l2 : σ.tok.length = σ.vars.length
  vn : nonneg σ.vars
  ow : ∀ n ∈ σ.own, 0 ≤ n ∧ n ≤ B
  tk : ∀ n ∈ σ.tok, -1 ≤ n ∧ n ≤ 3
  ar : ∀ a ∈ arms, 0 ≤ a.matched ∧ a.matched < a.first ∧ a.first + a.fields.length ≤ σ.vars.length ∧ 0 ≤ a.con ∧ a.fields = conF ds a.con
section
variable {ds : List DeclD} {ss : List SigD} {arms : List ArmK} {lent args vars : List Int} {σ σ' : BalS} {B B' : Nat} {v t o k i op num into : Int} {s : StepD} {b : BlockD} {r : List StepD} {l : List BlockD} {cs : List Int} {a : ArmK} {m : Nat} {p : List Int × List Int}
theorem stsB_nil : stsB ds ss lent arms σ [] = some σ := by rw [stsB]
theorem stsB_cons : stsB ds ss lent arms σ (s :: r) = match stB ds ss lent arms σ s with
    | none => none
    | some σ' => stsB ds ss lent arms σ' r := by rw [stsB]
theorem bkB_eq : bkB ds ss lent arms σ m b = match stsB ds ss lent arms σ b.steps with
    | none => none
    | some σ' => endB σ' b.result m := by cases b; rw [bkB]
open Classical in
theorem stB_eq : stB ds ss lent arms σ s =
    if s.op = 14 then (if AlB arms lent σ.own (nth s.args 0) then some (incB σ (nth s.args 0)) else none)
    else if s.op = 15 then takeB σ (nth s.args 0)
    else if s.op = 16 ∨ s.op = 17 then openB arms σ s.op (nth s.args 0)
    else if s.op = 7 ∨ s.op = 8 then
      (if s.op = 8 ∧ ¬ AlB arms lent σ.own (nth s.args 0) then none
       else match joinB (kdsB ds ss lent arms σ s.op (nth s.args 0) (consL ds s.num) s.kids) with
        | none => none
        | some p => some (growB ⟨σ.vars, p.1, p.2⟩ (gD (stpT ds ss σ.vars s)) (oneOf (gD (stpT ds ss σ.vars s)))))
    else match handB ss lent arms s.op s.num s.into s.args σ with
      | none => none
      | some σ' => some (growB σ' (gD (stpT ds ss σ.vars s)) (oneOf (gD (stpT ds ss σ.vars s)))) := by cases s; rw [stB]
theorem kdsB_cons : kdsB ds ss lent arms σ op v cs (b :: l) = bkB ds ss lent (kidA ds arms op v σ.vars.length (nth cs 0)) (kidS σ (kidF ds op (nth cs 0))) σ.vars.length b :: kdsB ds ss lent arms σ op v (cs.drop 1) l := by rw [kdsB]
theorem kdsB_nil : kdsB ds ss lent arms σ op v cs [] = [] := by rw [kdsB]
theorem kdsB_len : ∀ (l : List BlockD) (cs : List Int), (kdsB ds ss lent arms σ op v cs l).length = l.length
  | [], cs => by rw [kdsB_nil]; rfl
  | b :: l, cs => by rw [kdsB_cons, List.length_cons, List.length_cons, kdsB_len l]
theorem nth_drop1 (cs : List Int) (i : Nat) : nth (cs.drop 1) ((i : Nat) : Int) = nth cs ((i + 1 : Nat) : Int) := by
  unfold nth; simp only [List.getD, List.getElem?_drop, Int.toNat_natCast]; rw [Nat.add_comm]
theorem kdsB_get : ∀ (l : List BlockD) (cs : List Int) (i : Nat), (kdsB ds ss lent arms σ op v cs l)[i]? = (l[i]?).map fun b => bkB ds ss lent (kidA ds arms op v σ.vars.length (nth cs i)) (kidS σ (kidF ds op (nth cs i))) σ.vars.length b
  | [], cs, i => by rw [kdsB_nil]; simp
  | b :: l, cs, 0 => by rw [kdsB_cons]; simp
  | b :: l, cs, i + 1 => by
    rw [kdsB_cons, List.getElem?_cons_succ, kdsB_get l, List.getElem?_cons_succ, nth_drop1]
theorem kdsB_nth {i : Int} (h0 : 0 ≤ i) (h1 : i < l.length) : (kdsB ds ss lent arms σ op v cs l)[i.toNat]? = some (bkB ds ss lent (kidA ds arms op v σ.vars.length (nth cs i)) (kidS σ (kidF ds op (nth cs i))) σ.vars.length (nth l i)) := by
  rw [kdsB_get, nth_get h0 h1, Option.map_some, show ((i.toNat : Nat) : Int) = i from by omega]
theorem joinB_some {l : List (Option (List Int × List Int))} (h : joinB l = some p) : l ≠ [] ∧ ∀ q ∈ l, q = some p := by
  unfold joinB at h
  split at h
  · split at h
    · rename_i hr
      cases h
      refine ⟨by simp, fun q hq => ?_⟩
      rcases List.mem_cons.1 hq with e | hq
      · exact e
      · exact hr q hq
    · cases h
  · cases h
theorem joinB_of {l : List (Option (List Int × List Int))} (hl : l ≠ []) (h : ∀ q ∈ l, q = some p) : joinB l = some p := by
  match l, hl, h with
  | q :: r, _, h =>
    have e := h q (by simp)
    subst e
    exact if_pos fun q hq => h q (List.mem_cons_of_mem _ hq)
theorem joinB_none {l : List (Option (List Int × List Int))} (h : ∀ p, joinB l ≠ some p) : joinB l = none := by
  cases hj : joinB l with
  | none => rfl
  | some p => exact absurd hj (h p)
/-- .. by index -/
theorem kidsB_all (hl : l ≠ []) (h : ∀ j : Int, 0 ≤ j → j < l.length → bkB ds ss lent (kidA ds arms op v σ.vars.length (nth cs j)) (kidS σ (kidF ds op (nth cs j))) σ.vars.length (nth l j) = some p) : joinB (kdsB ds ss lent arms σ op v cs l) = some p := by
  refine joinB_of (fun hn => hl (List.eq_nil_of_length_eq_zero (by rw [← kdsB_len (ds := ds) (ss := ss) (lent := lent) (arms := arms) (σ := σ) (op := op) (v := v) l cs, hn]; rfl))) fun q hq => ?_
  obtain ⟨j, hj, rfl⟩ := List.getElem_of_mem hq
  have hj' := hj
  rw [kdsB_len] at hj'
  have e := kdsB_nth (ds := ds) (ss := ss) (lent := lent) (arms := arms) (σ := σ) (op := op) (v := v) (cs := cs) (l := l) (i := (j : Int)) (by omega) (by omega)
  rw [show ((j : Int)).toNat = j from by omega, List.getElem?_eq_getElem hj] at e
  simp only [Option.some.injEq] at e
  rw [e]
  exact h j (by omega) (by omega)
theorem kidsB_some (h : joinB (kdsB ds ss lent arms σ op v cs l) = some p) {j : Int} (h0 : 0 ≤ j) (h1 : j < l.length) : bkB ds ss lent (kidA ds arms op v σ.vars.length (nth cs j)) (kidS σ (kidF ds op (nth cs j))) σ.vars.length (nth l j) = some p :=
  (joinB_some h).2 _ (List.mem_of_getElem? (kdsB_nth h0 h1))
/-! ### what holds of states -/
theorem mem_setI {l : List Int} {i : Nat} {a n : Int} (h : n ∈ l.set i a) : n ∈ l ∨ n = a := List.mem_or_eq_of_mem_set h
theorem nth_memD {l : List Int} {B : Int} (h : ∀ n ∈ l, 0 ≤ n ∧ n ≤ B) (hB : 0 ≤ B) (i : Int) : 0 ≤ nth l i ∧ nth l i ≤ B := by
  unfold nth
  rw [List.getD]
  cases hg : l[i.toNat]? with
  | none => exact ⟨Int.le_refl _, hB⟩
  | some a => exact h a (List.mem_of_getElem? hg)
theorem WfB.mono (h : WfB ds arms B σ) (hb : B ≤ B') : WfB ds arms B' σ := ⟨h.l1, h.l2, h.vn, fun n hn => by have := h.ow n hn; omega, h.tk, h.ar⟩
theorem WfB.inc (h : WfB ds arms B σ) : WfB ds arms (B + 1) (incB σ v) := by
  refine ⟨by unfold incB; simpa using h.l1, h.l2, h.vn, fun n hn => ?_, h.tk, h.ar⟩
  have hb := nth_memD (B := (B : Int)) h.ow (by omega) v
  rcases mem_setI hn with hn | rfl
  · have := h.ow n hn; omega
  · omega
theorem WfB.take (h : WfB ds arms B σ) (ht : takeB σ v = some σ') : WfB ds arms B σ' ∧ σ'.vars = σ.vars ∧ σ'.tok = σ.tok := by
  unfold takeB at ht
  split at ht
  · cases ht
  · cases ht
    have hb := nth_memD (B := (B : Int)) h.ow (by omega) v
    refine ⟨⟨by simpa using h.l1, h.l2, h.vn, fun n hn => ?_, h.tk, h.ar⟩, rfl, rfl⟩
    rcases mem_setI hn with hn | rfl
    · exact h.ow n hn
    · omega
theorem WfB.tok (h : WfB ds arms B σ) (hk : -1 ≤ k ∧ k ≤ 3) : WfB ds arms B (tokB σ v k) := by
  refine ⟨h.l1, by unfold tokB; simpa using h.l2, h.vn, h.ow, fun n hn => ?_, h.ar⟩
  rcases mem_setI hn with hn | rfl
  · exact h.tk n hn
  · exact hk
theorem incB_own (h0 : 0 ≤ v) (h1 : v < σ.own.length) (hi : 0 ≤ i) : nth (incB σ v).own i = if i = v then nth σ.own v + 1 else nth σ.own i := by
  unfold incB
  exact nth_set _ _ _ _ h0 h1 hi
theorem incsB_keep (first : Int) (fields : List Int) : ∀ k : Nat, (incsB σ first fields k).vars = σ.vars ∧ (incsB σ first fields k).tok = σ.tok ∧ (incsB σ first fields k).own.length = σ.own.length
  | 0 => ⟨rfl, rfl, rfl⟩
  | k + 1 => by
    obtain ⟨h1, h2, h3⟩ := incsB_keep first fields k
    rw [incsB]
    split
    · exact ⟨h1, h2, by unfold incB; simpa using h3⟩
    · exact ⟨h1, h2, h3⟩
theorem incsB_own (first : Int) (fields : List Int) (h0 : 0 ≤ first) : ∀ k : Nat, first + k ≤ σ.own.length → ∀ i : Int, 0 ≤ i → nth (incsB σ first fields k).own i = if first ≤ i ∧ i < first + k ∧ nth fields (i - first) ≠ 0 then nth σ.own i + 1 else nth σ.own i
  | 0, _, i, hi => by rw [if_neg (by omega)]; rfl
  | k + 1, hk, i, hi => by
    have ih := incsB_own first fields h0 k (by omega) i hi
    obtain ⟨_, _, h3⟩ := incsB_keep (σ := σ) first fields k
    rw [incsB]
    split
    · rename_i hne
      rw [incB_own (by omega) (by omega) hi]
      by_cases e : i = first + k
      · subst e
        rw [if_pos rfl, ih, if_neg (by omega), if_pos ⟨by omega, by omega, by rw [show first + (k : Int) - first = (k : Int) from by omega]; exact hne⟩]
      · rw [if_neg e, ih]
        by_cases hc : first ≤ i ∧ i < first + k ∧ nth fields (i - first) ≠ 0
        · rw [if_pos hc, if_pos ⟨hc.1, by omega, hc.2.2⟩]
        · rw [if_neg hc, if_neg fun hh => hc ⟨hh.1, by omega, hh.2.2⟩]
    · rename_i hne
      rw [ih]
      by_cases hc : first ≤ i ∧ i < first + k ∧ nth fields (i - first) ≠ 0
      · rw [if_pos hc, if_pos ⟨hc.1, by omega, hc.2.2⟩]
      · rw [if_neg hc, if_neg]
        rintro ⟨g1, g2, g3⟩
        by_cases e : i = first + k
        · subst e
          rw [show first + (k : Int) - first = (k : Int) from by omega] at g3
          exact hne g3
        · exact hc ⟨g1, by omega, g3⟩
theorem WfB.incs (h : WfB ds arms B σ) (first : Int) (fields : List Int) (h0 : 0 ≤ first) (h1 : first + fields.length ≤ σ.own.length) : WfB ds arms (B + 1) (incsB σ first fields fields.length) := by
  obtain ⟨k1, k2, k3⟩ := incsB_keep (σ := σ) first fields fields.length
  refine ⟨by rw [k3, k1]; exact h.l1, by rw [k2, k1]; exact h.l2, by rw [k1]; exact h.vn, fun n hn => ?_, by rw [k2]; exact h.tk, by rw [k1]; exact h.ar⟩
  obtain ⟨j, hj, rfl⟩ := List.getElem_of_mem hn
  have e := incsB_own (σ := σ) first fields h0 fields.length h1 (j : Int) (by omega)
  rw [nth_of (a := (incsB σ first fields fields.length).own[j]) (by simp [hj])] at e
  have hb := nth_memD (B := (B : Int)) h.ow (by omega) (j : Int)
  rw [e]
  split <;> omega
theorem armOf_mem (h : armOf arms v = some a) : a ∈ arms ∧ a.matched = v := by
  unfold armOf at h
  have h1 := List.mem_of_find?_eq_some h
  have h2 := List.find?_some h
  exact ⟨List.mem_reverse.1 h1, of_decide_eq_true h2⟩
theorem armFor_mem (h : armFor arms v = some a) : a ∈ arms ∧ a.first ≤ v ∧ v < a.first + a.fields.length := by
  unfold armFor at h
  have h1 := List.mem_of_find?_eq_some h
  have h2 := List.find?_some h
  unfold inArm at h2
  simp only [Bool.and_eq_true, decide_eq_true_eq] at h2
  exact ⟨h1, h2⟩
theorem WfB.open (hd : typesOk ds) (h : WfB ds arms B σ) (ho : openB arms σ op v = some σ') : WfB ds arms (B + 1) σ' ∧ σ'.vars = σ.vars := by
  unfold openB at ho
  split at ho
  · cases ho
  · rename_i a ha
    obtain ⟨ham, _⟩ := armOf_mem ha
    obtain ⟨g1, g2, g3, g4, g5⟩ := h.ar a ham
    have hc3 := conF_len3 hd a.con
    split at ho
    · cases ho
    · cases ht : takeB σ v with
      | none => rw [ht] at ho; cases ho
      | some σ1 =>
        rw [ht] at ho
        obtain ⟨w1, e1, e2⟩ := h.take ht
        have w2 := w1.incs a.first a.fields (by omega) (by have := w1.l1; rw [e1] at this; omega)
        have k1 := (incsB_keep (σ := σ1) a.first a.fields a.fields.length).1
        simp only [Option.map_some, Option.some.injEq] at ho
        subst ho
        split
        · exact ⟨w2.tok ⟨by omega, by rw [g5]; omega⟩, by unfold tokB; rw [k1]; exact e1⟩
        · exact ⟨w2, by rw [k1]; exact e1⟩
theorem WfB.takes (h : WfB ds arms B σ) : ∀ (n : Nat) (σ' : BalS), takesB ss op num args n σ = some σ' → WfB ds arms B σ' ∧ σ'.vars = σ.vars
  | 0, σ', ht => by rw [takesB] at ht; cases ht; exact ⟨h, rfl⟩
  | n + 1, σ', ht => by
    rw [takesB] at ht
    cases h1 : takesB ss op num args n σ with
    | none => rw [h1] at ht; cases ht
    | some σ1 =>
      rw [h1, Option.bind_some] at ht
      obtain ⟨w1, e1⟩ := h.takes n σ1 h1
      split at ht
      · obtain ⟨w2, e2, _⟩ := w1.take ht
        exact ⟨w2, by rw [e2, e1]⟩
      · cases ht; exact ⟨w1, e1⟩
theorem WfB.into_ (h : WfB ds arms B σ) (ht : intoB into args σ = some σ') : WfB ds arms B σ' ∧ σ'.vars = σ.vars := by
  unfold intoB at ht
  split at ht
  · cases ht; exact ⟨h, rfl⟩
  · split at ht
    · cases ht
    · cases ht; exact ⟨h.tok ⟨by omega, by omega⟩, rfl⟩
theorem WfB.hand (h : WfB ds arms B σ) (ht : handB ss lent arms op num into args σ = some σ') : WfB ds arms B σ' ∧ σ'.vars = σ.vars := by
  unfold handB at ht
  cases h1 : takesB ss op num args args.length σ with
  | none => rw [h1] at ht; cases ht
  | some σ1 =>
    rw [h1, Option.bind_some] at ht
    obtain ⟨w1, e1⟩ := h.takes _ _ h1
    split at ht
    · obtain ⟨w2, e2⟩ := w1.into_ ht
      exact ⟨w2, by rw [e2, e1]⟩
    · cases ht
theorem WfB.grow (h : WfB ds arms B σ) (ht : 0 ≤ t ∧ t ≤ 4) (ho : 0 ≤ o ∧ o ≤ B) : WfB ds arms B (growB σ t o) := by
  refine ⟨by unfold growB; simp [h.l1], by unfold growB; simp [h.l2], h.vn.app fun n hn => by rw [List.mem_singleton.1 hn]; exact ht, fun n hn => ?_, fun n hn => ?_, fun a ha => ?_⟩
  · rcases List.mem_append.1 hn with hn | hn
    · exact h.ow n hn
    · rw [List.mem_singleton.1 hn]; exact ho
  · rcases List.mem_append.1 hn with hn | hn
    · exact h.tk n hn
    · rw [List.mem_singleton.1 hn]; omega
  · obtain ⟨g1, g2, g3, g4⟩ := h.ar a ha
    refine ⟨g1, g2, ?_, g4⟩
    unfold growB
    simp only [List.length_append, List.length_singleton]
    omega
theorem WfB.kid (hd : typesOk ds) (h : WfB ds arms B σ) (hv : op = 8 → 0 ≤ v ∧ v < σ.vars.length ∧ 0 ≤ k) : WfB ds (kidA ds arms op v σ.vars.length k) B (kidS σ (kidF ds op k)) := by
  have hfn : nonneg (kidF ds op k) := by
    unfold kidF
    split
    · exact conF_nn hd k
    · exact fun t ht => by cases ht
  refine ⟨by unfold kidS; simp [h.l1], by unfold kidS; simp [h.l2], h.vn.app hfn, fun n hn => ?_, fun n hn => ?_, fun a ha => ?_⟩
  · rcases List.mem_append.1 hn with hn | hn
    · exact h.ow n hn
    · rw [List.eq_of_mem_replicate hn]; omega
  · rcases List.mem_append.1 hn with hn | hn
    · exact h.tk n hn
    · rw [List.eq_of_mem_replicate hn]; omega
  · have old : ∀ a ∈ arms, 0 ≤ a.matched ∧ a.matched < a.first ∧ a.first + a.fields.length ≤ (kidS σ (kidF ds op k)).vars.length ∧ 0 ≤ a.con ∧ a.fields = conF ds a.con := fun a ha => by
      obtain ⟨g1, g2, g3, g4⟩ := h.ar a ha
      refine ⟨g1, g2, ?_, g4⟩
      unfold kidS
      simp only [List.length_append]
      omega
    unfold kidA at ha
    split at ha
    · rename_i ho
      rcases List.mem_append.1 ha with ha | ha
      · exact old a ha
      · rw [List.mem_singleton.1 ha]
        obtain ⟨g1, g2, g3⟩ := hv ho
        refine ⟨g1, g2, ?_, g3, rfl⟩
        unfold kidS kidF
        rw [if_pos ho]
        simp
    · exact old a ha
theorem WfB.endB_ (h : WfB ds arms B σ) (he : endB σ v m = some p) (hm : m ≤ σ.vars.length) : p.1.length = m ∧ p.2.length = m ∧ (∀ n ∈ p.1, 0 ≤ n ∧ n ≤ B) ∧ (∀ n ∈ p.2, -1 ≤ n ∧ n ≤ 3) := by
  unfold endB at he
  have key : ∀ σ' : BalS, WfB ds arms B σ' → σ'.vars = σ.vars → p = (σ'.own.take m, σ'.tok.take m) → p.1.length = m ∧ p.2.length = m ∧ (∀ n ∈ p.1, 0 ≤ n ∧ n ≤ B) ∧ (∀ n ∈ p.2, -1 ≤ n ∧ n ≤ 3) := by
    rintro σ' hw ev rfl
    have g1 := hw.l1
    have g2 := hw.l2
    rw [ev] at g1 g2
    exact ⟨by simp; omega, by simp; omega, fun n hn => hw.ow n (List.mem_of_mem_take hn), fun n hn => hw.tk n (List.mem_of_mem_take hn)⟩
  split at he
  · cases ht : takeB σ v with
    | none => rw [ht] at he; cases he
    | some σ1 =>
      rw [ht, Option.bind_some] at he
      obtain ⟨w1, e1, _⟩ := h.take ht
      split at he
      · cases he; exact key σ1 w1 e1 rfl
      · cases he
  · rw [Option.bind_some] at he
    split at he
    · cases he; exact key σ h rfl rfl
    · cases he
end
end Go.Vc

namespace Go.Vc
open Go Go.Proofs Go.RowKit
set_option linter.all false
section
variable {ds : List DeclD} {ss : List SigD} {arms : List ArmK} {lent args vars : List Int} {σ σ' : BalS} {B B' : Nat} {v t o k i op num into : Int} {s : StepD} {b : BlockD} {r : List StepD} {l : List BlockD} {cs inner : List Int} {a : ArmK} {m : Nat} {p : List Int × List Int}
theorem stp_args (h : stpT ds ss vars s = some t) : argsIn vars s.args ∧ intoIn vars s.op s.into := by
  refine ⟨Classical.byContradiction fun hn => ?_, Classical.byContradiction fun hn => ?_⟩
  · rw [stp_out hn] at h; cases h
  · rw [stp_into hn] at h; cases h
/-- what a choice's validity says -/
theorem stp_choice (h : stpT ds ss vars s = some t) (ho : s.op = 7 ∨ s.op = 8) : s.args.length = 1 ∧ 1 ≤ s.kids.length ∧ (s.op = 7 → s.kids.length = 2) ∧ (s.op = 8 → s.kids.length = (consL ds s.num).length) ∧
    ∀ j : Int, 0 ≤ j → j < s.kids.length → blkT ds ss (vars ++ kidF ds s.op (nth (consL ds s.num) j)) (nth s.kids j) = some t := by
  obtain ⟨ha, hi⟩ := stp_args h
  rcases ho with ho | ho
  · rw [stp_7 ha hi ho] at h
    split at h
    · rename_i hc
      have hl : s.args.length = 1 := by
        have := congrArg List.length hc.1
        rw [typs_len] at this
        exact this
      refine ⟨hl, by omega, fun _ => hc.2.2, fun h8 => by omega, fun j j0 j1 => ?_⟩
      have := kids_some h j0 j1
      rw [show nth ([[], []] : List (List Int)) j = [] from by rcases (show j = 0 ∨ j = 1 from by omega) with rfl | rfl <;> rfl] at this
      unfold kidF
      rw [if_neg (by omega)]
      exact this
    · cases h
  · rw [stp_8 ha hi ho] at h
    split at h
    · rename_i hc
      have hl : s.args.length = 1 := by
        have := congrArg List.length hc.1
        rw [typs_len] at this
        exact this
      have hal : (armF ds s.num).length = (consL ds s.num).length := by unfold armF; simp
      refine ⟨hl, by omega, fun h8 => by omega, fun _ => by omega, fun j j0 j1 => ?_⟩
      have := kids_some h j0 j1
      rw [armF_nth j0 (by omega)] at this
      unfold kidF
      rw [if_pos ho]
      exact this
    · cases h
theorem stp_count (h : stpT ds ss vars s = some t) (ho : isCnt s.op) : s.args.length = 1 ∧ nth vars (nth s.args 0) ≠ 0 := by
  classical
  obtain ⟨ha, hi⟩ := stp_args h
  rw [stpT_eq, if_pos ⟨ha, hi⟩, if_pos ho] at h
  split at h
  · rename_i hc
    obtain ⟨⟨h1, h2, _⟩, _⟩ := hc
    rw [typs_len] at h1
    exact ⟨h1, by rw [nth_typs (by omega) (by omega)] at h2; exact h2⟩
  · cases h
theorem consL_nn (ds : List DeclD) (n j : Int) : 0 ≤ nth (consL ds n) j := by
  unfold nth consL
  rw [List.getD]
  split
  · rw [List.getElem?_map]
    cases (List.range (nth ds (n - 1)).cons.length)[j.toNat]? with
    | none => exact Int.le_refl _
    | some c => simp only [Option.map_some, Option.getD_some]; omega
  · exact Int.le_refl _
def WfK (ds : List DeclD) (ss : List SigD) (lent : List Int) (b : BlockD) : Prop := ∀ (arms : List ArmK) (σ : BalS) (m B : Nat) (t : Int) (p : List Int × List Int), WfB ds arms B σ → blkT ds ss σ.vars b = some t → m ≤ σ.vars.length → bkB ds ss lent arms σ m b = some p →
  p.1.length = m ∧ p.2.length = m ∧ (∀ n ∈ p.1, 0 ≤ n ∧ n ≤ ((B + cntB b : Nat) : Int)) ∧ ∀ n ∈ p.2, -1 ≤ n ∧ n ≤ 3
theorem oneOf_le (t : Int) : 0 ≤ oneOf t ∧ oneOf t ≤ 1 := by unfold oneOf; split <;> omega
theorem wf_st0 (hsg : sigSigs ds ss) (hk : ∀ k ∈ s.kids, WfK ds ss lent k) (hw : WfB ds arms B σ) (hv : stpT ds ss σ.vars s = some t) (hs : stB ds ss lent arms σ s = some σ') :
    WfB ds arms (B + 1 + cntS s) σ' ∧ σ'.vars = (if isCnt s.op then σ.vars else σ.vars ++ [t]) := by
  have htn := stpT_nn hsg hw.vn hv
  have hon := oneOf_le t
  rw [stB_eq] at hs
  have hgd : gD (stpT ds ss σ.vars s) = t := by rw [hv]; rfl
  rw [hgd] at hs
  split at hs
  · rename_i ho
    split at hs
    · cases hs
      exact ⟨hw.inc.mono (by omega), by rw [if_pos (by unfold isCnt; omega)]; rfl⟩
    · cases hs
  split at hs
  · rename_i ho
    obtain ⟨g1, g2, _⟩ := hw.take hs
    exact ⟨g1.mono (by omega), by rw [if_pos (by unfold isCnt; omega)]; exact g2⟩
  split at hs
  · rename_i ho
    obtain ⟨g1, g2⟩ := hw.open hsg.1 hs
    exact ⟨g1.mono (by omega), by rw [if_pos (by unfold isCnt; omega)]; exact g2⟩
  split at hs
  · rename_i ho
    split at hs
    · cases hs
    · obtain ⟨hl, hk1, h7, h8, hkv⟩ := stp_choice hv ho
      obtain ⟨ha, _⟩ := stp_args hv
      have ha0 := argsIn_nth ha (i := 0) (by omega) (by omega)
      split at hs
      · cases hs
      · rename_i p hp
        cases hs
        have hb := kidsB_some hp (j := 0) (by omega) (by omega)
        have hm := nth_mem (l := s.kids) (i := 0) (by omega) (by omega)
        have hwk := hw.kid (op := s.op) (v := nth s.args 0) (k := nth (consL ds s.num) 0) hsg.1 (fun _ => ⟨ha0.1, ha0.2, consL_nn ds s.num 0⟩)
        obtain ⟨q1, q2, q3, q4⟩ := hk _ hm _ _ _ _ _ _ hwk (hkv 0 (by omega) (by omega)) (by unfold kidS; simp) hb
        have hcm := cntK_mem s.kids hm
        rw [cntS_eq]
        refine ⟨?_, by rw [if_neg (by unfold isCnt; omega)]; rfl⟩
        refine WfB.grow ⟨q1, q2, hw.vn, fun n hn => ?_, q4, hw.ar⟩ htn ⟨hon.1, by omega⟩
        have := q3 n hn
        omega
  · rename_i h14 h15 h16 h7
    split at hs
    · cases hs
    · rename_i σ1 h1
      cases hs
      obtain ⟨g1, g2⟩ := hw.hand h1
      refine ⟨WfB.grow (g1.mono (by omega)) htn ⟨hon.1, by omega⟩, ?_⟩
      rw [if_neg (by unfold isCnt; omega)]
      unfold growB
      rw [g2]
theorem wf_sts0 (hsg : sigSigs ds ss) : ∀ (l : List StepD), (∀ s ∈ l, ∀ k ∈ s.kids, WfK ds ss lent k) → ∀ (B : Nat) (σ σ' : BalS) (inner : List Int), WfB ds arms B σ → stpsT ds ss σ.vars l = some inner → stsB ds ss lent arms σ l = some σ' → WfB ds arms (B + cntL l) σ' ∧ σ'.vars = inner
  | [] => fun _ B σ σ' inner hw hv hs => by
    rw [stpsT_nil] at hv; rw [stsB_nil] at hs; cases hv; cases hs
    exact ⟨hw.mono (by omega), rfl⟩
  | s :: r => fun hk B σ σ' inner hw hv hs => by
    rw [stpsT_cons] at hv
    rw [stsB_cons] at hs
    split at hv
    · cases hv
    · rename_i t ht
      split at hs
      · cases hs
      · rename_i σ1 h1
        obtain ⟨w1, e1⟩ := wf_st0 hsg (hk s (by simp)) hw ht h1
        rw [← e1] at hv
        obtain ⟨w2, e2⟩ := wf_sts0 hsg r (fun s' hs' => hk s' (by simp [hs'])) _ σ1 σ' inner w1 hv hs
        rw [cntL_cons]
        exact ⟨w2.mono (by omega), e2⟩
theorem wf_bk (hsg : sigSigs ds ss) (b : BlockD) : WfK ds ss lent b := by
  refine blk_ind (P := WfK ds ss lent) (fun b ih => ?_) b
  intro arms σ m B t p hw hv hm hp
  rw [bkB_eq] at hp
  rw [blkT_eq] at hv
  split at hv
  · cases hv
  · rename_i inner hin
    split at hp
    · cases hp
    · rename_i σ1 h1
      obtain ⟨w1, e1⟩ := wf_sts0 hsg b.steps ih _ _ _ _ hw hin h1
      have hlen : σ.vars.length ≤ σ1.vars.length := by
        rw [e1]
        have key : ∀ (l : List StepD) (vars inner : List Int), stpsT ds ss vars l = some inner → vars.length ≤ inner.length := by
          intro l
          induction l with
          | nil => intro vars inner h; rw [stpsT_nil] at h; cases h; exact Nat.le_refl _
          | cons s r ih =>
            intro vars inner h
            rw [stpsT_cons] at h
            split at h
            · cases h
            · have := ih _ _ h
              split at this
              · exact this
              · rw [List.length_append] at this; omega
        exact key _ _ _ hin
      obtain ⟨q1, q2, q3, q4⟩ := w1.endB_ hp (by omega)
      rw [cntB_eq]
      exact ⟨q1, q2, q3, q4⟩
theorem wf_st (hsg : sigSigs ds ss) (hw : WfB ds arms B σ) (hv : stpT ds ss σ.vars s = some t) (hs : stB ds ss lent arms σ s = some σ') :
    WfB ds arms (B + 1 + cntS s) σ' ∧ σ'.vars = (if isCnt s.op then σ.vars else σ.vars ++ [t]) := wf_st0 hsg (fun k _ => wf_bk hsg k) hw hv hs
/-- alive, by way of what a field is bound from -/
theorem AlB.lt (hw : WfB ds arms B σ) (h : armFor arms v = some a) : 0 ≤ a.matched ∧ a.matched < v := by
  obtain ⟨h1, h2, h3⟩ := armFor_mem h
  have := hw.ar a h1
  omega
end
end Go.Vc
