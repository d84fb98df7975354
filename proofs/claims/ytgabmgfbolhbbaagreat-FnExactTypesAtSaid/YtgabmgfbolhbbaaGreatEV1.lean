/- Part of the proofs about the heaps and memories: a law is joined in the text whose name ends in W and the law. -/
import Derived.Test.YtgabmgfbolhbbaaGreatEK7
namespace Go.Vc
open Go Go.Proofs Go.RowKit
set_option linter.all false
/-- what is known of a register -/
structure RegK where
  typ : Int
  own : Int
  lent : Bool
  con : Int
  frm : Int
  field : Int
deriving DecidableEq
instance : Inhabited RegK := ⟨⟨-1, 0, false, -1, -1, -1⟩⟩
structure VwD where
  regs : List RegK
  kept : List Int
def VwD.reg (v : VwD) (r : Int) : RegK := nth v.regs r
def VwD.upd (v : VwD) (r : Int) (k : RegK) : VwD := ⟨v.regs.set r.toNat k, v.kept⟩
/-- a register is alive -/
inductive Al (v : VwD) : Int → Prop where
  | here {r : Int} : (0 < (v.reg r).own ∨ (v.reg r).lent = true) → Al v r
  | up {r : Int} : 0 ≤ (v.reg r).frm → Al v (v.reg r).frm → Al v r
open Classical in
noncomputable def alB (v : VwD) (r : Int) : Bool := decide (Al v r)
def clr1 (r : Int) (k : RegK) : RegK := if k.frm = r then ⟨k.typ, k.own, k.lent, k.con, -1, -1⟩ else k
/-- a register becomes one of a type -/
def setV (v : VwD) (r t o : Int) : VwD := ⟨(v.regs.map (clr1 r)).set r.toNat ⟨t, o, false, -1, -1, -1⟩, v.kept⟩
/-- what holds of all that is known -/
structure Wf (n B : Nat) (v : VwD) : Prop where
  len : v.regs.length = n
  klen : v.kept.length = n
  own0 : ∀ r : Int, 0 ≤ r → r < n → 0 ≤ (v.reg r).own ∧ (v.reg r).own ≤ B
  frm : ∀ r : Int, 0 ≤ r → r < n → -1 ≤ (v.reg r).frm ∧ (v.reg r).frm < n
  neg : ∀ r : Int, 0 ≤ r → r < n → -1 ≤ (v.reg r).typ ∧ ((v.reg r).typ < 0 → (v.reg r).con = -1 ∧ (v.reg r).frm = -1 ∧ (v.reg r).field = -1)
  con : ∀ r : Int, 0 ≤ r → r < n → -1 ≤ (v.reg r).con ∧ (v.reg r).con ≤ 1000
  sm : ∀ r : Int, 0 ≤ r → r < n → (v.reg r).typ ≤ 1000 ∧ -1 ≤ (v.reg r).field ∧ (v.reg r).field ≤ 1000
  kept_ : ∀ k ∈ v.kept, -1 ≤ k ∧ k ≤ 1000
  rank : ∃ f : Int → Nat, ∀ r : Int, 0 ≤ r → r < n → 0 ≤ (v.reg r).frm → f (v.reg r).frm < f r
section
variable {v v' : VwD} {n B B' : Nat} {r t o : Int} {k : RegK}
theorem Wf.mono (h : Wf n B v) (hb : B ≤ B') : Wf n B' v := ⟨h.len, h.klen, fun r h0 h1 => ⟨(h.own0 r h0 h1).1, by have := (h.own0 r h0 h1).2; omega⟩, h.frm, h.neg, h.con, h.sm, h.kept_, h.rank⟩
theorem VwD.upd_reg (hr : 0 ≤ r) (hl : r < v.regs.length) (j : Int) (hj : 0 ≤ j) : (v.upd r k).reg j = if j = r then k else v.reg j := by
  unfold VwD.upd VwD.reg
  exact nth_set _ _ _ _ hr hl hj
theorem nth_mapR {f : RegK → RegK} {l : List RegK} {i : Int} (h0 : 0 ≤ i) (h1 : i < l.length) : nth (l.map f) i = f (nth l i) := by
  refine nth_of ?_
  rw [List.getElem?_map, nth_get h0 h1]
  rfl
theorem setV_reg (hr : 0 ≤ r) (hl : r < v.regs.length) (j : Int) (hj : 0 ≤ j) (hj2 : j < v.regs.length) : (setV v r t o).reg j = if j = r then ⟨t, o, false, -1, -1, -1⟩ else clr1 r (v.reg j) := by
  unfold setV VwD.reg
  rw [nth_set _ _ _ _ hr (by simpa using hl) hj]
  split
  · rfl
  · exact nth_mapR hj hj2
theorem Al.inv (h : Al v r) : (0 < (v.reg r).own ∨ (v.reg r).lent = true) ∨ (0 ≤ (v.reg r).frm ∧ Al v (v.reg r).frm) := by
  cases h with
  | here h => exact .inl h
  | up h1 h2 => exact .inr ⟨h1, h2⟩
/-- an update that changes neither where it was loaded from nor what is negative -/
theorem Wf.upd (h : Wf n B v) (hr : 0 ≤ r) (hl : r < n) (hB : B ≤ B') (h1 : 0 ≤ k.own ∧ k.own ≤ B') (h2 : k.frm = (v.reg r).frm) (h3 : -1 ≤ k.typ ∧ (k.typ < 0 → k.con = -1 ∧ k.frm = -1 ∧ k.field = -1)) (h4 : -1 ≤ k.con ∧ k.con ≤ 1000) (h5 : k.typ ≤ 1000 ∧ -1 ≤ k.field ∧ k.field ≤ 1000) : Wf n B' (v.upd r k) := by
  have hl' : r < v.regs.length := by rw [h.len]; exact hl
  have e := fun j hj => VwD.upd_reg (v := v) (k := k) hr hl' j hj
  obtain ⟨f, hf⟩ := h.rank
  refine ⟨by unfold VwD.upd; simpa using h.len, h.klen, fun j j0 j1 => ?_, fun j j0 j1 => ?_, fun j j0 j1 => ?_, fun j j0 j1 => ?_, fun j j0 j1 => ?_, h.kept_, f, fun j j0 j1 => ?_⟩
  all_goals rw [e j j0]; split
  · exact h1
  · have := h.own0 j j0 j1; exact ⟨this.1, by omega⟩
  · rename_i hj; rw [h2, ← hj]; exact h.frm j j0 j1
  · exact h.frm j j0 j1
  · exact h3
  · exact h.neg j j0 j1
  · exact h4
  · exact h.con j j0 j1
  · exact h5
  · exact h.sm j j0 j1
  · rename_i hj; rw [h2, ← hj]; exact hf j j0 j1
  · exact hf j j0 j1
theorem Wf.setV (h : Wf n B v) (hr : 0 ≤ r) (hl : r < n) (ht : 0 ≤ t ∧ t ≤ 1000) (ho : 0 ≤ o ∧ o ≤ 1) (hB : 1 ≤ B) : Wf n B (setV v r t o) := by
  have hl' : r < v.regs.length := by rw [h.len]; exact hl
  have e := fun j hj hj2 => setV_reg (v := v) (t := t) (o := o) hr hl' j hj hj2
  obtain ⟨f, hf⟩ := h.rank
  refine ⟨by unfold Go.Vc.setV; simpa using h.len, h.klen, fun j j0 j1 => ?_, fun j j0 j1 => ?_, fun j j0 j1 => ?_, fun j j0 j1 => ?_, fun j j0 j1 => ?_, h.kept_, f, fun j j0 j1 => ?_⟩
  all_goals rw [e j j0 (by rw [h.len]; exact j1)]; split
  · exact ⟨ho.1, by dsimp only; omega⟩
  · have := h.own0 j j0 j1; unfold clr1; split <;> exact this
  · exact ⟨by dsimp only; omega, by dsimp only; omega⟩
  · have := h.frm j j0 j1
    unfold clr1
    split
    · exact ⟨by dsimp only; omega, by dsimp only; omega⟩
    · exact this
  · exact ⟨by dsimp only; omega, fun _ => ⟨rfl, rfl, rfl⟩⟩
  · have := h.neg j j0 j1
    unfold clr1
    split
    · exact ⟨this.1, fun hh => ⟨(this.2 hh).1, rfl, rfl⟩⟩
    · exact this
  · exact ⟨by dsimp only; omega, by dsimp only; omega⟩
  · have := h.con j j0 j1; unfold clr1; split <;> exact this
  · exact ⟨by dsimp only; omega, by dsimp only; omega, by dsimp only; omega⟩
  · have := h.sm j j0 j1
    unfold clr1
    split
    · exact ⟨this.1, by dsimp only; omega, by dsimp only; omega⟩
    · exact this
  · intro hh; dsimp only at hh; omega
  · have := hf j j0 j1
    unfold clr1
    split
    · intro hh; dsimp only at hh; omega
    · exact this
/-- behind a set: loaded from another register -/
theorem Wf.link {x : Int} {i : Int} (h : Wf n B v) (hr : 0 ≤ r) (hl : r < n) (hx : 0 ≤ x) (hx1 : x < n) (hne : r ≠ x) (hi : 0 ≤ i ∧ i ≤ 1000) (ht : 0 ≤ (v.reg r).typ) (hno : ∀ j : Int, 0 ≤ j → j < n → (v.reg j).frm ≠ r) (hk : k = ⟨(v.reg r).typ, (v.reg r).own, (v.reg r).lent, (v.reg r).con, x, i⟩) : Wf n B (v.upd r k) := by
  have hl' : r < v.regs.length := by rw [h.len]; exact hl
  have e := fun j hj => VwD.upd_reg (v := v) (k := k) hr hl' j hj
  obtain ⟨f, hf⟩ := h.rank
  refine ⟨by unfold VwD.upd; simpa using h.len, h.klen, fun j j0 j1 => ?_, fun j j0 j1 => ?_, fun j j0 j1 => ?_, fun j j0 j1 => ?_, fun j j0 j1 => ?_, h.kept_, fun j => if j = r then f x + 1 else f j, fun j j0 j1 => ?_⟩
  all_goals rw [e j j0]; split
  · rw [hk]; exact h.own0 r hr hl
  · exact h.own0 j j0 j1
  · rw [hk]; exact ⟨by dsimp only; omega, by dsimp only; omega⟩
  · exact h.frm j j0 j1
  · rw [hk]; exact ⟨(h.neg r hr hl).1, fun hh => by dsimp only at hh; omega⟩
  · exact h.neg j j0 j1
  · rw [hk]; exact h.con r hr hl
  · exact h.con j j0 j1
  · rw [hk]; exact ⟨(h.sm r hr hl).1, by dsimp only; omega, by dsimp only; omega⟩
  · exact h.sm j j0 j1
  · rename_i hj
    subst hj
    rw [hk]
    intro _
    dsimp only
    rw [if_neg (fun hh => hne hh.symm), if_pos rfl]
    omega
  · rename_i hj
    intro hh
    have h3 := hf j j0 j1 hh
    dsimp only
    rw [if_neg (hno j j0 j1), if_neg hj]
    exact h3
end
end Go.Vc

namespace Go.Vc
open Go Go.Proofs Go.RowKit
set_option linter.all false
/-- a register is owned once less -/
def takeV (v : VwD) (r : Int) : Option VwD :=
  if (v.reg r).typ = 0 then some v else if (v.reg r).typ < 0 ∨ (v.reg r).own < 1 then none else some (v.upd r ⟨(v.reg r).typ, (v.reg r).own - 1, (v.reg r).lent, (v.reg r).con, (v.reg r).frm, (v.reg r).field⟩)
def lentA (ss : List SigD) (c : InstrD) (k : Int) : Bool := (decide (c.op = 9) || decide (c.op = 24)) && (nth ss c.num).lent.any (fun n => decide (n = k))
/-- the first i arguments are consumed -/
def takesV (ss : List SigD) (c : InstrD) : Nat → VwD → Option VwD
  | 0, v => some v
  | i + 1, v => (takesV ss c i v).bind fun v' => if lentA ss c i = true then some v' else takeV v' (nth c.args i)
def aliveV (ss : List SigD) (c : InstrD) (v : VwD) : Prop := ∀ k : Int, 0 ≤ k → k < c.args.length → lentA ss c k = true → Al v (nth c.args k)
def fitsV (c : InstrD) (ts : List Int) (v : VwD) : Prop := c.args.length = ts.length ∧ ∀ k : Int, 0 ≤ k → k < ts.length → (v.reg (nth c.args k)).typ = nth ts k
open Classical in
/-- the arguments have these types, and are consumed -/
noncomputable def argsV (ss : List SigD) (c : InstrD) (ts : List Int) (v : VwD) : Option VwD :=
  if fitsV c ts v then (takesV ss c ts.length v).bind fun v' => if aliveV ss c v' then some v' else none else none
def setW (v : VwD) (r t o : Int) : Option VwD := if (v.reg r).own ≠ 0 then none else some (setV v r t o)
def ownOf (t : Int) : Int := if t ≠ 0 then 1 else 0
def closedV (v : VwD) : Prop := (∀ r : Int, 0 ≤ r → r < v.regs.length → (v.reg r).own = 0) ∧ ∀ r : Int, 0 ≤ r → r < v.kept.length → nth v.kept r < 0
def slotsF (ts : List Int) : List Int := ((List.range ts.length).filter fun (i : Nat) => decide (nth ts i ≠ 0)).map fun (i : Nat) => (i : Int)
def incV (v : VwD) (r : Int) : VwD := v.upd r ⟨(v.reg r).typ, (v.reg r).own + 1, (v.reg r).lent, (v.reg r).con, (v.reg r).frm, (v.reg r).field⟩
def decV (v : VwD) (r : Int) : VwD := v.upd r ⟨(v.reg r).typ, (v.reg r).own - 1, (v.reg r).lent, (v.reg r).con, (v.reg r).frm, (v.reg r).field⟩
/-- the first i further arguments are owned once more -/
def incsV (c : InstrD) : Nat → VwD → VwD
  | 0, v => v
  | i + 1, v => incV (incsV c i v) (nth c.args (i + 1))
def keepV (v : VwD) (r k : Int) : VwD := ⟨v.regs, v.kept.set r.toNat k⟩
def openOk (ds : List DeclD) (c : InstrD) (v : VwD) : Prop :=
  0 ≤ (v.reg (nth c.args 0)).con ∧ 1 ≤ (v.reg (nth c.args 0)).own ∧ (c.op = 17 → nth v.kept (nth c.args 0) < 0) ∧ ((slotsF (conF ds (v.reg (nth c.args 0)).con)).length : Int) = (c.args.length : Int) - 1 ∧
  ∀ k : Int, 0 ≤ k → k < (slotsF (conF ds (v.reg (nth c.args 0)).con)).length → (v.reg (nth c.args (k + 1))).frm = nth c.args 0 ∧ (v.reg (nth c.args (k + 1))).field = nth (slotsF (conF ds (v.reg (nth c.args 0)).con)) k
open Classical in
noncomputable def openV (ds : List DeclD) (c : InstrD) (v : VwD) : Option VwD :=
  if openOk ds c v then
    (let v' := decV (incsV c (c.args.length - 1) v) (nth c.args 0)
     some (if c.op = 17 then keepV v' (nth c.args 0) (conF ds (v.reg (nth c.args 0)).con).length else v'))
  else none
/-- a cell that is kept is used -/
def intoV (c : InstrD) (v : VwD) : Option VwD := if c.into = 0 then some v else if nth v.kept (c.into - 1) ≠ c.args.length then none else some (keepV v (c.into - 1) (-1))
open Classical in
noncomputable def loadV (ds : List DeclD) (c : InstrD) (v : VwD) : Option VwD :=
  if 0 ≤ (v.reg (nth c.args 0)).con ∧ Al v (nth c.args 0) ∧ c.num < (conF ds (v.reg (nth c.args 0)).con).length then
    (setW v c.dst (nth (conF ds (v.reg (nth c.args 0)).con) c.num) 0).map fun v' => if c.dst = nth c.args 0 then v' else v'.upd c.dst ⟨(v'.reg c.dst).typ, (v'.reg c.dst).own, (v'.reg c.dst).lent, (v'.reg c.dst).con, nth c.args 0, c.num⟩
  else none
/-- the arrow type between two types, or -1 -/
def arrP (ds : List DeclD) (f t : Int) (i : Int) : Prop := (nth ds i).cons.length = 0 ∧ (nth ds i).frm = f ∧ (nth ds i).to_ = t
open Classical in
noncomputable def arrI (ds : List DeclD) (f t : Int) : Int := if ∃ i : Nat, i < ds.length ∧ arrP ds f t i then (leastM (fun i : Nat => i < ds.length ∧ arrP ds f t i) : Int) + 1 else -1
def isArr (ds : List DeclD) (t : Int) : Prop := 1 ≤ t ∧ t ≤ ds.length ∧ (nth ds (t - 1)).cons.length = 0
open Classical in
/-- an instruction -/
noncomputable def passV (ds : List DeclD) (ss : List SigD) (res : Int) (c : InstrD) (v : VwD) : Option VwD :=
  if c.op = 0 then setW v c.dst 0 0
  else if c.op = 1 ∨ c.op = 2 ∨ c.op = 3 ∨ c.op = 4 then (argsV ss c [0, 0] v).bind fun v' => setW v' c.dst 0 0
  else if c.op = 5 then (argsV ss c [0] v).bind fun v' => setW v' c.dst 0 0
  else if c.op = 20 then argsV ss c [0] v
  else if c.op = 6 then (argsV ss c (conF ds c.num) v).bind fun v' => (intoV c v').bind fun v' => setW v' c.dst (conTyV ds c.num) (ownOf (conTyV ds c.num))
  else if c.op = 9 then (argsV ss c (nth ss c.num).params v).bind fun v' => setW v' c.dst (nth ss c.num).result (ownOf (nth ss c.num).result)
  else if c.op = 24 then (argsV ss c (nth ss c.num).params v).bind fun v' => if (nth ss c.num).result = res ∧ closedV v' then some v' else none
  else if c.op = 10 then
    (if 0 < arrI ds (nth (nth ss c.num).params (((nth ss c.num).params.length : Int) - 1)) (nth ss c.num).result then (argsV ss c ((nth ss c.num).params.take ((nth ss c.num).params.length - 1)) v).bind fun v' => setW v' c.dst (arrI ds (nth (nth ss c.num).params (((nth ss c.num).params.length : Int) - 1)) (nth ss c.num).result) (ownOf (arrI ds (nth (nth ss c.num).params (((nth ss c.num).params.length : Int) - 1)) (nth ss c.num).result)) else none)
  else if c.op = 11 then
    (if isArr ds (v.reg (nth c.args 0)).typ then (argsV ss c [(v.reg (nth c.args 0)).typ, (nth ds ((v.reg (nth c.args 0)).typ - 1)).frm] v).bind fun v' => setW v' c.dst (nth ds ((v.reg (nth c.args 0)).typ - 1)).to_ (ownOf (nth ds ((v.reg (nth c.args 0)).typ - 1)).to_) else none)
  else if c.op = 14 then (if 1 ≤ (v.reg (nth c.args 0)).typ ∧ Al v (nth c.args 0) then some (incV v (nth c.args 0)) else none)
  else if c.op = 15 then (if 0 < (v.reg (nth c.args 0)).typ then takeV v (nth c.args 0) else none)
  else if c.op = 16 ∨ c.op = 17 then openV ds c v
  else if c.op = 18 then (if 0 ≤ (v.reg (nth c.args 0)).typ then (takeV v (nth c.args 0)).bind fun v' => setW v' c.dst (v.reg (nth c.args 0)).typ (ownOf (v.reg (nth c.args 0)).typ) else none)
  else if c.op = 19 then loadV ds c v
  else if c.op = 21 then (if (v.reg (nth c.args 0)).typ = c.num ∧ Al v (nth c.args 0) then some v else none)
  else if c.op = 23 then (argsV ss c [res] v).bind fun v' => if closedV v' then some v' else none
  else some v
/-- what is known by two ways -/
def joinR (a b : RegK) : RegK :=
  let t := if a.typ = b.typ then a.typ else -1
  ⟨t, a.own, a.lent && b.lent, if a.typ ≠ b.typ ∨ a.con ≠ b.con then -1 else a.con, if t < 0 ∨ a.frm ≠ b.frm ∨ a.field ≠ b.field then -1 else a.frm, if t < 0 ∨ a.frm ≠ b.frm ∨ a.field ≠ b.field then -1 else a.field⟩
def joinV (v w : VwD) : Option VwD := if v.regs.map (·.own) = w.regs.map (·.own) ∧ v.kept = w.kept then some ⟨List.zipWith joinR v.regs w.regs, v.kept⟩ else none
/-- what is known is brought to an instruction -/
def bringV (F : List (Option VwD)) (to : Int) (v : VwD) : Option (List (Option VwD)) :=
  match nth F to with
  | none => some (F.set to.toNat (some v))
  | some v0 => (joinV v0 v).map fun j => F.set to.toNat (some j)
def bringsV (v : VwD) : List Int → List (Option VwD) → Option (List (Option VwD))
  | [], F => some F
  | t :: r, F => (bringV F t v).bind (bringsV v r)
def nextV (c : InstrD) (at_ : Int) : List Int := if c.op = 23 ∨ c.op = 24 then [] else if c.op = 22 then [c.num] else if c.op = 20 then (if c.num = at_ + 1 then [at_ + 1] else [at_ + 1, c.num]) else [at_ + 1]
def conV (v : VwD) (r k : Int) : VwD := v.upd r ⟨(v.reg r).typ, (v.reg r).own, (v.reg r).lent, k, (v.reg r).frm, (v.reg r).field⟩
/-- .. for the first i constructors of a switch -/
def switchV (c : InstrD) (ks : List Int) (v : VwD) : Nat → List (Option VwD) → Option (List (Option VwD))
  | 0, F => some F
  | i + 1, F => (switchV c ks v i F).bind fun F' => if (v.reg (nth c.args 0)).con < 0 ∨ (v.reg (nth c.args 0)).con = nth ks i then bringV F' (nth c.jumps i) (conV v (nth c.args 0) (nth ks i)) else some F'
noncomputable def leaveV (ds : List DeclD) (c : InstrD) (at_ : Int) (v : VwD) (F : List (Option VwD)) : Option (List (Option VwD)) :=
  if c.op = 21 then switchV c (consL ds c.num) v (consL ds c.num).length F else bringsV v (nextV c at_) F
/-- the first n instructions are gone through -/
noncomputable def flowV (ds : List DeclD) (ss : List SigD) (p : ProcD) : Nat → List (Option VwD) → Option (List (Option VwD))
  | 0, F => some F
  | i + 1, F => (flowV ds ss p i F).bind fun F' => match nth F' i with
    | none => some F'
    | some v => (passV ds ss p.result (nth p.code i) v).bind fun v' => leaveV ds (nth p.code i) i v' F'
def firstR (p : ProcD) (i : Nat) : RegK :=
  if i < p.params.length then ⟨nth p.params i, if (p.lent.any fun n => decide (n = (i : Int))) = true then 0 else if nth p.params i ≠ 0 then 1 else 0, p.lent.any fun n => decide (n = (i : Int)), -1, -1, -1⟩ else ⟨-1, 0, false, -1, -1, -1⟩
def firstV (p : ProcD) : VwD := ⟨(List.range p.regs.toNat).map (firstR p), List.replicate p.regs.toNat (-1)⟩
def start0 (p : ProcD) : List (Option VwD) := (List.replicate p.code.length none).set 0 (some (firstV p))
noncomputable def verifyV (ds : List DeclD) (ss : List SigD) (p : ProcD) : Option (List (Option VwD)) := flowV ds ss p p.code.length (start0 p)
end Go.Vc

namespace Go.Vc
open Go Go.Proofs Go.RowKit
set_option linter.all false
def lentN (k : RegK) : Int := if k.lent = true then 1 else 0
/-- what the reference knows, in memory -/
def Vst (a : Addr) (v : VwD) (I : Items) : Prop := ∃ (x1 x2 x3 x4 x5 x6 x7 : Sl) (I0 J1 J2 J3 J4 J5 J6 J7 : Items), Cel a [x1.val, x2.val, x3.val, x4.val, x5.val, x6.val, x7.val] I0 ∧ OwnI x1 (v.regs.map RegK.typ) J1 ∧ OwnI x2 (v.regs.map RegK.own) J2 ∧ OwnI x3 (v.regs.map RegK.frm) J3 ∧ OwnI x4 (v.regs.map RegK.field) J4 ∧ OwnI x5 (v.regs.map RegK.con) J5 ∧ OwnI x6 v.kept J6 ∧ OwnI x7 (v.regs.map lentN) J7 ∧ I = I0 ++ (J1 ++ (J2 ++ (J3 ++ (J4 ++ (J5 ++ (J6 ++ J7))))))
section
variable {u w : World} {v : VwD} {a : Addr} {r n : Int} {k : RegK} {x : Sl} {I R L : Items} {f : RegK → Int}
theorem upd_set (h0 : 0 ≤ r) (h1 : r < v.regs.length) : (v.upd r k).regs.map f = (v.regs.map f).set r.toNat (f k) := by
  unfold VwD.upd
  rw [List.map_set]
theorem upd_same (h0 : 0 ≤ r) (h1 : r < v.regs.length) (hk : f k = f (v.reg r)) : (v.upd r k).regs.map f = v.regs.map f := by
  rw [upd_set h0 h1, hk]
  have e : f (v.reg r) = nth (v.regs.map f) r := by
    refine (nth_of ?_).symm
    rw [List.getElem?_map, nth_get h0 h1]
    rfl
  rw [e]
  exact set_same h0 (by simpa using h1)
theorem nth_col {f : RegK → Int} {l : List RegK} {i : Int} (h0 : 0 ≤ i) (h1 : i < l.length) : nth (l.map f) i = f (nth l i) := by
  refine nth_of ?_
  rw [List.getElem?_map, nth_get h0 h1]
  rfl
theorem go_col {K : Prop} (hr : Read w x (v.regs.map f)) (h0 : 0 ≤ r) (h1 : r < v.regs.length) (k : K) : IxOk x r ∧ K := ⟨hr.ix h0 (by simpa using h1), k⟩
theorem go_colg {C K : Prop} (hr : Read w x (v.regs.map f)) (h : C → 0 ≤ r ∧ r < v.regs.length) (k : K) : (C → IxOk x r) ∧ K := ⟨fun hc => hr.ix (h hc).1 (by simpa using (h hc).2), k⟩
theorem ld_col {K : Int → Prop} (hr : Read w x (v.regs.map f)) (h0 : 0 ≤ r) (h1 : r < v.regs.length) (k : K (f (v.reg r))) : ∃ n, w.cell? ((elA x r 1).add 0) = some (.int .i64 n) ∧ K n := by
  refine ld_int hr h0 (by simpa using h1) fun _ _ => ?_
  rw [nth_col h0 h1]; exact k
theorem ld_colg {C : Prop} {K : Int → Prop} (hr : Read w x (v.regs.map f)) (h : C → 0 ≤ r ∧ r < v.regs.length) (k : K (f (v.reg r))) : ∃ n, (C → w.cell? ((elA x r 1).add 0) = some (.int .i64 n)) ∧ K n := by
  rcases Classical.em C with hc | hc
  · obtain ⟨n, h1, h2⟩ := ld_col (K := fun n => f (v.reg r) = n) hr (h hc).1 (h hc).2 rfl
    exact ⟨n, fun _ => h1, by rw [← h2]; exact k⟩
  · exact ⟨_, fun h => absurd h hc, k⟩
theorem ld_colI (hr : Read w x (v.regs.map f)) (h0 : 0 ≤ r) (h1 : r < v.regs.length) : InI (f (v.reg r)) := by
  have := (hr.int h0 (by simpa using h1)).2
  rw [nth_col h0 h1] at this; exact this
theorem Vst.so1 (hV : Vst a v I) (hS : St u w (I ++ R)) : ∃ x : Sl, w.cell? (a.add 0) = some x.val ∧ Read w x (v.regs.map RegK.typ) ∧ ∀ {r n : Int} {k : RegK} {K : World → Prop}, 0 ≤ r → r < v.regs.length → InI n → k = ⟨n, (v.reg r).own, (v.reg r).lent, (v.reg r).con, (v.reg r).frm, (v.reg r).field⟩ → (∀ w' I', Vst a (v.upd r k) I' → St u w' (I' ++ R) → K w') → StoreAt w (elA x r 1) 0 [.int .i64 n] K := by
  obtain ⟨x1, x2, x3, x4, x5, x6, x7, I0, J1, J2, J3, J4, J5, J6, J7, hC, o1, o2, o3, o4, o5, o6, o7, rfl⟩ := hV
  replace hS : St u w (I0 ++ (J1 ++ (J2 ++ (J3 ++ (J4 ++ (J5 ++ (J6 ++ (J7 ++ R)))))))) := by simpa [List.append_assoc] using hS
  refine ⟨x1, Cel.load hC hS rfl, o1.read hS, fun {r n k K} h0 h1 hn hk kk => ?_⟩
  refine st_int (o1 u) hS h0 (by simpa using h1) hn ?_
  intro w2 J hO hS
  exact kk w2 (I0 ++ (J ++ (J2 ++ (J3 ++ (J4 ++ (J5 ++ (J6 ++ J7))))))) ⟨x1, x2, x3, x4, x5, x6, x7, I0, J, J2, J3, J4, J5, J6, J7, hC, (by rw [upd_set h0 h1, show RegK.typ k = n from by rw [hk]]; exact hO.toI), (by rw [upd_same h0 h1 (by rw [hk])]; exact o2), (by rw [upd_same h0 h1 (by rw [hk])]; exact o3), (by rw [upd_same h0 h1 (by rw [hk])]; exact o4), (by rw [upd_same h0 h1 (by rw [hk])]; exact o5), o6, (by rw [upd_same h0 h1 (by rw [hk]; rfl)]; exact o7), rfl⟩ (by simpa [List.append_assoc] using hS)
theorem Vst.so2 (hV : Vst a v I) (hS : St u w (I ++ R)) : ∃ x : Sl, w.cell? (a.add 1) = some x.val ∧ Read w x (v.regs.map RegK.own) ∧ ∀ {r n : Int} {k : RegK} {K : World → Prop}, 0 ≤ r → r < v.regs.length → InI n → k = ⟨(v.reg r).typ, n, (v.reg r).lent, (v.reg r).con, (v.reg r).frm, (v.reg r).field⟩ → (∀ w' I', Vst a (v.upd r k) I' → St u w' (I' ++ R) → K w') → StoreAt w (elA x r 1) 0 [.int .i64 n] K := by
  obtain ⟨x1, x2, x3, x4, x5, x6, x7, I0, J1, J2, J3, J4, J5, J6, J7, hC, o1, o2, o3, o4, o5, o6, o7, rfl⟩ := hV
  replace hS : St u w (I0 ++ (J1 ++ (J2 ++ (J3 ++ (J4 ++ (J5 ++ (J6 ++ (J7 ++ R)))))))) := by simpa [List.append_assoc] using hS
  refine ⟨x2, Cel.load hC hS rfl, o2.read hS, fun {r n k K} h0 h1 hn hk kk => ?_⟩
  refine st_int (o2 u) hS h0 (by simpa using h1) hn ?_
  intro w2 J hO hS
  exact kk w2 (I0 ++ (J1 ++ (J ++ (J3 ++ (J4 ++ (J5 ++ (J6 ++ J7))))))) ⟨x1, x2, x3, x4, x5, x6, x7, I0, J1, J, J3, J4, J5, J6, J7, hC, (by rw [upd_same h0 h1 (by rw [hk])]; exact o1), (by rw [upd_set h0 h1, show RegK.own k = n from by rw [hk]]; exact hO.toI), (by rw [upd_same h0 h1 (by rw [hk])]; exact o3), (by rw [upd_same h0 h1 (by rw [hk])]; exact o4), (by rw [upd_same h0 h1 (by rw [hk])]; exact o5), o6, (by rw [upd_same h0 h1 (by rw [hk]; rfl)]; exact o7), rfl⟩ (by simpa [List.append_assoc] using hS)
theorem Vst.so3 (hV : Vst a v I) (hS : St u w (I ++ R)) : ∃ x : Sl, w.cell? (a.add 2) = some x.val ∧ Read w x (v.regs.map RegK.frm) ∧ ∀ {r n : Int} {k : RegK} {K : World → Prop}, 0 ≤ r → r < v.regs.length → InI n → k = ⟨(v.reg r).typ, (v.reg r).own, (v.reg r).lent, (v.reg r).con, n, (v.reg r).field⟩ → (∀ w' I', Vst a (v.upd r k) I' → St u w' (I' ++ R) → K w') → StoreAt w (elA x r 1) 0 [.int .i64 n] K := by
  obtain ⟨x1, x2, x3, x4, x5, x6, x7, I0, J1, J2, J3, J4, J5, J6, J7, hC, o1, o2, o3, o4, o5, o6, o7, rfl⟩ := hV
  replace hS : St u w (I0 ++ (J1 ++ (J2 ++ (J3 ++ (J4 ++ (J5 ++ (J6 ++ (J7 ++ R)))))))) := by simpa [List.append_assoc] using hS
  refine ⟨x3, Cel.load hC hS rfl, o3.read hS, fun {r n k K} h0 h1 hn hk kk => ?_⟩
  refine st_int (o3 u) hS h0 (by simpa using h1) hn ?_
  intro w2 J hO hS
  exact kk w2 (I0 ++ (J1 ++ (J2 ++ (J ++ (J4 ++ (J5 ++ (J6 ++ J7))))))) ⟨x1, x2, x3, x4, x5, x6, x7, I0, J1, J2, J, J4, J5, J6, J7, hC, (by rw [upd_same h0 h1 (by rw [hk])]; exact o1), (by rw [upd_same h0 h1 (by rw [hk])]; exact o2), (by rw [upd_set h0 h1, show RegK.frm k = n from by rw [hk]]; exact hO.toI), (by rw [upd_same h0 h1 (by rw [hk])]; exact o4), (by rw [upd_same h0 h1 (by rw [hk])]; exact o5), o6, (by rw [upd_same h0 h1 (by rw [hk]; rfl)]; exact o7), rfl⟩ (by simpa [List.append_assoc] using hS)
theorem Vst.so4 (hV : Vst a v I) (hS : St u w (I ++ R)) : ∃ x : Sl, w.cell? (a.add 3) = some x.val ∧ Read w x (v.regs.map RegK.field) ∧ ∀ {r n : Int} {k : RegK} {K : World → Prop}, 0 ≤ r → r < v.regs.length → InI n → k = ⟨(v.reg r).typ, (v.reg r).own, (v.reg r).lent, (v.reg r).con, (v.reg r).frm, n⟩ → (∀ w' I', Vst a (v.upd r k) I' → St u w' (I' ++ R) → K w') → StoreAt w (elA x r 1) 0 [.int .i64 n] K := by
  obtain ⟨x1, x2, x3, x4, x5, x6, x7, I0, J1, J2, J3, J4, J5, J6, J7, hC, o1, o2, o3, o4, o5, o6, o7, rfl⟩ := hV
  replace hS : St u w (I0 ++ (J1 ++ (J2 ++ (J3 ++ (J4 ++ (J5 ++ (J6 ++ (J7 ++ R)))))))) := by simpa [List.append_assoc] using hS
  refine ⟨x4, Cel.load hC hS rfl, o4.read hS, fun {r n k K} h0 h1 hn hk kk => ?_⟩
  refine st_int (o4 u) hS h0 (by simpa using h1) hn ?_
  intro w2 J hO hS
  exact kk w2 (I0 ++ (J1 ++ (J2 ++ (J3 ++ (J ++ (J5 ++ (J6 ++ J7))))))) ⟨x1, x2, x3, x4, x5, x6, x7, I0, J1, J2, J3, J, J5, J6, J7, hC, (by rw [upd_same h0 h1 (by rw [hk])]; exact o1), (by rw [upd_same h0 h1 (by rw [hk])]; exact o2), (by rw [upd_same h0 h1 (by rw [hk])]; exact o3), (by rw [upd_set h0 h1, show RegK.field k = n from by rw [hk]]; exact hO.toI), (by rw [upd_same h0 h1 (by rw [hk])]; exact o5), o6, (by rw [upd_same h0 h1 (by rw [hk]; rfl)]; exact o7), rfl⟩ (by simpa [List.append_assoc] using hS)
theorem Vst.so5 (hV : Vst a v I) (hS : St u w (I ++ R)) : ∃ x : Sl, w.cell? (a.add 4) = some x.val ∧ Read w x (v.regs.map RegK.con) ∧ ∀ {r n : Int} {k : RegK} {K : World → Prop}, 0 ≤ r → r < v.regs.length → InI n → k = ⟨(v.reg r).typ, (v.reg r).own, (v.reg r).lent, n, (v.reg r).frm, (v.reg r).field⟩ → (∀ w' I', Vst a (v.upd r k) I' → St u w' (I' ++ R) → K w') → StoreAt w (elA x r 1) 0 [.int .i64 n] K := by
  obtain ⟨x1, x2, x3, x4, x5, x6, x7, I0, J1, J2, J3, J4, J5, J6, J7, hC, o1, o2, o3, o4, o5, o6, o7, rfl⟩ := hV
  replace hS : St u w (I0 ++ (J1 ++ (J2 ++ (J3 ++ (J4 ++ (J5 ++ (J6 ++ (J7 ++ R)))))))) := by simpa [List.append_assoc] using hS
  refine ⟨x5, Cel.load hC hS rfl, o5.read hS, fun {r n k K} h0 h1 hn hk kk => ?_⟩
  refine st_int (o5 u) hS h0 (by simpa using h1) hn ?_
  intro w2 J hO hS
  exact kk w2 (I0 ++ (J1 ++ (J2 ++ (J3 ++ (J4 ++ (J ++ (J6 ++ J7))))))) ⟨x1, x2, x3, x4, x5, x6, x7, I0, J1, J2, J3, J4, J, J6, J7, hC, (by rw [upd_same h0 h1 (by rw [hk])]; exact o1), (by rw [upd_same h0 h1 (by rw [hk])]; exact o2), (by rw [upd_same h0 h1 (by rw [hk])]; exact o3), (by rw [upd_same h0 h1 (by rw [hk])]; exact o4), (by rw [upd_set h0 h1, show RegK.con k = n from by rw [hk]]; exact hO.toI), o6, (by rw [upd_same h0 h1 (by rw [hk]; rfl)]; exact o7), rfl⟩ (by simpa [List.append_assoc] using hS)
theorem Vst.so6 (hV : Vst a v I) (hS : St u w (I ++ R)) : ∃ x : Sl, w.cell? (a.add 5) = some x.val ∧ Read w x v.kept ∧ ∀ {r n : Int} {K : World → Prop}, 0 ≤ r → r < v.kept.length → InI n → (∀ w' I', Vst a (keepV v r n) I' → St u w' (I' ++ R) → K w') → StoreAt w (elA x r 1) 0 [.int .i64 n] K := by
  obtain ⟨x1, x2, x3, x4, x5, x6, x7, I0, J1, J2, J3, J4, J5, J6, J7, hC, o1, o2, o3, o4, o5, o6, o7, rfl⟩ := hV
  replace hS : St u w (I0 ++ (J1 ++ (J2 ++ (J3 ++ (J4 ++ (J5 ++ (J6 ++ (J7 ++ R)))))))) := by simpa [List.append_assoc] using hS
  refine ⟨x6, Cel.load hC hS rfl, o6.read hS, fun {r n K} h0 h1 hn kk => ?_⟩
  refine st_int (o6 u) hS h0 h1 hn ?_
  intro w2 J hO hS
  exact kk w2 (I0 ++ (J1 ++ (J2 ++ (J3 ++ (J4 ++ (J5 ++ (J ++ J7))))))) ⟨x1, x2, x3, x4, x5, x6, x7, I0, J1, J2, J3, J4, J5, J, J7, hC, o1, o2, o3, o4, o5, hO.toI, o7, rfl⟩ (by simpa [List.append_assoc] using hS)
theorem Vst.so7 (hV : Vst a v I) (hS : St u w (I ++ R)) : ∃ x : Sl, w.cell? (a.add 6) = some x.val ∧ Read w x (v.regs.map lentN) ∧ ∀ {r n : Int} {k : RegK} {K : World → Prop}, 0 ≤ r → r < v.regs.length → k = ⟨(v.reg r).typ, (v.reg r).own, k.lent, (v.reg r).con, (v.reg r).frm, (v.reg r).field⟩ → n = lentN k → (∀ w' I', Vst a (v.upd r k) I' → St u w' (I' ++ R) → K w') → StoreAt w (elA x r 1) 0 [.int .i64 n] K := by
  obtain ⟨x1, x2, x3, x4, x5, x6, x7, I0, J1, J2, J3, J4, J5, J6, J7, hC, o1, o2, o3, o4, o5, o6, o7, rfl⟩ := hV
  replace hS : St u w (I0 ++ (J1 ++ (J2 ++ (J3 ++ (J4 ++ (J5 ++ (J6 ++ (J7 ++ R)))))))) := by simpa [List.append_assoc] using hS
  refine ⟨x7, Cel.load hC hS rfl, o7.read hS, fun {r n k K} h0 h1 hk hn kk => ?_⟩
  subst hn
  refine st_int (o7 u) hS h0 (by simpa using h1) (show InI (lentN k) by unfold lentN; split <;> exact ⟨by omega, by omega⟩) ?_
  intro w2 J hO hS
  exact kk w2 (I0 ++ (J1 ++ (J2 ++ (J3 ++ (J4 ++ (J5 ++ (J6 ++ J))))))) ⟨x1, x2, x3, x4, x5, x6, x7, I0, J1, J2, J3, J4, J5, J6, J, hC, (by rw [upd_same h0 h1 (by rw [hk])]; exact o1), (by rw [upd_same h0 h1 (by rw [hk])]; exact o2), (by rw [upd_same h0 h1 (by rw [hk])]; exact o3), (by rw [upd_same h0 h1 (by rw [hk])]; exact o4), (by rw [upd_same h0 h1 (by rw [hk])]; exact o5), o6, (by rw [upd_set h0 h1]; exact hO.toI), rfl⟩ (by simpa [List.append_assoc] using hS)
/-- .. read -/
def VRd (w : World) (a : Addr) (v : VwD) : Prop := ∃ (x1 x2 x3 x4 x5 x6 x7 : Sl), (w.cell? (a.add 0) = some x1.val ∧ Read w x1 (v.regs.map RegK.typ)) ∧ (w.cell? (a.add 1) = some x2.val ∧ Read w x2 (v.regs.map RegK.own)) ∧ (w.cell? (a.add 2) = some x3.val ∧ Read w x3 (v.regs.map RegK.frm)) ∧ (w.cell? (a.add 3) = some x4.val ∧ Read w x4 (v.regs.map RegK.field)) ∧ (w.cell? (a.add 4) = some x5.val ∧ Read w x5 (v.regs.map RegK.con)) ∧ (w.cell? (a.add 5) = some x6.val ∧ Read w x6 v.kept) ∧ (w.cell? (a.add 6) = some x7.val ∧ Read w x7 (v.regs.map lentN))
theorem VRd.k1 (h : VRd w a v) : ∃ x : Sl, w.cell? (a.add 0) = some x.val ∧ Read w x (v.regs.map RegK.typ) := let ⟨x1, x2, x3, x4, x5, x6, x7, h1, h2, h3, h4, h5, h6, h7⟩ := h; ⟨x1, h1⟩
theorem VRd.k2 (h : VRd w a v) : ∃ x : Sl, w.cell? (a.add 1) = some x.val ∧ Read w x (v.regs.map RegK.own) := let ⟨x1, x2, x3, x4, x5, x6, x7, h1, h2, h3, h4, h5, h6, h7⟩ := h; ⟨x2, h2⟩
theorem VRd.k3 (h : VRd w a v) : ∃ x : Sl, w.cell? (a.add 2) = some x.val ∧ Read w x (v.regs.map RegK.frm) := let ⟨x1, x2, x3, x4, x5, x6, x7, h1, h2, h3, h4, h5, h6, h7⟩ := h; ⟨x3, h3⟩
theorem VRd.k4 (h : VRd w a v) : ∃ x : Sl, w.cell? (a.add 3) = some x.val ∧ Read w x (v.regs.map RegK.field) := let ⟨x1, x2, x3, x4, x5, x6, x7, h1, h2, h3, h4, h5, h6, h7⟩ := h; ⟨x4, h4⟩
theorem VRd.k5 (h : VRd w a v) : ∃ x : Sl, w.cell? (a.add 4) = some x.val ∧ Read w x (v.regs.map RegK.con) := let ⟨x1, x2, x3, x4, x5, x6, x7, h1, h2, h3, h4, h5, h6, h7⟩ := h; ⟨x5, h5⟩
theorem VRd.k6 (h : VRd w a v) : ∃ x : Sl, w.cell? (a.add 5) = some x.val ∧ Read w x v.kept := let ⟨x1, x2, x3, x4, x5, x6, x7, h1, h2, h3, h4, h5, h6, h7⟩ := h; ⟨x6, h6⟩
theorem VRd.k7 (h : VRd w a v) : ∃ x : Sl, w.cell? (a.add 6) = some x.val ∧ Read w x (v.regs.map lentN) := let ⟨x1, x2, x3, x4, x5, x6, x7, h1, h2, h3, h4, h5, h6, h7⟩ := h; ⟨x7, h7⟩
theorem Vst.rd (hV : Vst a v I) (hS : St u w (I ++ R)) : VRd w a v := by
  obtain ⟨x1, a1, b1, _⟩ := hV.so1 hS
  obtain ⟨x2, a2, b2, _⟩ := hV.so2 hS
  obtain ⟨x3, a3, b3, _⟩ := hV.so3 hS
  obtain ⟨x4, a4, b4, _⟩ := hV.so4 hS
  obtain ⟨x5, a5, b5, _⟩ := hV.so5 hS
  obtain ⟨x6, a6, b6, _⟩ := hV.so6 hS
  obtain ⟨x7, a7, b7, _⟩ := hV.so7 hS
  exact ⟨x1, x2, x3, x4, x5, x6, x7, ⟨a1, b1⟩, ⟨a2, b2⟩, ⟨a3, b3⟩, ⟨a4, b4⟩, ⟨a5, b5⟩, ⟨a6, b6⟩, ⟨a7, b7⟩⟩
theorem VRd.mono {w2 : World} (h : VRd w a v) (hs : Sub w w2) : VRd w2 a v := let ⟨x1, x2, x3, x4, x5, x6, x7, h1, h2, h3, h4, h5, h6, h7⟩ := h; ⟨x1, x2, x3, x4, x5, x6, x7, ⟨cell_sub hs h1.1, h1.2.mono hs⟩, ⟨cell_sub hs h2.1, h2.2.mono hs⟩, ⟨cell_sub hs h3.1, h3.2.mono hs⟩, ⟨cell_sub hs h4.1, h4.2.mono hs⟩, ⟨cell_sub hs h5.1, h5.2.mono hs⟩, ⟨cell_sub hs h6.1, h6.2.mono hs⟩, ⟨cell_sub hs h7.1, h7.2.mono hs⟩⟩
end
end Go.Vc

namespace Go.Vc
open Go Go.Proofs Go.RowKit
set_option linter.all false
theorem go_rf {α : Type} {a : α} {K : Prop} (k : K) : a = a ∧ K := ⟨rfl, k⟩
/-- the end of a function that changes what is known -/
def OpR (u : World) (R : Items) (a : Addr) : Option VwD → Value → World → Prop
  | none, r, w => r = .bool false ∧ Sub u w
  | some v, r, w => ∃ I, r = .bool true ∧ Vst a v I ∧ St u w (I ++ R)
section
variable {u w : World} {v : VwD} {a : Addr} {r t n i : Int} {k : RegK} {x y : Sl} {I R L : Items} {N B : Nat} {ds : List DeclD} {ss : List SigD} {c : InstrD}
theorem Wf.lenI (h : Wf N B v) : (v.regs.length : Int) = N := by rw [h.len]
theorem c_vAlive (hV : VRd w a v) (hw : Wf N B v) (h0 : 0 ≤ r) (h1 : r < N) : Fn Tryz.prog 76 #[.pointer (some (a.add 0)), .int .i64 r] w (.bool (alB v r)) := by
  refine of76 _ _ _ _ ?_
  unfold vc76
  obtain ⟨f, hf⟩ := hw.rank
  have hl := hw.lenI
  refine ⟨fun k w' => w = w' ∧ 0 ≤ k ∧ k < N ∧ (Al v k ↔ Al v r), fun k _ => f k, ⟨rfl, h0, h1, .rfl⟩, ?_⟩
  rintro k _ ⟨rfl, k0, k1, hk⟩
  obtain ⟨x2, e2, r2⟩ := hV.k2
  obtain ⟨x7, e7, r7⟩ := hV.k7
  obtain ⟨x3, e3, r3⟩ := hV.k3
  refine ⟨x2, e2, ?_⟩
  refine go_col r2 k0 (by omega) ?_
  refine ld_col r2 k0 (by omega) ?_
  refine ⟨x7, fun _ => e7, ?_⟩
  refine go_colg r7 (fun _ => ⟨k0, by omega⟩) ?_
  refine ld_colg r7 (fun _ => ⟨k0, by omega⟩) ?_
  refine ⟨fun hc => ?_, fun hc => ?_⟩
  · simp only [bls] at hc
    have hl0 : (v.reg k).lent = false := by
      have := hc.2; unfold lentN at this; split at this
      · omega
      · rename_i hh; simpa using hh
    refine ⟨x3, e3, ?_⟩
    refine go_col r3 k0 (by omega) ?_
    refine ld_col r3 k0 (by omega) ?_
    have hfr := hw.frm k k0 k1
    have hcase : Al v k ↔ (0 ≤ (v.reg k).frm ∧ Al v (v.reg k).frm) := by
      constructor
      · intro h
        rcases h.inv with (h | h) | h
        · omega
        · rw [hl0] at h; cases h
        · exact h
      · intro h; exact .up h.1 h.2
    refine ⟨fun hd => ?_, fun hd => ?_⟩
    · simp only [bls] at hd
      refine ⟨?_, .refl _⟩
      have : ¬ Al v r := fun h => by have := (hcase.1 (hk.2 h)).1; omega
      simp [alB, this]
    · simp only [bls] at hd
      exact ⟨⟨rfl, hd, hfr.2, ⟨fun h => hk.1 (hcase.2 ⟨hd, h⟩), fun h => (hcase.1 (hk.2 h)).2⟩⟩, hf k k0 k1 hd⟩
  · simp only [bls] at hc
    refine ⟨?_, .refl _⟩
    have : Al v r := hk.1 (.here (by
      rcases hc with h | h
      · exact .inl (by omega)
      · refine .inr ?_
        cases hh : (v.reg k).lent with
        | true => rfl
        | false => exact absurd (by unfold lentN; rw [hh]; rfl) h))
    simp [alB, this]
theorem c_vClosed (hV : VRd w a v) (hw : Wf N B v) : ∃ q, (q = true ↔ closedV v) ∧ Fn Tryz.prog 81 #[.pointer (some (a.add 0))] w (.bool q) := by
  classical
  refine ⟨decide (closedV v), by simp, ?_⟩
  refine of81 _ _ _ ?_
  unfold vc81
  have hl := hw.lenI
  have hk := hw.klen
  have hb : (v.regs.length : Int) ≤ 1099511627776 := by
    obtain ⟨_, _, h⟩ := hV.k2
    have := h.le
    simp only [List.length_map] at this
    omega
  refine ⟨fun k w' => w = w' ∧ 0 ≤ k ∧ k ≤ N ∧ (∀ j : Int, 0 ≤ j → j < k → (v.reg j).own = 0 ∧ nth v.kept j < 0), fun k _ => (N - k).toNat, ⟨rfl, by omega, by omega, fun j h0 h1 => by omega⟩, ?_⟩
  rintro k _ ⟨rfl, k0, k1, hj⟩
  dsimp only
  obtain ⟨x2, e2, r2⟩ := hV.k2
  obtain ⟨x6, e6, r6⟩ := hV.k6
  have hn := r2.n
  simp only [List.length_map] at hn
  refine ⟨x2, e2, fun hi => ?_, fun hi => ?_⟩
  · simp only [bls] at hi
    refine ⟨x2, e2, ?_⟩
    refine go_col r2 k0 (by omega) ?_
    refine ld_col r2 k0 (by omega) ?_
    refine ⟨x6, fun _ => e6, ?_⟩
    refine go_ixg r6 (fun _ => ⟨k0, by omega⟩) ?_
    refine ld_intg r6 (fun _ => ⟨k0, by omega⟩) ?_
    refine ⟨fun hc => ?_, fun hc => ?_⟩
    · simp only [bls] at hc
      refine ⟨?_, .refl _⟩
      have : ¬ closedV v := fun h => by
        have h1 := h.1 k k0 (by omega)
        have h2 := h.2 k k0 (by omega)
        rcases hc with h | h
        · exact h h1
        · omega
      simp [this]
    · simp only [bls] at hc
      refine go_wr (by omega) (by omega) ?_
      refine ⟨⟨rfl, by omega, by omega, fun j j0 j1 => ?_⟩, by omega⟩
      by_cases e : j = k
      · subst e; exact ⟨hc.1, by omega⟩
      · exact hj j j0 (by omega)
  · simp only [bls] at hi
    refine ⟨?_, .refl _⟩
    have : closedV v := ⟨fun r h0 h1 => (hj r h0 (by omega)).1, fun r h0 h1 => (hj r h0 (by omega)).2⟩
    simp [this]
end
end Go.Vc

namespace Go.Vc
open Go Go.Proofs Go.RowKit
set_option linter.all false
theorem OpR.use {u : World} {R : Items} {a : Addr} {P : Program} {f : FuncId} {args : Array Value} {w : World} {o : Option VwD} {K : Value → World → Prop} (h : Trip P f args w (OpR u R a o))
    (k1 : o = none → ∀ w', Sub u w' → K (.bool false) w') (k2 : ∀ v' I w', o = some v' → Vst a v' I → St u w' (I ++ R) → K (.bool true) w') : Trip P f args w K := by
  refine h.mono' fun r w' hr => ?_
  cases o with
  | none => obtain ⟨rfl, hs⟩ := hr; exact k1 rfl _ hs
  | some v' => obtain ⟨I, rfl, hV, hS⟩ := hr; exact k2 _ _ _ rfl hV hS
section
variable {u w : World} {v v' : VwD} {a : Addr} {r t n i o : Int} {k k' : RegK} {x y z : Sl} {I R L : Items} {N B B' : Nat} {ds : List DeclD} {ss : List SigD} {ps : List ProcD} {c : InstrD} {ts : List Int}
theorem VwD.upd_upd : (v.upd r k).upd r k' = v.upd r k' := by unfold VwD.upd; simp
theorem VwD.upd_self (h0 : 0 ≤ r) (h1 : r < v.regs.length) : (v.upd r k).reg r = k := by rw [VwD.upd_reg h0 h1 r h0, if_pos rfl]
theorem VwD.upd_len : (v.upd r k).regs.length = v.regs.length := by unfold VwD.upd; simp
theorem VwD.upd_kept : (v.upd r k).kept = v.kept := rfl
theorem VwD.ext' (hl : v.regs.length = v'.regs.length) (hr : ∀ j : Int, 0 ≤ j → j < v.regs.length → v.reg j = v'.reg j) (hk : v.kept = v'.kept) : v = v' := by
  obtain ⟨a, b⟩ := v
  obtain ⟨a', b'⟩ := v'
  have : a = a' := by
    refine List.ext_getElem? fun i => ?_
    by_cases hi : i < a.length
    · have := hr i (by omega) (by show (i : Int) < a.length; omega)
      have e1 := nth_get (l := a) (i := i) (by omega) (by omega)
      have e2 := nth_get (l := a') (i := i) (by omega) (by have : a.length = a'.length := hl; omega)
      rw [show ((i : Int)).toNat = i from by omega] at e1 e2
      rw [e1, e2]
      exact congrArg some this
    · rw [List.getElem?_eq_none (by omega), List.getElem?_eq_none (by have : a.length = a'.length := hl; omega)]
  subst this
  cases hk
  rfl
theorem c_vSet (hV : Vst a v I) (hS : St u w (I ++ R)) (hw : Wf N B v) (h0 : 0 ≤ r) (h1 : r < N) (ht : InI t) : Trip Tryz.prog 71 #[.pointer (some (a.add 0)), .int .i64 r, .int .i64 t] w (OpR u R a (setW v r t 0)) := by
  refine of71 _ _ _ _ _ ?_
  unfold vc71
  have hl := hw.lenI
  have hb : (v.regs.length : Int) ≤ 1099511627776 := by
    obtain ⟨_, _, h⟩ := (hV.rd hS).k2
    have := h.le
    simp only [List.length_map] at this
    omega
  obtain ⟨x2, e2, r2, _⟩ := hV.so2 hS
  refine ⟨x2, e2, ?_⟩
  refine go_col r2 h0 (by omega) ?_
  refine ld_col r2 h0 (by omega) ?_
  refine ⟨fun hc => ?_, fun hc => ?_⟩
  · simp only [bls] at hc
    rw [show setW v r t 0 = none from if_pos hc]
    exact ⟨rfl, hS.sub⟩
  simp only [bls] at hc
  rw [show setW v r t 0 = some (setV v r t 0) from if_neg (by omega)]
  refine ⟨fun k w' => ∃ v' I', Vst a v' I' ∧ St u w' (I' ++ R) ∧ 0 ≤ k ∧ k ≤ N ∧ v'.regs.length = v.regs.length ∧ v'.kept = v.kept ∧ (∀ j : Int, 0 ≤ j → j < N → v'.reg j = if j < k then clr1 r (v.reg j) else v.reg j), fun k _ => (N - k).toNat, ⟨v, I, hV, hS, by omega, by omega, rfl, rfl, fun j j0 j1 => by rw [if_neg (by omega)]⟩, ?_⟩
  clear hV hS e2 r2
  rintro k w ⟨v', I', hV, hS, k0, k1, hl', hk', hj⟩
  dsimp only
  obtain ⟨x3, e3, r3, st3⟩ := hV.so3 hS
  have hn := r3.n
  simp only [List.length_map] at hn
  refine ⟨x3, e3, fun hi => ?_, fun hi => ?_⟩
  · simp only [bls] at hi
    refine ⟨x3, e3, ?_⟩
    refine go_col r3 k0 (by omega) ?_
    refine ld_col r3 k0 (by omega) ?_
    have hjk := hj k k0 (by omega)
    rw [if_neg (by omega)] at hjk
    refine ⟨fun hd => ?_, fun hd => ?_⟩
    · simp only [bls] at hd
      refine ⟨x3, e3, ?_⟩
      refine go_col r3 k0 (by omega) ?_
      refine st3 k0 (by omega) (by constructor <;> omega) rfl ?_
      intro w1 I1 hV hS
      obtain ⟨x4, e4, r4, st4⟩ := hV.so4 hS
      refine ⟨x4, e4, ?_⟩
      refine go_col r4 k0 (by rw [VwD.upd_len]; omega) ?_
      refine st4 k0 (by rw [VwD.upd_len]; omega) (by constructor <;> omega) rfl ?_
      intro w2 I2 hV hS
      rw [VwD.upd_upd, VwD.upd_self k0 (by omega)] at hV
      dsimp only at hV
      refine go_wr (by omega) (by omega) ?_
      refine ⟨⟨_, I2, hV, hS, by omega, by omega, by rw [VwD.upd_len]; exact hl', hk', fun j j0 j1 => ?_⟩, by omega⟩
      rw [VwD.upd_reg k0 (by omega) j j0]
      by_cases e : j = k
      · subst e
        rw [if_pos rfl, if_pos (by omega)]
        unfold clr1
        rw [hjk] at hd ⊢
        rw [if_pos hd]
      · rw [if_neg e, hj j j0 j1]
        by_cases e2 : j < k
        · rw [if_pos e2, if_pos (by omega)]
        · rw [if_neg e2, if_neg (by omega)]
    · simp only [bls] at hd
      refine go_wr (by omega) (by omega) ?_
      refine ⟨⟨v', I', hV, hS, by omega, by omega, hl', hk', fun j j0 j1 => ?_⟩, by omega⟩
      by_cases e : j = k
      · subst e
        rw [hjk, if_pos (by omega)]
        unfold clr1
        rw [hjk] at hd
        rw [if_neg hd]
      · rw [hj j j0 j1]
        by_cases e2 : j < k
        · rw [if_pos e2, if_pos (by omega)]
        · rw [if_neg e2, if_neg (by omega)]
  · simp only [bls] at hi
    have hall : ∀ j : Int, 0 ≤ j → j < N → v'.reg j = clr1 r (v.reg j) := fun j j0 j1 => by rw [hj j j0 j1, if_pos (by omega)]
    have hown : (v'.reg r).own = 0 := by rw [hall r h0 h1]; unfold clr1; split <;> exact hc
    obtain ⟨x1, e1, r1, st1⟩ := hV.so1 hS
    refine ⟨x1, e1, ?_⟩
    refine go_col r1 h0 (by omega) ?_
    refine st1 h0 (by omega) ht rfl ?_
    clear hV hS st3 st1 r1 r3 e1 e3
    intro w1 I1 hV hS
    obtain ⟨x1, e1, r1, st1⟩ := hV.so3 hS
    refine ⟨x1, e1, ?_⟩
    refine go_col r1 h0 (by rw [VwD.upd_len]; omega) ?_
    refine st1 h0 (by rw [VwD.upd_len]; omega) (by constructor <;> omega) rfl ?_
    clear hV hS st1 r1 e1
    intro w2 I2 hV hS
    rw [VwD.upd_upd, VwD.upd_self h0 (by omega)] at hV
    dsimp only at hV
    obtain ⟨x1, e1, r1, st1⟩ := hV.so4 hS
    refine ⟨x1, e1, ?_⟩
    refine go_col r1 h0 (by rw [VwD.upd_len]; omega) ?_
    refine st1 h0 (by rw [VwD.upd_len]; omega) (by constructor <;> omega) rfl ?_
    clear hV hS st1 r1 e1
    intro w3 I3 hV hS
    rw [VwD.upd_upd, VwD.upd_self h0 (by omega)] at hV
    dsimp only at hV
    obtain ⟨x1, e1, r1, st1⟩ := hV.so5 hS
    refine ⟨x1, e1, ?_⟩
    refine go_col r1 h0 (by rw [VwD.upd_len]; omega) ?_
    refine st1 h0 (by rw [VwD.upd_len]; omega) (by constructor <;> omega) rfl ?_
    clear hV hS st1 r1 e1
    intro w4 I4 hV hS
    rw [VwD.upd_upd, VwD.upd_self h0 (by omega)] at hV
    dsimp only at hV
    obtain ⟨x1, e1, r1, st1⟩ := hV.so7 hS
    refine ⟨x1, e1, ?_⟩
    refine go_col r1 h0 (by rw [VwD.upd_len]; omega) ?_
    refine st1 (k := ⟨t, 0, false, -1, -1, -1⟩) h0 (by rw [VwD.upd_len]; omega) (by rw [VwD.upd_self h0 (by omega)]; dsimp only; rw [hown]) (by rfl) ?_
    clear hV hS st1 r1 e1
    intro w5 I5 hV hS
    rw [VwD.upd_upd] at hV
    refine ⟨I5, rfl, ?_, hS⟩
    rw [show setV v r t 0 = v'.upd r ⟨t, 0, false, -1, -1, -1⟩ from ?_]
    · exact hV
    refine VwD.ext' (by rw [VwD.upd_len, hl']; unfold setV; simp) (fun j j0 j1 => ?_) hk'.symm
    have j1' : j < v.regs.length := by unfold setV at j1; simpa using j1
    rw [setV_reg h0 (by omega) j j0 j1', VwD.upd_reg h0 (by omega) j j0, hall j j0 (by omega)]
theorem c_vSetOwned (hV : Vst a v I) (hS : St u w (I ++ R)) (hw : Wf N B v) (h0 : 0 ≤ r) (h1 : r < N) (ht : InI t) : Trip Tryz.prog 79 #[.pointer (some (a.add 0)), .int .i64 r, .int .i64 t] w (OpR u R a (setW v r t (ownOf t))) := by
  refine of79 _ _ _ _ _ ?_
  unfold vc79
  have hl := hw.lenI
  refine OpR.use (c_vSet hV hS hw h0 h1 ht) (fun hn w' hs => ?_) (fun v' I' w' hn hV hS => ?_)
  · refine ⟨false, rfl, fun _ => ?_, fun h => by cases h⟩
    unfold setW at hn ⊢
    split at hn
    · rename_i h; rw [if_pos h]; exact ⟨rfl, hs⟩
    · cases hn
  · refine ⟨true, rfl, (fun h => by cases h), fun _ => ?_⟩
    unfold setW at hn ⊢
    split at hn
    · cases hn
    rename_i h
    cases hn
    rw [if_neg h]
    have hlen : (setV v r t 0).regs.length = v.regs.length := by unfold setV; simp
    have hreg : (setV v r t 0).reg r = ⟨t, 0, false, -1, -1, -1⟩ := by rw [setV_reg h0 (by omega) r h0 (by omega), if_pos rfl]
    refine ⟨fun hc => ?_, fun hc => ?_⟩
    · simp only [bls] at hc
      obtain ⟨x2, e2, r2, st2⟩ := hV.so2 hS
      refine ⟨x2, e2, ?_⟩
      refine go_col r2 h0 (by omega) ?_
      refine st2 h0 (by omega) (by constructor <;> omega) rfl ?_
      intro w1 I1 hV hS
      rw [hreg] at hV
      refine ⟨I1, rfl, ?_, hS⟩
      rw [show setV v r t (ownOf t) = (setV v r t 0).upd r ⟨t, 1, false, -1, -1, -1⟩ from ?_]
      · exact hV
      unfold ownOf
      rw [if_pos hc]
      unfold setV VwD.upd
      simp
    · simp only [bls] at hc
      refine ⟨I', rfl, ?_, hS⟩
      rw [show ownOf t = 0 from by unfold ownOf; rw [if_neg (by simpa using hc)]]
      exact hV
theorem c_vTake (hV : Vst a v I) (hS : St u w (I ++ R)) (hw : Wf N B v) (hB : B ≤ 1099511627776) (h0 : 0 ≤ r) (h1 : r < N) : Trip Tryz.prog 77 #[.pointer (some (a.add 0)), .int .i64 r] w (OpR u R a (takeV v r)) := by
  refine of77 _ _ _ _ ?_
  unfold vc77
  have hl := hw.lenI
  obtain ⟨x1, e1, r1, _⟩ := hV.so1 hS
  obtain ⟨x2, e2, r2, st2⟩ := hV.so2 hS
  have ho := hw.own0 r h0 h1
  unfold takeV
  refine ⟨x1, e1, ?_⟩
  refine go_col r1 h0 (by omega) ?_
  refine ld_col r1 h0 (by omega) ?_
  refine ⟨fun hc => ?_, fun hc => ?_⟩
  · simp only [bls] at hc
    rw [if_pos hc]
    exact ⟨I, rfl, hV, hS⟩
  simp only [bls] at hc
  rw [if_neg hc]
  refine ⟨x1, e1, ?_⟩
  refine go_col r1 h0 (by omega) ?_
  refine ld_col r1 h0 (by omega) ?_
  refine ⟨x2, fun _ => e2, ?_⟩
  refine go_colg r2 (fun _ => ⟨h0, by omega⟩) ?_
  refine ld_colg r2 (fun _ => ⟨h0, by omega⟩) ?_
  refine ⟨fun hd => ?_, fun hd => ?_⟩
  · simp only [bls] at hd
    rw [if_pos hd]
    exact ⟨rfl, hS.sub⟩
  · simp only [bls] at hd
    rw [if_neg (by omega)]
    refine ⟨x2, e2, x2, e2, ?_⟩
    refine go_col r2 h0 (by omega) ?_
    refine ld_col r2 h0 (by omega) ?_
    refine go_wr (by omega) (by omega) ?_
    refine go_col r2 h0 (by omega) ?_
    refine st2 h0 (by omega) (by constructor <;> omega) rfl ?_
    intro w1 I1 hV hS
    exact ⟨I1, rfl, hV, hS⟩
theorem takeV_wf (hw : Wf N B v) (h0 : 0 ≤ r) (h1 : r < N) (h : takeV v r = some v') : Wf N B v' := by
  unfold takeV at h
  split at h
  · cases h; exact hw
  split at h
  · cases h
  rename_i h2 h3
  cases h
  have ho := hw.own0 r h0 h1
  refine hw.upd h0 h1 (Nat.le_refl _) ⟨by dsimp only; omega, by dsimp only; omega⟩ rfl ?_ (hw.con r h0 h1) (hw.sm r h0 h1)
  exact hw.neg r h0 h1
theorem takeV_typ (h0 : 0 ≤ r) (h1 : r < v.regs.length) (h : takeV v r = some v') (j : Int) (j0 : 0 ≤ j) : (v'.reg j).typ = (v.reg j).typ ∧ (v'.reg j).frm = (v.reg j).frm ∧ (v'.reg j).field = (v.reg j).field ∧ (v'.reg j).con = (v.reg j).con ∧ (v'.reg j).lent = (v.reg j).lent ∧ v'.regs.length = v.regs.length ∧ v'.kept = v.kept := by
  unfold takeV at h
  split at h
  · cases h; exact ⟨rfl, rfl, rfl, rfl, rfl, rfl, rfl⟩
  split at h
  · cases h
  cases h
  rw [VwD.upd_reg h0 h1 j j0, VwD.upd_len]
  split
  · rename_i e; subst e; exact ⟨rfl, rfl, rfl, rfl, rfl, rfl, rfl⟩
  · exact ⟨rfl, rfl, rfl, rfl, rfl, rfl, rfl⟩
theorem any_mem {l : List Int} : (l.any fun m => decide (m = n)) = decide (n ∈ l) := by
  rw [Bool.eq_iff_iff]
  simp only [List.any_eq_true, decide_eq_true_eq]
  constructor
  · rintro ⟨m, hm, rfl⟩; exact hm
  · intro h; exact ⟨n, h, rfl⟩
theorem c_lentArg {ax jx : Sl} (hy : Read w y ps) (hn : c.op = 9 ∨ c.op = 24 → 0 ≤ c.num ∧ c.num < ps.length) : Fn Tryz.prog 111 #[.agg #[x.val, y.val], .agg #[.int .i64 c.op, .int .i64 c.dst, .int .i64 c.num, .int .i64 c.into, ax.val, jx.val], .int .i64 i] w (.bool (lentA (ps.map sigOf) c i)) := by
  refine of111 _ _ _ _ _ _ _ _ _ _ _ ?_
  unfold vc111
  have hn' : ((decide (c.op = 9)) || (decide (c.op = 24))) = true → 0 ≤ c.num ∧ c.num < ps.length := fun h => by
    simp only [bls] at h; exact hn h
  refine go_ixg hy hn' ?_
  refine ldg_proc_lent (hy.src (.refl _)) hn' ?_
  intro f hf
  refine ⟨_, fun h => c_specIsIn (hf h), ?_, .refl _⟩
  unfold lentA
  rw [nth_sig]
  unfold sigOf
  rw [any_mem]
theorem takesV_none {i j : Nat} (h : takesV ss c i v = none) (hij : i ≤ j) : takesV ss c j v = none := by
  induction j with
  | zero => rw [show i = 0 from by omega] at h; exact h
  | succ j ih =>
    rcases Nat.lt_or_ge i (j + 1) with h1 | h1
    · simp [takesV, ih (by omega)]
    · rw [show i = j + 1 from by omega] at h; exact h
theorem takesV_typ {i : Nat} (hA : ∀ k : Int, 0 ≤ k → k < c.args.length → 0 ≤ nth c.args k ∧ nth c.args k < v.regs.length) (hi : i ≤ c.args.length) (h : takesV ss c i v = some v') (j : Int) (j0 : 0 ≤ j) : (v'.reg j).typ = (v.reg j).typ ∧ (v'.reg j).frm = (v.reg j).frm ∧ (v'.reg j).field = (v.reg j).field ∧ (v'.reg j).con = (v.reg j).con ∧ (v'.reg j).lent = (v.reg j).lent ∧ v'.regs.length = v.regs.length ∧ v'.kept = v.kept := by
  induction i generalizing v' with
  | zero => cases h; exact ⟨rfl, rfl, rfl, rfl, rfl, rfl, rfl⟩
  | succ i ih =>
    unfold takesV at h
    cases h1 : takesV ss c i v with
    | none => rw [h1] at h; cases h
    | some v1 =>
      rw [h1] at h
      simp only [Option.bind_some] at h
      obtain ⟨a1, a2, a3, a4, a5, a6, a7⟩ := ih (by omega) h1
      split at h
      · cases h; exact ⟨a1, a2, a3, a4, a5, a6, a7⟩
      · have hb := hA i (by omega) (by omega)
        obtain ⟨b1, b2, b3, b4, b5, b6, b7⟩ := takeV_typ hb.1 (by omega) h j j0
        exact ⟨b1.trans a1, b2.trans a2, b3.trans a3, b4.trans a4, b5.trans a5, b6.trans a6, b7.trans a7⟩
theorem takesV_wf {i : Nat} (hw : Wf N B v) (hA : ∀ k : Int, 0 ≤ k → k < c.args.length → 0 ≤ nth c.args k ∧ nth c.args k < N) (hi : i ≤ c.args.length) (h : takesV ss c i v = some v') : Wf N B v' := by
  induction i generalizing v' with
  | zero => cases h; exact hw
  | succ i ih =>
    unfold takesV at h
    cases h1 : takesV ss c i v with
    | none => rw [h1] at h; cases h
    | some v1 =>
      rw [h1] at h
      simp only [Option.bind_some] at h
      split at h
      · cases h; exact ih (by omega) h1
      · have hb := hA i (by omega) (by omega)
        exact takeV_wf (ih (by omega) h1) hb.1 hb.2 h
theorem argsV_wf (hw : Wf N B v) (hA : ∀ k : Int, 0 ≤ k → k < c.args.length → 0 ≤ nth c.args k ∧ nth c.args k < N) (h : argsV ss c ts v = some v') : Wf N B v' := by
  unfold argsV at h
  split at h
  · rename_i hf
    cases h1 : takesV ss c ts.length v with
    | none => rw [h1] at h; cases h
    | some v1 =>
      rw [h1] at h
      simp only [Option.bind_some] at h
      split at h
      · cases h; exact takesV_wf hw hA (by rw [hf.1]; omega) h1
      · cases h
  · cases h
theorem c_takeArgs {ax jx tx : Sl} (hy : Read u y ps) (hax : Read u ax c.args) (ht : Read u tx ts) (hV : Vst a v I) (hS : St u w (I ++ R)) (hw : Wf N B v) (hB : B ≤ 1099511627776) (hn : c.op = 9 ∨ c.op = 24 → 0 ≤ c.num ∧ c.num < ps.length)
    (hA : ∀ k : Int, 0 ≤ k → k < c.args.length → 0 ≤ nth c.args k ∧ nth c.args k < N) :
    Trip Tryz.prog 72 #[.pointer (some (a.add 0)), .agg #[x.val, y.val], .agg #[.int .i64 c.op, .int .i64 c.dst, .int .i64 c.num, .int .i64 c.into, ax.val, jx.val], tx.val] w (OpR u R a (argsV (ps.map sigOf) c ts v)) := by
  classical
  refine of72 _ _ _ _ _ _ _ _ _ _ _ _ ?_
  unfold vc72
  have han := hax.n
  have hal := hax.le
  have htn := ht.n
  have htl := ht.le
  have hl := hw.lenI
  rw [han, htn]
  refine ⟨fun hc => ?_, fun hc => ?_⟩
  · simp only [bls] at hc
    have : ¬ fitsV c ts v := fun h => by have := h.1; omega
    unfold argsV
    rw [if_neg this]
    exact ⟨rfl, hS.sub⟩
  simp only [bls] at hc
  refine ⟨fun k w' => w = w' ∧ 0 ≤ k ∧ k ≤ ts.length ∧ ∀ j : Int, 0 ≤ j → j < k → (v.reg (nth c.args j)).typ = nth ts j, fun k _ => (ts.length - k).toNat, ⟨rfl, by omega, by omega, fun j h0 h1 => by omega⟩, ?_⟩
  rintro k _ ⟨rfl, k0, k1, hj⟩
  dsimp only
  refine ⟨fun hi => ?_, fun hi => ?_⟩
  · simp only [bls] at hi
    have hAk := hA k k0 (by omega)
    obtain ⟨x1, e1, r1, _⟩ := hV.so1 hS
    refine ⟨x1, e1, ?_⟩
    refine go_ix hax k0 (by omega) ?_
    refine ld_int (hax.mono hS.sub) k0 (by omega) fun _ _ => ?_
    refine go_col r1 hAk.1 (by omega) ?_
    refine ld_col r1 hAk.1 (by omega) ?_
    refine go_ix ht k0 (by omega) ?_
    refine ld_int (ht.mono hS.sub) k0 (by omega) fun _ _ => ?_
    refine ⟨fun hd => ?_, fun hd => ?_⟩
    · simp only [bls] at hd
      have : ¬ fitsV c ts v := fun h => hd (h.2 k k0 hi)
      unfold argsV
      rw [if_neg this]
      exact ⟨rfl, hS.sub⟩
    · simp only [bls] at hd
      refine go_wr (by omega) (by omega) ?_
      repeat refine go_rf ?_
      refine ⟨⟨rfl, by omega, by omega, fun j j0 j1 => ?_⟩, by omega⟩
      by_cases e : j = k
      · subst e; exact hd
      · exact hj j j0 (by omega)
  simp only [bls] at hi
  have hf : fitsV c ts v := ⟨by omega, fun j j0 j1 => hj j j0 (by omega)⟩
  have eA : argsV (ps.map sigOf) c ts v = (takesV (ps.map sigOf) c ts.length v).bind fun v' => if aliveV (ps.map sigOf) c v' then some v' else none := by
    unfold argsV; rw [if_pos hf]
  rw [eA]
  clear hj k0 k1 hi k
  refine ⟨fun k w' => ∃ v' I', takesV (ps.map sigOf) c k.toNat v = some v' ∧ Vst a v' I' ∧ St u w' (I' ++ R) ∧ Wf N B v' ∧ 0 ≤ k ∧ k ≤ ts.length, fun k _ => (ts.length - k).toNat, ⟨v, I, rfl, hV, hS, hw, by omega, by omega⟩, ?_⟩
  clear hV hS
  rintro k w ⟨v1, I1, hT, hV, hS, hw1, k0, k1⟩
  dsimp only
  have hl1 := hw1.lenI
  refine ⟨fun hi => ?_, fun hi => ?_⟩
  · simp only [bls] at hi
    have hAk := hA k k0 (by omega)
    have hsucc : takesV (ps.map sigOf) c (k + 1).toNat v = if lentA (ps.map sigOf) c k = true then some v1 else takeV v1 (nth c.args k) := by
      rw [show (k + 1).toNat = k.toNat + 1 from by omega]
      unfold takesV
      rw [hT]
      simp only [Option.bind_some]
      rw [show ((k.toNat : Nat) : Int) = k from by omega]
    refine ⟨_, c_lentArg (hy.mono hS.sub) hn, ?_⟩
    refine go_ixg hax (fun _ => ⟨k0, by omega⟩) ?_
    refine ld_intg (hax.mono hS.sub) (fun _ => ⟨k0, by omega⟩) ?_
    refine ⟨fun hd => ?_, fun hd => ?_⟩
    · simp only [bls] at hd
      rw [if_neg (by rw [hd]; decide)] at hsucc
      refine OpR.use (c_vTake hV hS hw1 hB hAk.1 hAk.2) (fun hn w' hs => ?_) (fun v' I' w' hn hV hS => ?_)
      · refine ⟨false, rfl, fun _ => ?_, fun h => by cases h⟩
        rw [takesV_none (hsucc.trans hn) (by omega)]
        exact ⟨rfl, hs⟩
      · refine ⟨true, rfl, (fun h => by cases h), fun _ => ?_⟩
        refine go_wr (by omega) (by omega) ?_
        repeat refine go_rf ?_
        exact ⟨⟨v', I', hsucc.trans hn, hV, hS, takeV_wf hw1 hAk.1 hAk.2 hn, by omega, by omega⟩, by omega⟩
    · simp only [bls] at hd
      rw [if_pos hd] at hsucc
      refine go_wr (by omega) (by omega) ?_
      repeat refine go_rf ?_
      exact ⟨⟨v1, I1, hsucc, hV, hS, hw1, by omega, by omega⟩, by omega⟩
  simp only [bls] at hi
  rw [show k.toNat = ts.length from by omega] at hT
  rw [hT, Option.bind_some]
  clear k0 k1 hi k
  refine ⟨fun k w' => w = w' ∧ 0 ≤ k ∧ k ≤ ts.length ∧ ∀ j : Int, 0 ≤ j → j < k → lentA (ps.map sigOf) c j = true → Al v1 (nth c.args j), fun k _ => (ts.length - k).toNat, ⟨rfl, by omega, by omega, fun j h0 h1 => by omega⟩, ?_⟩
  rintro k _ ⟨rfl, k0, k1, hj⟩
  refine ⟨fun hi => ?_, fun hi => ?_⟩
  · simp only [bls] at hi
    have hAk := hA k k0 (by omega)
    refine ⟨_, c_lentArg (hy.mono hS.sub) hn, ?_⟩
    refine go_ixg hax (fun _ => ⟨k0, by omega⟩) ?_
    refine ld_intg (hax.mono hS.sub) (fun _ => ⟨k0, by omega⟩) ?_
    refine ⟨_, fun _ => c_vAlive (hV.rd hS) hw1 hAk.1 hAk.2, ?_⟩
    refine ⟨fun hd => ?_, fun hd => ?_⟩
    · simp only [bls] at hd
      have : ¬ aliveV (ps.map sigOf) c v1 := fun h => by
        have := h k k0 (by omega) hd.1
        have hd2 := hd.2
        simp [alB, this] at hd2
      rw [if_neg this]
      exact ⟨rfl, hS.sub⟩
    · simp only [bls] at hd
      refine go_wr (by omega) (by omega) ?_
      repeat refine go_rf ?_
      refine ⟨⟨rfl, by omega, by omega, fun j j0 j1 hlj => ?_⟩, by dsimp only; omega⟩
      by_cases e : j = k
      · subst e
        rcases hd with hd | hd
        · rw [hd] at hlj; cases hlj
        · simpa [alB] using hd
      · exact hj j j0 (by omega) hlj
  simp only [bls] at hi
  rw [if_pos (show aliveV (ps.map sigOf) c v1 from fun j j0 j1 => hj j j0 (by omega))]
  exact ⟨I1, rfl, hV, hS⟩
end
end Go.Vc

namespace Go.Vc
open Go Go.Proofs Go.RowKit
set_option linter.all false
/-- an instruction of a valid image, as it lies in memory -/
structure InD (u : World) (x y ax jx : Sl) (ds : List DeclD) (ps : List ProcD) (N : Nat) (e_ at_ : Int) (c : InstrD) : Prop where
  hx : Read u x ds
  hy : Read u y ps
  hax : Read u ax c.args
  hjx : Read u jx c.jumps
  sg : sigSigs ds (ps.map sigOf)
  ok : instrOk ds (ps.map sigOf) N e_ at_ c
  hN : N ≤ 2000
  a0 : 0 ≤ at_
  he : e_ ≤ 2000
theorem St.weakU {u u' w : World} {L : Items} (h : St u' w L) (hs : Sub u u') : St u w L := ⟨hs.trans h.sub, h.nd, fun p hp => hs.out (h.out p hp), h.at_⟩
theorem OpR.weak {u u' w : World} {R : Items} {a : Addr} {o : Option VwD} {r : Value} (h : OpR u' R a o r w) (hs : Sub u u') : OpR u R a o r w := by
  cases o with
  | none => exact ⟨h.1, hs.trans h.2⟩
  | some v => obtain ⟨I, h1, h2, h3⟩ := h; exact ⟨I, h1, h2, h3.weakU hs⟩
theorem OpR.ret {P : Program} {f : FuncId} {args : Array Value} {u w : World} {R : Items} {a : Addr} {o : Option VwD} (h : Trip P f args w (OpR u R a o)) : Trip P f args w fun r w' => ∃ q : Bool, r = .bool q ∧ OpR u R a o (.bool q) w' := by
  refine OpR.use h (fun hn w' hs => ?_) (fun v' I' w' hn hV hS => ?_)
  · subst hn; exact ⟨false, rfl, rfl, hs⟩
  · subst hn; exact ⟨true, rfl, I', rfl, hV, hS⟩
theorem OpR.bind {P : Program} {f f2 : FuncId} {args args2 : Array Value} {u w : World} {R : Items} {a : Addr} {o : Option VwD} {g : VwD → Option VwD} (h : Trip P f args w (OpR u R a o))
    (k : ∀ v' I w', o = some v' → Vst a v' I → St u w' (I ++ R) → Trip P f2 args2 w' (OpR u R a (g v'))) :
    Trip P f args w fun r w' => ∃ q : Bool, r = .bool q ∧ (q = true → Trip P f2 args2 w' fun r1 w2 => ∃ q : Bool, r1 = .bool q ∧ OpR u R a (o.bind g) (.bool q) w2) ∧ (q = false → OpR u R a (o.bind g) (.bool false) w') := by
  refine OpR.use h (fun hn w' hs => ?_) (fun v' I' w' hn hV hS => ?_)
  · subst hn; exact ⟨false, rfl, (fun h => by cases h), fun _ => ⟨rfl, hs⟩⟩
  · have := k v' I' w' hn hV hS
    subst hn
    exact ⟨true, rfl, fun _ => OpR.ret this, fun h => by cases h⟩
section
variable {u w : World} {v v' : VwD} {a : Addr} {r t n i o e_ at_ f m : Int} {k k' : RegK} {x y z ax jx : Sl} {I R L : Items} {N B B' : Nat} {ds : List DeclD} {ss : List SigD} {ps : List ProcD} {c : InstrD} {ts : List Int}
theorem InD.mono {u' : World} (h : InD u x y ax jx ds ps N e_ at_ c) (hs : Sub u u') : InD u' x y ax jx ds ps N e_ at_ c := ⟨h.hx.mono hs, h.hy.mono hs, h.hax.mono hs, h.hjx.mono hs, h.sg, h.ok, h.hN, h.a0, h.he⟩
theorem InD.sm (h : InD u x y ax jx ds ps N e_ at_ c) : SmInstr c := instr_sm h.sg (by have := h.hN; omega) h.a0 h.he h.ok
theorem InD.args (h : InD u x y ax jx ds ps N e_ at_ c) : ∀ k : Int, 0 ≤ k → k < c.args.length → 0 ≤ nth c.args k ∧ nth c.args k < N := fun k k0 k1 => by
  have := List.all_eq_true.1 h.ok.2.1 _ (nth_mem k0 k1)
  unfold laterB at this
  simp only [Bool.and_eq_true, decide_eq_true_eq] at this
  omega
theorem InD.dst (h : InD u x y ax jx ds ps N e_ at_ c) : 0 ≤ c.dst ∧ c.dst < N := h.ok.2.2.1
theorem InD.call (h : InD u x y ax jx ds ps N e_ at_ c) : c.op = 9 ∨ c.op = 24 → 0 ≤ c.num ∧ c.num < ps.length := fun hop => by
  have := (numV_call hop).1 h.ok.2.2.2.2.2.2.2.2.1
  rw [List.length_map] at this
  exact this
theorem InD.numI (h : InD u x y ax jx ds ps N e_ at_ c) : SmI c.num := h.sm.2.2.1
theorem InD.al (h : InD u x y ax jx ds ps N e_ at_ c) : argLo ds (ps.map sigOf) c.op c.num ≤ c.args.length := h.ok.2.2.2.2.2.2.2.2.2.1
theorem InD.ah (h : InD u x y ax jx ds ps N e_ at_ c) : (c.args.length : Int) ≤ argHi ds (ps.map sigOf) c.op c.num := h.ok.2.2.2.2.2.2.2.2.2.2
theorem InD.smd (h : InD u x y ax jx ds ps N e_ at_ c) : SmDs ds := h.sg.1.sm
theorem Wf.keep (h : Wf N B v) (hn : -1 ≤ n ∧ n ≤ 1000) : Wf N B (keepV v r n) := by
  refine ⟨h.len, by unfold keepV; simpa using h.klen, h.own0, h.frm, h.neg, h.con, h.sm, fun k hk => ?_, h.rank⟩
  rcases List.mem_or_eq_of_mem_set hk with h1 | rfl
  · exact h.kept_ k h1
  · exact hn
theorem c_conFieldsR {v : World} (hx : Read v x ds) (hd : SmDs ds) (hn : InI n) : Mk Tryz.prog 107 #[x.val, .int .i64 n] v fun r J => ∃ z : Sl, r = z.val ∧ ∀ w, St v w J → Read w z (conF ds n) := by
  refine of107 _ _ _ _ ?_
  unfold vc107
  have hxn := hx.n
  have hS := St.refl v
  have hlen := hd.len
  refine ⟨_, c_specConType hx hd, fun hq => ?_, fun hq => ?_⟩
  · simp only [bls] at hq
    have hc : conI ds n < 0 := by
      unfold conTyV at hq
      split at hq
      · assumption
      · omega
    refine St.build (α := Int) hS (by (repeat' (first | exact VsOf.nil | apply VsOf.cons | (apply VOf.int; first | assumption | (constructor <;> first | omega | (simp only [List.length_set, List.length_append, List.length_replicate, List.length_cons, List.length_nil, List.length_take, List.length_drop, List.length_map, List.length_singleton] at *; omega))) | exact VOf.bool | exact VOf.str))) rfl (by decide) ?_
    intro z0 w0 I0 hO0 hS hs
    refine ⟨_, rfl, I0, by simpa using hS, z0, rfl, fun w hS => ?_⟩
    unfold conF
    rw [if_pos hc]
    exact hO0.read1 hS
  · simp only [bls] at hq
    rcases conI_cases ds n with ⟨h1, _⟩ | ⟨h1, h2, h3, h4⟩
    · unfold conTyV at hq; rw [if_pos (by omega)] at hq; omega
    have e : conTyV ds n = conI ds n + 1 := by unfold conTyV; rw [if_neg (by omega)]
    rw [show conTyV ds n - 1 = conI ds n from by rw [e]; omega]
    have hfc := hd.fc (conI ds n).toNat (by omega)
    obtain ⟨q1, q2⟩ := h3
    refine go_wr (by omega) (by omega) ?_
    refine go_ix hx h1 h2 ?_
    refine ld_decl_cons (hx.src (.refl v)) h1 h2 ?_
    intro g hg
    refine go_wr (by omega) (by omega) ?_
    refine ⟨_, c_firstCon hx (by omega) (fun d h => by have := hd.cons d h; omega) h1 (by omega), ?_⟩
    have hcl := hd.cons _ (nth_mem (l := ds) h1 h2)
    refine go_wr (by omega) (by omega) ?_
    refine go_ix hg (by omega) (by omega) ?_
    refine ld_con_fields (hg.src (.refl v)) (by omega) (by omega) ?_
    intro g2 hg2
    refine ⟨[], hS, g2, rfl, fun w hS => ?_⟩
    unfold conF
    rw [if_neg (by omega)]
    exact hg2.mono hS.sub
/-- the fields that hold pointers -/
def slotsN (ts : List Int) (n : Nat) : List Int := ((List.range n).filter fun (i : Nat) => decide (nth ts i ≠ 0)).map fun (i : Nat) => (i : Int)
theorem slotsN_succ {n : Nat} : slotsN ts (n + 1) = if nth ts n ≠ 0 then slotsN ts n ++ [(n : Int)] else slotsN ts n := by
  unfold slotsN
  rw [List.range_succ, List.filter_append]
  by_cases h : nth ts n ≠ 0
  · rw [if_pos h]; simp [h]
  · rw [if_neg h]; simp at h; simp [h]
theorem slotsN_len {n : Nat} : (slotsN ts n).length ≤ n := by
  unfold slotsN
  rw [List.length_map]
  exact Nat.le_trans (List.length_filter_le _ _) (by simp)
theorem c_heapFrom {v : World} (hx : Read v x ts) (hl : ts.length ≤ 1000) : Mk Tryz.prog 114 #[x.val, .int .i64 0] v fun r J => ∃ z, r = z.val ∧ Own v z (slotsF ts) J := by
  refine of114 _ _ _ _ ?_
  unfold vc114
  have hn := hx.n
  refine St.build (α := Int) (St.refl v) (by (repeat' (first | exact VsOf.nil | apply VsOf.cons | (apply VOf.int; first | assumption | (constructor <;> first | omega | (simp only [List.length_set, List.length_append, List.length_replicate, List.length_cons, List.length_nil, List.length_take, List.length_drop, List.length_map, List.length_singleton] at *; omega))) | exact VOf.bool | exact VOf.str))) rfl (by decide) ?_
  intro z0 w0 I0 hO0 hS hs
  refine ⟨_, rfl, ?_⟩
  refine ⟨fun z i w => ∃ J, Own v z (slotsN ts i.toNat) J ∧ St v w (J ++ []) ∧ 0 ≤ i ∧ i ≤ ts.length, fun _ i _ => (ts.length - i).toNat, ⟨I0, hO0, hS, by omega, by omega⟩, ?_⟩
  clear hO0 hS hs
  rintro z i w ⟨J, hO, hS, i0, i1⟩
  dsimp only
  have hsl := slotsN_len (ts := ts) (n := i.toNat)
  refine ⟨fun hi => ?_, fun hi => ?_⟩
  · simp only [bls] at hi
    have hsn := slotsN_succ (ts := ts) (n := i.toNat)
    rw [show ((i.toNat : Nat) : Int) = i from by omega, show i.toNat + 1 = (i + 1).toNat from by omega] at hsn
    refine go_ix hx i0 (by omega) ?_
    refine ld_int (hx.mono hS.sub) i0 (by omega) fun _ _ => ?_
    refine ⟨fun hq => ?_, fun hq => ?_⟩
    · simp only [bls] at hq
      rw [if_pos hq] at hsn
      rw [Int.zero_add]
      refine go_wr (by omega) (by omega) ?_
      refine St.build (α := Int) hS (by (repeat' (first | exact VsOf.nil | apply VsOf.cons | (apply VOf.int; first | assumption | (constructor <;> first | omega | (simp only [List.length_set, List.length_append, List.length_replicate, List.length_cons, List.length_nil, List.length_take, List.length_drop, List.length_map, List.length_singleton] at *; omega))) | exact VOf.bool | exact VOf.str))) rfl (by decide) ?_
      intro x4 w4 I4 hO4 hS hs
      refine ⟨_, rfl, ?_⟩
      refine Own.append hO hS (hO4.src hS) (by simp; omega) (by decide) ?_
      intro x5 w5 I5 hO5 hS
      refine ⟨_, rfl, ?_⟩
      refine go_wr (by omega) (by omega) ?_
      refine ⟨⟨I5, ?_, hS.to, by omega, by omega⟩, by omega⟩
      rw [hsn]; exact hO5
    · simp only [bls] at hq
      rw [if_neg (by simpa using hq)] at hsn
      refine go_wr (by omega) (by omega) ?_
      refine ⟨⟨J, ?_, hS, by omega, by omega⟩, by omega⟩
      rw [hsn]; exact hO
  · simp only [bls] at hi
    rw [show i.toNat = ts.length from by omega] at hO
    exact ⟨J, by simpa using hS, z, rfl, hO⟩
theorem incV_reg (h0 : 0 ≤ r) (h1 : r < v.regs.length) (j : Int) (j0 : 0 ≤ j) : ((incV v r).reg j).frm = (v.reg j).frm ∧ ((incV v r).reg j).field = (v.reg j).field ∧ ((incV v r).reg j).con = (v.reg j).con ∧ ((incV v r).reg j).typ = (v.reg j).typ ∧ ((incV v r).reg j).lent = (v.reg j).lent ∧
    ((incV v r).reg j).own = (if j = r then (v.reg j).own + 1 else (v.reg j).own) ∧ (incV v r).regs.length = v.regs.length ∧ (incV v r).kept = v.kept := by
  unfold incV
  rw [VwD.upd_reg h0 h1 j j0, VwD.upd_len]
  split
  · rename_i e; subst e; exact ⟨rfl, rfl, rfl, rfl, rfl, rfl, rfl, rfl⟩
  · exact ⟨rfl, rfl, rfl, rfl, rfl, rfl, rfl, rfl⟩
theorem incsV_reg (hA : ∀ k : Int, 0 ≤ k → k < c.args.length → 0 ≤ nth c.args k ∧ nth c.args k < v.regs.length) {i : Nat} (hi : i + 1 ≤ c.args.length) (j : Int) (j0 : 0 ≤ j) :
    ((incsV c i v).reg j).frm = (v.reg j).frm ∧ ((incsV c i v).reg j).field = (v.reg j).field ∧ ((incsV c i v).reg j).con = (v.reg j).con ∧ ((incsV c i v).reg j).typ = (v.reg j).typ ∧ ((incsV c i v).reg j).lent = (v.reg j).lent ∧
    (v.reg j).own ≤ ((incsV c i v).reg j).own ∧ ((incsV c i v).reg j).own ≤ (v.reg j).own + i ∧ (incsV c i v).regs.length = v.regs.length ∧ (incsV c i v).kept = v.kept := by
  induction i with
  | zero => exact ⟨rfl, rfl, rfl, rfl, rfl, Int.le_refl _, by simp [incsV], rfl, rfl⟩
  | succ i ih =>
    obtain ⟨a1, a2, a3, a4, a5, a6, a7, a8, a9⟩ := ih (by omega)
    have hb := hA (i + 1) (by omega) (by omega)
    obtain ⟨b1, b2, b3, b4, b5, b6, b7, b8⟩ := incV_reg (v := incsV c i v) hb.1 (by omega) j j0
    refine ⟨b1.trans a1, b2.trans a2, b3.trans a3, b4.trans a4, b5.trans a5, ?_, ?_, b7.trans a8, b8.trans a9⟩
    · show _ ≤ ((incV (incsV c i v) (nth c.args (i + 1))).reg j).own
      rw [b6]; split <;> omega
    · show ((incV (incsV c i v) (nth c.args (i + 1))).reg j).own ≤ _
      rw [b6]; split <;> omega
end
end Go.Vc

namespace Go.Vc
open Go Go.Proofs Go.RowKit
set_option linter.all false
section
variable {u w : World} {v v' : VwD} {a : Addr} {r t n i o e_ at_ f m : Int} {k k' : RegK} {x y z ax jx : Sl} {I R L : Items} {N B B' : Nat} {ds : List DeclD} {ss : List SigD} {ps : List ProcD} {c : InstrD} {ts : List Int}
theorem c_vOpen (h : InD u x y ax jx ds ps N e_ at_ c) (hop : c.op = 16 ∨ c.op = 17) (hV : Vst a v I) (hS : St u w (I ++ R)) (hw : Wf N B v) (hB : B ≤ 1099511627776) :
    Trip Tryz.prog 78 #[.pointer (some (a.add 0)), .agg #[x.val, y.val], .agg #[.int .i64 c.op, .int .i64 c.dst, .int .i64 c.num, .int .i64 c.into, ax.val, jx.val]] w (OpR u R a (openV ds c v)) := by
  refine of78 _ _ _ _ _ _ _ _ _ _ _ ?_
  unfold vc78
  have hl := hw.lenI
  have hkl := hw.klen
  have hlo := h.al
  rw [(arg_16 hop).1] at hlo
  have hhi := h.ah
  rw [(arg_16 hop).2] at hhi
  have hA0 := h.args 0 (by omega) (by omega)
  have han := h.hax.n
  have hcf := conF_sm (n := (v.reg (nth c.args 0)).con) h.sg.1
  have hconb := hw.con _ hA0.1 hA0.2
  have hown := hw.own0 _ hA0.1 hA0.2
  obtain ⟨x5, e5, r5, _⟩ := hV.so5 hS
  obtain ⟨x2, e2, r2, _⟩ := hV.so2 hS
  obtain ⟨x6, e6, r6, _⟩ := hV.so6 hS
  refine go_ix h.hax (by omega) (by omega) ?_
  refine ld_int (h.hax.mono hS.sub) (by omega) (by omega) fun _ _ => ?_
  refine ⟨x5, e5, ?_⟩
  refine go_col r5 hA0.1 (by omega) ?_
  refine ld_col r5 hA0.1 (by omega) ?_
  refine ⟨x2, fun _ => e2, ?_⟩
  refine go_colg r2 (fun _ => ⟨hA0.1, by omega⟩) ?_
  refine ld_colg r2 (fun _ => ⟨hA0.1, by omega⟩) ?_
  refine ⟨x6, fun _ _ => e6, fun _ _ => r6.ix hA0.1 (by omega), nth v.kept (nth c.args 0), fun _ _ => (r6.int hA0.1 (by omega)).1, ?_⟩
  refine ⟨fun hc => ?_, fun hc => ?_⟩
  · simp only [bls] at hc
    have : ¬ openOk ds c v := fun ⟨q1, q2, q3, _⟩ => by
      rcases hc with (hc | hc) | hc
      · omega
      · omega
      · have := q3 hc.1; omega
    unfold openV
    rw [if_neg this]
    exact ⟨rfl, hS.sub⟩
  simp only [bls] at hc
  refine ⟨x5, e5, ?_⟩
  refine go_col r5 hA0.1 (by omega) ?_
  refine ld_col r5 hA0.1 (by omega) ?_
  refine Mk.use (c_conFieldsR h.hx h.smd (by constructor <;> omega)) hS ?_
  rintro _ w1 J1 ⟨z, rfl, hz⟩ hS hsub
  refine ⟨_, rfl, ?_⟩
  obtain ⟨u1, hs1, hS1, hJ⟩ := hS.freeze J1
  have hz1 := hz _ hJ
  refine Mk.use (c_heapFrom hz1 (by omega)) hS1 ?_
  rintro _ w2 J2 ⟨s, rfl, hs⟩ hS hsub2
  refine ⟨_, rfl, ?_⟩
  obtain ⟨u2, hs2, hS3, hJ2⟩ := hS.freeze J2
  have hsr := hs.read1 hJ2
  clear hS hS1
  have hsn := hsr.n
  have hsle := slotsN_len (ts := conF ds (v.reg (nth c.args 0)).con) (n := (conF ds (v.reg (nth c.args 0)).con).length)
  have hsle : (slotsF (conF ds (v.reg (nth c.args 0)).con)).length ≤ (conF ds (v.reg (nth c.args 0)).con).length := hsle
  have hu := hs1.trans hs2
  have h := h.mono hu
  have hzn := hz1.n
  rw [han, hsn, hzn]
  refine go_wr (by omega) (by omega) ?_
  refine ⟨fun hd => ?_, fun hd => ?_⟩
  · simp only [bls] at hd
    have : ¬ openOk ds c v := fun ⟨_, _, _, q4, _⟩ => hd q4
    unfold openV
    rw [if_neg this]
    exact ⟨rfl, hu.trans hS3.sub⟩
  simp only [bls] at hd
  have hAl : ∀ k : Int, 0 ≤ k → k < c.args.length → 0 ≤ nth c.args k ∧ nth c.args k < v.regs.length := fun k k0 k1 => by have := h.args k k0 k1; omega
  refine ⟨fun k w' => ∃ I', Vst a (incsV c k.toNat v) I' ∧ St u2 w' (I' ++ R) ∧ 0 ≤ k ∧ k ≤ (slotsF (conF ds (v.reg (nth c.args 0)).con)).length ∧ ∀ j : Int, 0 ≤ j → j < k → (v.reg (nth c.args (j + 1))).frm = nth c.args 0 ∧ (v.reg (nth c.args (j + 1))).field = nth (slotsF (conF ds (v.reg (nth c.args 0)).con)) j,
    fun k _ => ((slotsF (conF ds (v.reg (nth c.args 0)).con)).length - k).toNat, ⟨I, hV, hS3, by omega, by omega, fun j j0 j1 => by omega⟩, ?_⟩
  clear hV hS3 e5 e2 e6 r5 r2 r6
  rintro k w ⟨I', hV, hS, k0, k1, hj⟩
  dsimp only
  refine ⟨fun hi => ?_, fun hi => ?_⟩
  · simp only [bls] at hi
    rw [Int.add_comm 1 k]
    have hAk := h.args (k + 1) (by omega) (by omega)
    obtain ⟨b1, b2, b3, b4, b5, b6, b7, b8, b9⟩ := incsV_reg (v := v) (i := k.toNat) hAl (by omega) _ hAk.1
    have hownk := hw.own0 _ hAk.1 hAk.2
    obtain ⟨x3, e3, r3, _⟩ := hV.so3 hS
    obtain ⟨x4, e4, r4, _⟩ := hV.so4 hS
    obtain ⟨x2, e2, r2, st2⟩ := hV.so2 hS
    refine go_wr (by omega) (by omega) ?_
    refine go_ix h.hax (by omega) (by omega) ?_
    refine ld_int (h.hax.mono hS.sub) (by omega) (by omega) fun _ _ => ?_
    refine ⟨x3, e3, ?_⟩
    refine go_col r3 hAk.1 (by omega) ?_
    refine ld_col r3 hAk.1 (by omega) ?_
    refine ⟨x4, fun _ => e4, ?_⟩
    refine go_colg r4 (fun _ => ⟨hAk.1, by omega⟩) ?_
    refine ld_colg r4 (fun _ => ⟨hAk.1, by omega⟩) ?_
    refine go_ixg hsr (fun _ => ⟨k0, by omega⟩) ?_
    refine ld_intg (hsr.mono hS.sub) (fun _ => ⟨k0, by omega⟩) ?_
    rw [b1, b2]
    refine ⟨fun hq => ?_, fun hq => ?_⟩
    · simp only [bls] at hq
      have : ¬ openOk ds c v := fun ⟨_, _, _, _, q5⟩ => by
        have := q5 k k0 hi
        rcases hq with hq | hq
        · exact hq this.1
        · exact hq this.2
      unfold openV
      rw [if_neg this]
      exact ⟨rfl, hu.trans hS.sub⟩
    · simp only [bls] at hq
      refine ⟨x2, e2, x2, e2, ?_⟩
      refine go_col r2 hAk.1 (by omega) ?_
      refine ld_col r2 hAk.1 (by omega) ?_
      refine go_wr (by omega) (by omega) ?_
      refine go_col r2 hAk.1 (by omega) ?_
      refine st2 hAk.1 (by omega) (by constructor <;> omega) rfl ?_
      intro w1 I1 hV hS
      refine go_wr (by omega) (by omega) ?_
      repeat refine go_rf ?_
      refine ⟨⟨I1, ?_, hS, by omega, by omega, fun j j0 j1 => ?_⟩, by omega⟩
      · rw [show (k + 1).toNat = k.toNat + 1 from by omega]
        unfold incsV incV
        rw [show ((k.toNat : Nat) : Int) = k from by omega]
        exact hV
      · by_cases e : j = k
        · subst e; exact hq
        · exact hj j j0 (by omega)
  · simp only [bls] at hi
    have hk : openOk ds c v := ⟨by omega, by omega, fun hh => hc.2.resolve_left (fun hn => hn hh), hd, fun j j0 j1 => hj j j0 (by omega)⟩
    unfold openV
    rw [if_pos hk]
    dsimp only
    rw [show k.toNat = c.args.length - 1 from by omega] at hV
    obtain ⟨b1, b2, b3, b4, b5, b6, b7, b8, b9⟩ := incsV_reg (v := v) (i := c.args.length - 1) hAl (by omega) _ hA0.1
    obtain ⟨x2, e2, r2, st2⟩ := hV.so2 hS
    refine ⟨x2, e2, x2, e2, ?_⟩
    refine go_col r2 hA0.1 (by omega) ?_
    refine ld_col r2 hA0.1 (by omega) ?_
    refine go_wr (by omega) (by omega) ?_
    refine go_col r2 hA0.1 (by omega) ?_
    refine st2 hA0.1 (by omega) (by constructor <;> omega) rfl ?_
    intro w1 I1 hV hS
    have hV : Vst a (decV (incsV c (c.args.length - 1) v) (nth c.args 0)) I1 := hV
    have hk2 : (decV (incsV c (c.args.length - 1) v) (nth c.args 0)).kept = v.kept := b9
    refine ⟨fun hq => ?_, fun hq => ?_⟩
    · simp only [bls] at hq
      rw [if_pos hq]
      obtain ⟨x6, e6, r6, st6⟩ := hV.so6 hS
      rw [hk2] at r6
      refine ⟨x6, e6, ?_⟩
      refine go_ix r6 hA0.1 (by omega) ?_
      refine st6 hA0.1 (by rw [hk2]; omega) (by constructor <;> omega) ?_
      intro w2 I2 hV hS
      exact ⟨I2, rfl, hV, hS.weakU hu⟩
    · simp only [bls] at hq
      rw [if_neg hq]
      exact ⟨I1, rfl, hV, hS.weakU hu⟩
theorem conTyV_bd (h : typesOk ds) : -1 ≤ conTyV ds n ∧ conTyV ds n ≤ 4 := by
  unfold conTyV
  have := h.1
  rcases conI_cases ds n with ⟨h1, _⟩ | ⟨h1, h2, h3, h4⟩
  · rw [if_pos (by omega)]; omega
  · rw [if_neg (by omega)]; omega
theorem c_vBuild (h : InD u x y ax jx ds ps N e_ at_ c) (hop : c.op = 6) (hV : Vst a v I) (hS : St u w (I ++ R)) (hw : Wf N B v) (hB : B ≤ 1099511627776) :
    Trip Tryz.prog 73 #[.pointer (some (a.add 0)), .agg #[x.val, y.val], .agg #[.int .i64 c.op, .int .i64 c.dst, .int .i64 c.num, .int .i64 c.into, ax.val, jx.val]] w
      (OpR u R a ((argsV (ps.map sigOf) c (conF ds c.num) v).bind fun v' => (intoV c v').bind fun v' => setW v' c.dst (conTyV ds c.num) (ownOf (conTyV ds c.num)))) := by
  refine of73 _ _ _ _ _ _ _ _ _ _ _ ?_
  unfold vc73
  have hnum := h.numI
  unfold SmI at hnum
  have han := h.hax.n
  have hal := h.hax.le
  have hin := h.ok.2.2.2.2.1
  have hNb := h.hN
  have hty := conTyV_bd (n := c.num) h.sg.1
  have hdst := h.dst
  refine Mk.use (c_conFieldsR h.hx h.smd (by constructor <;> omega)) hS ?_
  rintro _ w1 J1 ⟨z, rfl, hz⟩ hS hsub
  refine ⟨_, rfl, hsub, ?_⟩
  obtain ⟨u1, hs1, hS1, hJ⟩ := hS.freeze J1
  have h1 := h.mono hs1
  refine OpR.use (c_takeArgs (x := x) h1.hy h1.hax (hz _ hJ) hV hS1 hw hB h.call h.args) (fun hn w' hs => ?_) (fun v' I' w' hn hV hS => ?_)
  · rw [hn]
    exact ⟨false, rfl, fun _ => ⟨rfl, hs1.trans hs⟩, fun h => by cases h⟩
  have hw' := argsV_wf hw h.args hn
  rw [hn, Option.bind_some]
  refine ⟨true, rfl, (fun h => by cases h), fun _ => ?_⟩
  have hS := hS.weakU hs1
  rw [han]
  refine ⟨fun hq => ?_, fun hq => ?_⟩
  · simp only [bls] at hq
    obtain ⟨x6, e6, r6, st6⟩ := hV.so6 hS
    have hkl := hw'.klen
    refine ⟨x6, e6, ?_⟩
    refine go_wr (by omega) (by omega) ?_
    refine go_ix r6 (by omega) (by omega) ?_
    refine ld_int r6 (by omega) (by omega) fun _ _ => ?_
    refine ⟨fun hd => ?_, fun hd => ?_⟩
    · simp only [bls] at hd
      unfold intoV
      rw [if_neg (by omega), if_pos hd]
      exact ⟨rfl, hS.sub⟩
    · simp only [bls] at hd
      rw [show intoV c v' = some (keepV v' (c.into - 1) (-1)) from by unfold intoV; rw [if_neg (by omega), if_neg (by omega)], Option.bind_some]
      refine ⟨x6, e6, ?_⟩
      refine go_wr (by omega) (by omega) ?_
      refine go_ix r6 (by omega) (by omega) ?_
      refine st6 (by omega) (by omega) (by constructor <;> omega) ?_
      intro w2 I2 hV hS
      refine ⟨_, c_specConType (h.hx.mono hS.sub) h.smd, ?_⟩
      exact OpR.ret (c_vSetOwned hV hS (hw'.keep (by omega)) hdst.1 hdst.2 (by constructor <;> omega))
  · simp only [bls] at hq
    rw [show intoV c v' = some v' from by unfold intoV; rw [if_pos (by omega)], Option.bind_some]
    refine ⟨_, c_specConType (h.hx.mono hS.sub) h.smd, ?_⟩
    exact OpR.ret (c_vSetOwned hV hS hw' hdst.1 hdst.2 (by constructor <;> omega))
theorem conF_typ (h : typesOk ds) (h0 : 0 ≤ i) (h1 : i < (conF ds n).length) : 0 ≤ nth (conF ds n) i ∧ nth (conF ds n) i ≤ 4 := by
  have hm := nth_mem (l := conF ds n) h0 h1
  have hl := h.1
  revert hm
  generalize nth (conF ds n) i = e
  unfold conF
  split
  · intro hm; cases hm
  · intro hm
    rename_i hp
    rcases conI_cases ds n with ⟨g1, _⟩ | ⟨g1, g2, ⟨q1, q2⟩, g4⟩
    · omega
    · have := List.all_eq_true.1 ((declOk_easy (h.2 _ g1 g2)).2.2.2.2.1 _ (nth_mem (by omega) (by omega))).2 _ hm
      unfold typeB at this
      simp only [Bool.and_eq_true, decide_eq_true_eq] at this
      omega
theorem c_vLoad (h : InD u x y ax jx ds ps N e_ at_ c) (hop : c.op = 19) (hV : Vst a v I) (hS : St u w (I ++ R)) (hw : Wf N B v) (hB : B ≤ 1099511627776) :
    Trip Tryz.prog 80 #[.pointer (some (a.add 0)), .agg #[x.val, y.val], .agg #[.int .i64 c.op, .int .i64 c.dst, .int .i64 c.num, .int .i64 c.into, ax.val, jx.val]] w (OpR u R a (loadV ds c v)) := by
  refine of80 _ _ _ _ _ _ _ _ _ _ _ ?_
  unfold vc80
  have hl := hw.lenI
  have hlo := h.al
  rw [(arg_1 (by omega)).1] at hlo
  have hA0 := h.args 0 (by omega) (by omega)
  have hnum := (numV_load hop).1 h.ok.2.2.2.2.2.2.2.2.1
  have hdst := h.dst
  have hcf := conF_sm (n := (v.reg (nth c.args 0)).con) h.sg.1
  have hconb := hw.con _ hA0.1 hA0.2
  obtain ⟨x5, e5, r5, _⟩ := hV.so5 hS
  refine go_ix h.hax (by omega) (by omega) ?_
  refine ld_int (h.hax.mono hS.sub) (by omega) (by omega) fun _ _ => ?_
  refine ⟨x5, e5, ?_⟩
  refine go_col r5 hA0.1 (by omega) ?_
  refine ld_col r5 hA0.1 (by omega) ?_
  refine ⟨_, fun _ => c_vAlive (hV.rd hS) hw hA0.1 hA0.2, ?_⟩
  unfold loadV
  refine ⟨fun hc => ?_, fun hc => ?_⟩
  · simp only [bls] at hc
    rw [if_neg]
    · exact ⟨rfl, hS.sub⟩
    · rintro ⟨q1, q2, q3⟩
      rcases hc with hc | hc
      · omega
      · simp [alB, q2] at hc
  simp only [bls] at hc
  have hal : Al v (nth c.args 0) := by simpa [alB] using hc.2
  refine ⟨x5, e5, ?_⟩
  refine go_col r5 hA0.1 (by omega) ?_
  refine ld_col r5 hA0.1 (by omega) ?_
  refine Mk.use (c_conFieldsR h.hx h.smd (by constructor <;> omega)) hS ?_
  rintro _ w1 J1 ⟨z, rfl, hz⟩ hS hsub
  refine ⟨_, rfl, ?_⟩
  obtain ⟨u1, hs1, hS1, hJ⟩ := hS.freeze J1
  have hz1 := hz _ hJ
  have hzn := hz1.n
  rw [hzn]
  have hg : (decide (c.num ≥ ((conF ds (v.reg (nth c.args 0)).con).length : Int)) = false) → 0 ≤ c.num ∧ c.num < (conF ds (v.reg (nth c.args 0)).con).length := fun hq => by
    simp only [bls] at hq; omega
  refine go_ixg hz1 hg ?_
  refine ld_intg (hz1.mono hS1.sub) hg ?_
  refine ⟨fun hd => ?_, fun hd => ?_⟩
  · have hd' := hg hd
    have hty := conF_typ (n := (v.reg (nth c.args 0)).con) h.sg.1 hd'.1 hd'.2
    rw [if_pos ⟨by omega, hal, by omega⟩]
    refine OpR.use (c_vSet hV hS1 hw hdst.1 hdst.2 (by constructor <;> omega)) (fun hn w' hs => ?_) (fun v' I' w' hn hV hS => ?_)
    · rw [hn]
      exact ⟨false, rfl, fun _ => ⟨rfl, hs1.trans hs⟩, fun h => by cases h⟩
    refine ⟨true, rfl, (fun h => by cases h), fun _ => ?_⟩
    have hS := hS.weakU hs1
    rw [hn, Option.map_some]
    have hl' : v'.regs.length = v.regs.length := by
      unfold setW at hn
      split at hn
      · cases hn
      · cases hn; unfold setV; simp
    refine ⟨fun hq => ?_, fun hq => ?_⟩
    · simp only [bls] at hq
      rw [if_neg hq]
      obtain ⟨x3, e3, r3, st3⟩ := hV.so3 hS
      refine ⟨x3, e3, ?_⟩
      refine go_col r3 hdst.1 (by omega) ?_
      refine st3 hdst.1 (by omega) (by constructor <;> omega) rfl ?_
      intro w2 I2 hV hS
      obtain ⟨x4, e4, r4, st4⟩ := hV.so4 hS
      refine ⟨x4, e4, ?_⟩
      refine go_col r4 hdst.1 (by rw [VwD.upd_len]; omega) ?_
      refine st4 hdst.1 (by rw [VwD.upd_len]; omega) (by constructor <;> omega) rfl ?_
      intro w3 I3 hV hS
      rw [VwD.upd_upd, VwD.upd_self hdst.1 (by omega)] at hV
      exact ⟨I3, rfl, hV, hS⟩
    · simp only [bls] at hq
      rw [if_pos hq]
      exact ⟨I', rfl, hV, hS⟩
  · simp only [bls] at hd
    rw [if_neg (by rintro ⟨q1, q2, q3⟩; omega)]
    exact ⟨rfl, hs1.trans hS1.sub⟩
end
end Go.Vc
