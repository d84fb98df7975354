/- Part of the proofs about the heaps and memories: a law is joined in the text whose name ends in W and the law. -/
import Derived.Test.YtelgbndeeccblaaDoorEK4
import Derived.Lib.ItoaNum
namespace Go.Vc
open Go Go.RowKit
set_option linter.all false

inductive ExprD where
  | mk (op num : Int) (kids : List ExprD)
def ExprD.op : ExprD → Int
  | ⟨o, _, _⟩ => o
def ExprD.num : ExprD → Int
  | ⟨_, n, _⟩ => n
def ExprD.kids : ExprD → List ExprD
  | ⟨_, _, k⟩ => k
instance : Inhabited ExprD := ⟨⟨0, 0, []⟩⟩
noncomputable instance : DecidableEq ExprD := fun a b => Classical.propDecidable _
inductive ExC (B : Nat) (w : World) : List Value → ExprD → Prop where
  | mk {op num : Int} {kids : List ExprD} {xk : Sl} {rows : List (List Value)} : InI op → InI num → Rows w xk 3 rows → rows.length = kids.length →
      (∀ (i : Nat) (r : List Value) (b : ExprD), rows[i]? = some r → kids[i]? = some b → ExC B w r b) → kids.length ≤ B → ExC B w [intV op, intV num, xk.val] ⟨op, num, kids⟩
theorem ExC.mono {B : Nat} {u w : World} {cs : List Value} {a : ExprD} (hs : Sub u w) : ExC B u cs a → ExC B w cs a
  | .mk h1 h2 h5 h6 h7 h8 => .mk h1 h2 (h5.sub hs) h6 (fun i r b hr hb => ExC.mono hs (h7 i r b hr hb)) h8
instance : Dat ExprD where
  sz := 3
  cells := ExC
  mono := fun hs h => h.mono hs
  len := fun h => by cases h; rfl
  one := fun h v hv => by
    cases h
    simp only [List.mem_cons, List.not_mem_nil, or_false] at hv
    rcases hv with rfl | rfl | rfl <;> rfl
theorem expr_cells {B : Nat} {w : World} {cs : List Value} {c : ExprD} : Dat.cells B w cs c ↔ ∃ f_kids : Sl, cs = [intV c.op, intV c.num, f_kids.val] ∧ InI c.op ∧ InI c.num ∧ ReadB B w f_kids c.kids := by
  constructor
  · intro h
    cases h with
    | mk h1 h2 h5 h6 h7 h8 => exact ⟨_, rfl, h1, h2, _, h5, ⟨h6, h7⟩, h8⟩
  · obtain ⟨op, num, kids⟩ := c
    rintro ⟨xk, rfl, h1, h2, rows, h5, ⟨h6, h7⟩, h8⟩
    exact .mk h1 h2 h5 h6 h7 h8
inductive ExO : List Value → ExprD → Items → Prop where
  | mk {op num : Int} {kids : List ExprD} {xk : Sl} {rows : List (List Value)} {I0 E I : Items} {Is : List Items} : InI op → InI num → OSl 3 xk rows I0 → rows.length = kids.length → Is.length = kids.length →
      (∀ (i : Nat) (r : List Value) (b : ExprD) (K : Items), rows[i]? = some r → kids[i]? = some b → Is[i]? = some K → ExO r b K) → I.Perm (I0 ++ (Is.flatten ++ E)) → kids.length ≤ BB →
      ExO [intV op, intV num, xk.val] ⟨op, num, kids⟩ I
theorem exg_len {α β : Type} {l : List α} {m : List β} {i : Nat} {a : α} (h : l[i]? = some a) (hl : l.length = m.length) : i < m.length := by
  have := (List.getElem?_eq_some_iff.1 h).1
  omega
theorem ExO.read {w : World} {cs : List Value} {a : ExprD} {I : Items} : ExO cs a I → AtAll w I → ExC BB w cs a
  | .mk (Is := Is) (kids := kids) (rows := rows) h1 h2 h5 h6 h7 h8 h9 h10, hA => by
    have hA' := hA.perm h9.symm
    refine .mk h1 h2 (h5.rd fun p hp => hA' p (List.mem_append_left _ hp)) h6 (fun i r b hr hb => ?_) h10
    have hlt : i < Is.length := exg_len hr (by omega)
    exact ExO.read (h8 i r b _ hr hb (List.getElem?_eq_getElem hlt)) fun p hp => hA' p (List.mem_append_right _ (List.mem_append_left _ (List.mem_flatten.2 ⟨_, List.getElem_mem hlt, hp⟩)))
instance : DatO ExprD where
  own := ExO
  read := ExO.read
theorem expr_own {cs : List Value} {c : ExprD} {K : Items} : DatO.own cs c K ↔ ∃ f_kids : Sl, cs = [intV c.op, intV c.num, f_kids.val] ∧ InI c.op ∧ InI c.num ∧ OwnD f_kids c.kids K := by
  constructor
  · intro h
    cases h with
    | mk h1 h2 h5 h6 h7 h8 h9 h10 => exact ⟨_, rfl, h1, h2, _, _, _, _, h5, h6, h7, h8, h9, h10⟩
  · obtain ⟨op, num, kids⟩ := c
    rintro ⟨xk, rfl, h1, h2, _, _, _, _, h5, h6, h7, h8, h9, h10⟩
    exact .mk h1 h2 h5 h6 h7 h8 h9 h10
mutual
theorem ex_indA {P : ExprD → Prop} (h : ∀ b : ExprD, (∀ k ∈ b.kids, P k) → P b) : ∀ b : ExprD, P b
  | ⟨_, _, kids⟩ => h _ (exs_indA h kids)
theorem exs_indA {P : ExprD → Prop} (h : ∀ b : ExprD, (∀ k ∈ b.kids, P k) → P b) : ∀ (l : List ExprD), ∀ k ∈ l, P k
  | [] => fun s hs => by cases hs
  | a :: r => fun s hs => by
    rcases List.mem_cons.1 hs with e | hs
    · rw [e]; exact ex_indA h a
    · exact exs_indA h r s hs
end
theorem ex_ind {P : ExprD → Prop} (h : ∀ b : ExprD, (∀ k ∈ b.kids, P k) → P b) (b : ExprD) : P b := ex_indA h b
end Go.Vc

namespace Go.Vc
open Go Go.RowKit
set_option linter.all false

/-- a string by its bytes -/
def str (l : List UInt8) : ByteArray := ⟨l.toArray⟩
theorem str_app (a b : List UInt8) : str (a ++ b) = str a ++ str b := by
  apply ByteArray.ext
  simp [str]
theorem str_size (l : List UInt8) : (str l).size = l.length := by simp [str, ByteArray.size]
/-- the word of an operation -/
def wordE (op : Int) : List UInt8 :=
  if op = 1 then [97, 100, 100] else if op = 2 then [115, 117, 98] else if op = 3 then [109, 117, 108] else if op = 4 then [108, 101, 115, 115] else if op = 5 then [112, 114, 105, 110, 116] else if op = 6 then [99, 111, 110]
  else if op = 7 then [105, 102] else if op = 8 then [109, 97, 116, 99, 104] else if op = 9 then [99, 97, 108, 108] else if op = 10 then [99, 108, 111, 115, 101] else if op = 11 then [97, 112, 112, 108, 121] else if op = 13 then [108, 101, 116] else []
def numE (op : Int) : Bool := decide (op = 6) || decide (op = 8) || decide (op = 9) || decide (op = 10)
/-- a node by itself has a text -/
def okN (op num : Int) (kids : Nat) : Bool :=
  if op = 0 then decide (kids = 0) && decide (-999 ≤ num) && decide (num ≤ 999)
  else if op = 12 then decide (kids = 0) && decide (0 ≤ num) && decide (num ≤ 99)
  else decide (1 ≤ op) && decide (op ≤ 13) && (if numE op then decide (0 ≤ num) && decide (num ≤ 99) else decide (num = 0))
mutual
def nodesE : ExprD → Nat
  | ⟨_, _, kids⟩ => 1 + nodesL kids
def nodesL : List ExprD → Nat
  | [] => 0
  | k :: r => nodesE k + nodesL r
end
mutual
def canE : ExprD → Bool
  | ⟨op, num, kids⟩ => okN op num kids.length && canL kids
def canL : List ExprD → Bool
  | [] => true
  | k :: r => canE k && canL r
end
mutual
def showE : ExprD → List UInt8
  | ⟨op, num, kids⟩ => if op = 0 then Lib.itoa num else if op = 12 then 118 :: Lib.itoa num
    else 40 :: (wordE op ++ (if numE op then Lib.itoa num else []) ++ showL kids ++ [41])
def showL : List ExprD → List UInt8
  | [] => []
  | k :: r => 32 :: (showE k ++ showL r)
end
theorem nodesE_eq (e : ExprD) : nodesE e = 1 + nodesL e.kids := by cases e; rw [nodesE]; rfl
theorem canE_eq (e : ExprD) : canE e = (okN e.op e.num e.kids.length && canL e.kids) := by cases e; rw [canE]; rfl
theorem showE_eq (e : ExprD) : showE e = if e.op = 0 then Lib.itoa e.num else if e.op = 12 then 118 :: Lib.itoa e.num
    else 40 :: (wordE e.op ++ (if numE e.op then Lib.itoa e.num else []) ++ showL e.kids ++ [41]) := by cases e; rw [showE]; rfl
theorem nodesL_cons (k : ExprD) (r : List ExprD) : nodesL (k :: r) = nodesE k + nodesL r := by rw [nodesL]
theorem canL_cons (k : ExprD) (r : List ExprD) : canL (k :: r) = (canE k && canL r) := by rw [canL]
theorem showL_cons (k : ExprD) (r : List ExprD) : showL (k :: r) = 32 :: (showE k ++ showL r) := by rw [showL]
theorem nodesL_nil : nodesL [] = 0 := by rw [nodesL]
theorem canL_nil : canL [] = true := by rw [canL]
theorem showL_nil : showL [] = [] := by rw [showL]
theorem nodesL_app (l m : List ExprD) : nodesL (l ++ m) = nodesL l + nodesL m := by
  induction l with
  | nil => rw [nodesL_nil]; simp
  | cons k r ih => rw [List.cons_append, nodesL_cons, nodesL_cons, ih]; omega
theorem canL_app (l m : List ExprD) : canL (l ++ m) = (canL l && canL m) := by
  induction l with
  | nil => rw [canL_nil]; simp
  | cons k r ih => rw [List.cons_append, canL_cons, canL_cons, ih, Bool.and_assoc]
theorem showL_app (l m : List ExprD) : showL (l ++ m) = showL l ++ showL m := by
  induction l with
  | nil => rw [showL_nil]; simp
  | cons k r ih => rw [List.cons_append, showL_cons, showL_cons, ih]; simp
/-- FormatExpr -/
def fmtE (e : ExprD) : List UInt8 := if nodesE e ≤ 30 ∧ canE e = true then showE e else []
end Go.Vc
