/- Part of the proofs about the heaps and memories: a law is joined in the text whose name ends in W and the law. -/
import Derived.Test.YtlcegaeioheikaaEK4
import Derived.Lib.ItoaNum
namespace Go.Vc
open Go Go.RowKit
set_option linter.all false

inductive ExprD where
 | mk (op num : Int) (kids : List ExprD)
def ExprD.op : ExprD → Int
 | ⟨o, _, _⟩ => o
def ExprD.num : ExprD → Int
 | ⟨_, n, _⟩ => n
def ExprD.kids : ExprD → List ExprD
 | ⟨_, _, k⟩ => k
instance : Inhabited ExprD := ⟨⟨0, 0, []⟩⟩
noncomputable instance : DecidableEq ExprD := fun a b => Classical.propDecidable _
inductive ExC (B : Nat) (w : World) : List Value → ExprD → Prop where
 | mk {op num : Int} {kids : List ExprD} {xk : Sl} {rows : List (List Value)} : InI op → InI num → Rows w xk 3 rows → rows.length = kids.length →
   (∀ (i : Nat) (r : List Value) (b : ExprD), rows[i]? = some r → kids[i]? = some b → ExC B w r b) → kids.length ≤ B → ExC B w [intV op, intV num, xk.val] ⟨op, num, kids⟩
theorem ExC.mono {B : Nat} {u w : World} {cs : List Value} {a : ExprD} (hs : Sub u w) : ExC B u cs a → ExC B w cs a
 | .mk h1 h2 h5 h6 h7 h8 => .mk h1 h2 (h5.sub hs) h6 (fun i r b hr hb => ExC.mono hs (h7 i r b hr hb)) h8
instance : Dat ExprD where
 sz := 3
 cells := ExC
 mono := fun hs h => h.mono hs
 len := fun h => by cases h; rfl
 one := fun h v hv => by
  cases h
  simp only [List.mem_cons, List.not_mem_nil, or_false] at hv
  rcases hv with rfl | rfl | rfl <;> rfl
theorem expr_cells {B : Nat} {w : World} {cs : List Value} {c : ExprD} : Dat.cells B w cs c ↔ ∃ f_kids : Sl, cs = [intV c.op, intV c.num, f_kids.val] ∧ InI c.op ∧ InI c.num ∧ ReadB B w f_kids c.kids := by
 constructor
 ·intro h
  cases h with
  | mk h1 h2 h5 h6 h7 h8 => exact ⟨_, rfl, h1, h2, _, h5, ⟨h6, h7⟩, h8⟩
 ·obtain ⟨op, num, kids⟩ := c
  rintro ⟨xk, rfl, h1, h2, rows, h5, ⟨h6, h7⟩, h8⟩
  exact .mk h1 h2 h5 h6 h7 h8
inductive ExO : List Value → ExprD → Items → Prop where
 | mk {op num : Int} {kids : List ExprD} {xk : Sl} {rows : List (List Value)} {I0 E I : Items} {Is : List Items} : InI op → InI num → OSl 3 xk rows I0 → rows.length = kids.length → Is.length = kids.length →
   (∀ (i : Nat) (r : List Value) (b : ExprD) (K : Items), rows[i]? = some r → kids[i]? = some b → Is[i]? = some K → ExO r b K) → I.Perm (I0 ++ (Is.flatten ++ E)) → kids.length ≤ BB →
   ExO [intV op, intV num, xk.val] ⟨op, num, kids⟩ I
theorem exg_len {α β : Type} {l : List α} {m : List β} {i : Nat} {a : α} (h : l[i]? = some a) (hl : l.length = m.length) : i < m.length := by
 have := (List.getElem?_eq_some_iff.1 h).1
 omega
theorem ExO.read {w : World} {cs : List Value} {a : ExprD} {I : Items} : ExO cs a I → AtAll w I → ExC BB w cs a
 | .mk (Is := Is) (kids := kids) (rows := rows) h1 h2 h5 h6 h7 h8 h9 h10, hA => by
  have hA' := hA.perm h9.symm
  refine .mk h1 h2 (h5.rd fun p hp => hA' p (List.mem_append_left _ hp)) h6 (fun i r b hr hb => ?_) h10
  have hlt : i < Is.length := exg_len hr (by omega)
  exact ExO.read (h8 i r b _ hr hb (List.getElem?_eq_getElem hlt)) fun p hp => hA' p (List.mem_append_right _ (List.mem_append_left _ (List.mem_flatten.2 ⟨_, List.getElem_mem hlt, hp⟩)))
instance : DatO ExprD where
 own := ExO
 read := ExO.read
theorem expr_own {cs : List Value} {c : ExprD} {K : Items} : DatO.own cs c K ↔ ∃ f_kids : Sl, cs = [intV c.op, intV c.num, f_kids.val] ∧ InI c.op ∧ InI c.num ∧ OwnD f_kids c.kids K := by
 constructor
 ·intro h
  cases h with
  | mk h1 h2 h5 h6 h7 h8 h9 h10 => exact ⟨_, rfl, h1, h2, _, _, _, _, h5, h6, h7, h8, h9, h10⟩
 ·obtain ⟨op, num, kids⟩ := c
  rintro ⟨xk, rfl, h1, h2, _, _, _, _, h5, h6, h7, h8, h9, h10⟩
  exact .mk h1 h2 h5 h6 h7 h8 h9 h10
mutual
theorem ex_indA {P : ExprD → Prop} (h : ∀ b : ExprD, (∀ k ∈ b.kids, P k) → P b) : ∀ b : ExprD, P b
 | ⟨_, _, kids⟩ => h _ (exs_indA h kids)
theorem exs_indA {P : ExprD → Prop} (h : ∀ b : ExprD, (∀ k ∈ b.kids, P k) → P b) : ∀ (l : List ExprD), ∀ k ∈ l, P k
 | [] => fun s hs => by cases hs
 | a :: r => fun s hs => by
  rcases List.mem_cons.1 hs with e | hs
  ·rw [e]; exact ex_indA h a
  ·exact exs_indA h r s hs
end
theorem ex_ind {P : ExprD → Prop} (h : ∀ b : ExprD, (∀ k ∈ b.kids, P k) → P b) (b : ExprD) : P b := ex_indA h b
end Go.Vc

namespace Go.Vc
open Go Go.RowKit
set_option linter.all false

/-- a string by its bytes -/
def str (l : List UInt8) : ByteArray := ⟨l.toArray⟩
/-- the word of an operation -/
def wordE (op : Int) : List UInt8 :=
 if op = 1 then [97, 100, 100] else if op = 2 then [115, 117, 98] else if op = 3 then [109, 117, 108] else if op = 4 then [108, 101, 115, 115] else if op = 5 then [112, 114, 105, 110, 116] else if op = 6 then [99, 111, 110]
 else if op = 7 then [105, 102] else if op = 8 then [109, 97, 116, 99, 104] else if op = 9 then [99, 97, 108, 108] else if op = 10 then [99, 108, 111, 115, 101] else if op = 11 then [97, 112, 112, 108, 121] else if op = 13 then [108, 101, 116] else []
def numE (op : Int) : Bool := decide (op = 6) || decide (op = 8) || decide (op = 9) || decide (op = 10)
/-- a node by itself has a text -/
def okN (op num : Int) (kids : Nat) : Bool :=
 if op = 0 then decide (kids = 0) && decide (-999 ≤ num) && decide (num ≤ 999)
 else if op = 12 then decide (kids = 0) && decide (0 ≤ num) && decide (num ≤ 99)
 else decide (1 ≤ op) && decide (op ≤ 13) && (if numE op then decide (0 ≤ num) && decide (num ≤ 99) else decide (num = 0))
mutual
def nodesE : ExprD → Nat
 | ⟨_, _, kids⟩ => 1 + nodesL kids
def nodesL : List ExprD → Nat
 | [] => 0
 | k :: r => nodesE k + nodesL r
end
mutual
def canE : ExprD → Bool
 | ⟨op, num, kids⟩ => okN op num kids.length && canL kids
def canL : List ExprD → Bool
 | [] => true
 | k :: r => canE k && canL r
end
mutual
def showE : ExprD → List UInt8
 | ⟨op, num, kids⟩ => if op = 0 then Lib.itoa num else if op = 12 then 118 :: Lib.itoa num
  else 40 :: (wordE op ++ (if numE op then Lib.itoa num else []) ++ showL kids ++ [41])
def showL : List ExprD → List UInt8
 | [] => []
 | k :: r => 32 :: (showE k ++ showL r)
end
theorem nodesE_eq (e : ExprD) : nodesE e = 1 + nodesL e.kids := by cases e; rw [nodesE]; rfl
theorem canE_eq (e : ExprD) : canE e = (okN e.op e.num e.kids.length && canL e.kids) := by cases e; rw [canE]; rfl
theorem nodesL_cons (k : ExprD) (r : List ExprD) : nodesL (k :: r) = nodesE k + nodesL r := by rw [nodesL]
theorem canL_cons (k : ExprD) (r : List ExprD) : canL (k :: r) = (canE k && canL r) := by rw [canL]
theorem nodesL_nil : nodesL [] = 0 := by rw [nodesL]
theorem canL_nil : canL [] = true := by rw [canL]
theorem nodesL_app (l m : List ExprD) : nodesL (l ++ m) = nodesL l + nodesL m := by
 induction l with
 | nil => rw [nodesL_nil]; simp
 | cons k r ih => rw [List.cons_append, nodesL_cons, nodesL_cons, ih]; omega
theorem canL_app (l m : List ExprD) : canL (l ++ m) = (canL l && canL m) := by
 induction l with
 | nil => rw [canL_nil]; simp
 | cons k r ih => rw [List.cons_append, canL_cons, canL_cons, ih, Bool.and_assoc]
end Go.Vc

namespace Go.Vc
open Go Go.Proofs Go.RowKit
set_option linter.all false
mutual
def costEx : ExprD → Nat
 | ⟨_, _, ks⟩ => costExs ks
def costExs : List ExprD → Nat
 | [] => 0
 | b :: r => 1 + costEx b + costExs r
end
instance : Cost ExprD := ⟨costEx⟩
section
variable {u v w : World} {x : Sl} {b i : Int}
theorem rowExprD {B : Nat} {l : List ExprD} (hx : ReadB B v x l) (h0 : 0 ≤ i) (h1 : i < l.length) : ∃ f_kids : Sl, (v.cell? ((elA x i 3).add 0) = some (.int .i64 (nth l i).op) ∧ v.cell? ((elA x i 3).add 1) = some (.int .i64 (nth l i).num) ∧ v.cell? ((elA x i 3).add 2) = some (f_kids.val)) ∧ ReadB B v f_kids (nth l i).kids := by
 obtain ⟨r, hr, hc⟩ := hx.row h0 h1
 obtain ⟨f, rfl, i1, i2, r1⟩ := expr_cells.1 hr
 exact ⟨f, ⟨hc 0 _ rfl, hc 1 _ rfl, hc 2 _ rfl⟩, r1⟩
theorem Src.ofExprD {l : List ExprD} (hx : Src u w x l) (h0 : 0 ≤ i) (h1 : i < l.length) : ∃ f_kids : Sl, w.cell? ((elA x i 3).add 0) = some (.int .i64 (nth l i).op) ∧ w.cell? ((elA x i 3).add 1) = some (.int .i64 (nth l i).num) ∧ w.cell? ((elA x i 3).add 2) = some f_kids.val ∧ InI (nth l i).op ∧ InI (nth l i).num ∧ Read u f_kids (nth l i).kids := by
 obtain ⟨r, hr, h5⟩ := hx.row h0 h1
 obtain ⟨f, rfl, i1, i2, r1⟩ := expr_cells.1 hr
 exact ⟨f, h5 0 _ rfl, h5 1 _ rfl, h5 2 _ rfl, i1, i2, r1⟩
end
section
variable {u v w : World} {x : Sl} {b i : Int}
end
section
variable {u v w : World} {x y : Sl} {b i : Int}
end
instance : SlT Try.prog 28 3 40 [intV 0, intV 0, .slice none 0 0] := .of (by kernel_rfl) rfl (by decide)
section
variable {u v w : World} {x y : Sl} {b i : Int}
end
end Go.Vc

namespace Go.Vc
open Go Go.Proofs Go.RowKit
set_option linter.all false
theorem nodesL_take (l : List ExprD) (i : Nat) : nodesL l = nodesL (l.take i) + nodesL (l.drop i) := by rw [← nodesL_app, List.take_append_drop]
section
variable {u v w : World} {x y xk f : Sl} {b i n op num left : Int} {e : ExprD} {a : Addr} {I R L : Items}
end
theorem numE_iff {op : Int} : numE op = true ↔ op = 6 ∨ op = 8 ∨ op = 9 ∨ op = 10 := by
 unfold numE
 simp only [Bool.or_eq_true, decide_eq_true_eq]
 omega
theorem numE_f {op : Int} : numE op = false ↔ ¬(op = 6 ∨ op = 8 ∨ op = 9 ∨ op = 10) := by rw [← numE_iff]; simp
theorem okN_iff {op num : Int} {k : Nat} : okN op num k = true ↔ (op = 0 ∧ k = 0 ∧ -999 ≤ num ∧ num ≤ 999) ∨ (op = 12 ∧ k = 0 ∧ 0 ≤ num ∧ num ≤ 99) ∨ (op ≠ 0 ∧ op ≠ 12 ∧ 1 ≤ op ∧ op ≤ 13 ∧ (((op = 6 ∨ op = 8 ∨ op = 9 ∨ op = 10) ∧ 0 ≤ num ∧ num ≤ 99) ∨ (¬(op = 6 ∨ op = 8 ∨ op = 9 ∨ op = 10) ∧ num = 0))) := by
 unfold okN
 split
 ·simp only [Bool.and_eq_true, decide_eq_true_eq]; omega
 split
 ·simp only [Bool.and_eq_true, decide_eq_true_eq]; omega
 cases hn : numE op
 ·rw [numE_f] at hn
  simp only [Bool.and_eq_true, decide_eq_true_eq, Bool.false_eq_true, if_false]; omega
 ·rw [numE_iff] at hn
  simp only [Bool.and_eq_true, decide_eq_true_eq, if_true]; omega
theorem canL_mem {l : List ExprD} (h : canL l = true) : ∀ k ∈ l, canE k = true := by
 induction l with
 | nil => intro k hk; cases hk
 | cons a r ih =>
  rw [canL_cons, Bool.and_eq_true] at h
  intro k hk
  rcases List.mem_cons.1 hk with rfl | hk
  ·exact h.1
  ·exact ih h.2 k hk
theorem nodes_pos (e : ExprD) : 1 ≤ nodesE e := by rw [nodesE_eq]; omega
theorem nodesL_drop {l : List ExprD} {i : Int} (h0 : 0 ≤ i) (h1 : i < l.length) : nodesL (l.drop i.toNat) = nodesE (nth l i) + nodesL (l.drop (i + 1).toNat) := by
 rw [show l.drop i.toNat = nth l i :: l.drop (i + 1).toNat from ?_, nodesL_cons]
 rw [show (i + 1).toNat = i.toNat + 1 from by omega]
 have := nth_get h0 h1
 rw [List.drop_eq_getElem_cons (by omega)]
 congr 1
 rw [List.getElem?_eq_getElem (by omega)] at this
 exact Option.some.inj this
theorem nodes_mem {l : List ExprD} {k : ExprD} (h : k ∈ l) : nodesE k ≤ nodesL l := by
 induction l with
 | nil => cases h
 | cons a r ih =>
  rw [nodesL_cons]
  rcases List.mem_cons.1 h with rfl | h
  ·omega
  ·have := ih h; omega
def NlP (e : ExprD) : Prop := ∀ (v : World) (f : Sl) (left : Int), Read v f e.kids → 0 ≤ left → left ≤ 1000 → Fn Try.prog 47 #[.agg #[.int .i64 e.op, .int .i64 e.num, f.val], .int .i64 left] v (.int .i64 (if (nodesE e : Int) ≤ left then left - nodesE e else -1))
def CnP (e : ExprD) : Prop := ∀ (u w : World) (f : Sl) (n : Int) (a : Addr) (I R : Items), Read u f e.kids → 0 ≤ n → n ≤ 30 → Cel a [.int .i64 n] I → St u w (I ++ R) →
 Trip Try.prog 39 #[.agg #[.int .i64 e.op, .int .i64 e.num, f.val], .pointer (some (a.add 0))] w fun r w' => (n + nodesE e ≤ 30 → r = .bool true ∧ ∃ I', Cel a [.int .i64 (n + nodesE e)] I' ∧ St u w' (I' ++ R)) ∧ (30 < n + nodesE e → r = .bool false ∧ Sub u w')
section
variable {u v w : World} {x y xk f : Sl} {b i n op num left : Int} {e : ExprD} {a : Addr} {I R L : Items}
theorem c_nodesLeft (e : ExprD) : NlP e := by
 refine ex_ind (P := NlP) (fun e ih => ?_) e
 intro v f left hf hl0 hl1
 refine of47 _ _ _ _ _ _ ?_
 unfold vc47
 have hn := hf.n
 have hl := hf.le
 have hp := nodes_pos e
 refine ⟨fun hc => ⟨?_, .refl v⟩, fun hc => ?_⟩
 ·simp only [bls] at hc
  rw [if_neg (by omega)]
 simp only [bls] at hc
 rw [nodesE_eq]
 refine go_wr (by omega) (by omega) ?_
 refine ⟨fun m i w => Sub v w ∧ 0 ≤ i ∧ i ≤ e.kids.length ∧ 0 ≤ m ∧ m ≤ 1000 ∧ m - nodesL (e.kids.drop i.toNat) = left - 1 - nodesL e.kids, fun _ i _ => (e.kids.length - i).toNat, ⟨.refl v, by omega, by omega, by omega, by omega, by rfl⟩, ?_⟩
 rintro m i w ⟨hs, h0, h1, h2, h3, h4⟩
 dsimp only
 refine ⟨fun hi => ?_, fun hi => ?_⟩
 ·simp only [bls] at hi
  obtain ⟨g, hcell, rg⟩ := rowExprD (hf.mono hs) h0 (by omega)
  refine go_ix hf h0 (by omega) ?_
  have hm := nth_mem (l := e.kids) h0 (by omega)
  rw [nodesL_drop h0 (by omega)] at h4
  refine ⟨_, _, g, hcell, _, ih _ hm w g m rg h2 h3, fun hq => ⟨?_, hs⟩, fun hq => ?_⟩
  ·simp only [bls] at hq
   have : ¬ ((nodesE (nth e.kids i) : Int) ≤ m) := fun hh => by rw [if_pos hh] at hq; omega
   rw [if_neg (by omega)]
  ·simp only [bls] at hq
   have : (nodesE (nth e.kids i) : Int) ≤ m := Classical.byContradiction fun hh => by rw [if_neg hh] at hq; omega
   rw [if_pos this]
   refine go_wr (by omega) (by omega) ?_
   exact ⟨rfl, rfl, rfl, ⟨hs, by omega, by omega, by omega, by omega, by omega⟩, by omega⟩
 ·simp only [bls] at hi
  rw [List.drop_eq_nil_of_le (by omega), nodesL_nil] at h4
  rw [if_pos (by omega)]
  exact ⟨by congr 1; omega, hs⟩
theorem c_spNodesOf (hf : Read v f e.kids) : Fn Try.prog 24 #[.agg #[.int .i64 e.op, .int .i64 e.num, f.val]] v (.int .i64 (if nodesE e ≤ 30 then nodesE e else -1)) := by
 refine of24 _ _ _ _ _ ?_
 unfold vc24
 refine ⟨_, c_nodesLeft e v f 30 hf (by omega) (by omega), fun hq => ⟨?_, .refl v⟩, fun hq => ?_⟩
 ·simp only [bls] at hq
  rw [if_neg fun hh => by rw [if_pos (by omega)] at hq; omega]
 ·simp only [bls] at hq
  have hle : nodesE e ≤ 30 := Classical.byContradiction fun hh => by rw [if_neg (by omega)] at hq; omega
  rw [if_pos (by omega)] at hq ⊢
  refine go_wr (by omega) (by omega) ?_
  refine ⟨?_, .refl v⟩
  rw [if_pos hle]
  congr 1; omega
theorem c_countNodes (e : ExprD) : CnP e := by
 refine ex_ind (P := CnP) (fun e ih => ?_) e
 intro u w f n a I R hf h0 h3 hC hS
 refine of39 _ _ _ _ _ _ ?_
 unfold vc39
 have hfn := hf.n
 have hfl := hf.le
 rw [nodesE_eq]
 refine ⟨_, hC.load hS rfl, ?_⟩
 refine go_wr (by omega) (by omega) ?_
 refine hC.store hS (by simp) ?_
 intro w1 I1 hC hS
 simp [putR] at hC
 refine ⟨_, hC.load hS rfl, fun hq => ?_, fun hq => ?_⟩
 ·simp only [bls] at hq
  exact ⟨fun hh => by omega, fun _ => ⟨rfl, hS.sub⟩⟩
 simp only [bls] at hq
 refine ⟨fun i w => ∃ (I : Items) (m : Int), Cel a [.int .i64 m] I ∧ St u w (I ++ R) ∧ 0 ≤ i ∧ i ≤ e.kids.length ∧ 0 ≤ m ∧ m ≤ 30 ∧ m + nodesL (e.kids.drop i.toNat) = n + (1 + nodesL e.kids : Nat), fun i _ => (e.kids.length - i).toNat, ⟨I1, n + 1, hC, hS, by omega, by omega, by omega, by omega, by simp; omega⟩, ?_⟩
 clear hC hS
 rintro i w ⟨I, m, hC, hS, i0, i1, m0, m1, hm⟩
 dsimp only
 refine ⟨fun hc => ?_, fun hc => ?_⟩
 ·simp only [bls] at hc
  have hil : i < e.kids.length := by omega
  have hmem := nth_mem (l := e.kids) i0 hil
  rw [nodesL_drop i0 hil] at hm
  obtain ⟨g, e1, e2, e3, j1, j2, rg⟩ := (hf.src hS.sub).ofExprD i0 hil
  refine go_ix hf i0 hil ?_
  refine ⟨_, _, g, ⟨e1, e2, e3⟩, ?_⟩
  refine (ih _ hmem _ _ _ _ _ _ _ rg m0 m1 hC hS).mono' ?_
  rintro r w3 ⟨hA, hB⟩
  rcases Int.lt_or_le 30 (m + nodesE (nth e.kids i)) with hgt | hle
  ·obtain ⟨rfl, hs3⟩ := hB hgt
   refine ⟨false, rfl, fun _ => ⟨fun hh => by omega, fun _ => ⟨rfl, hs3⟩⟩, fun hq => (by cases hq)⟩
  ·obtain ⟨rfl, I3, hC3, hS3⟩ := hA hle
   refine ⟨true, rfl, fun hq => (by cases hq), fun _ => ?_⟩
   refine go_wr (by omega) (by omega) ?_
   exact ⟨rfl, rfl, rfl, ⟨I3, _, hC3, hS3, by omega, by omega, by omega, by omega, by omega⟩, by omega⟩
 ·simp only [bls] at hc
  rw [List.drop_eq_nil_of_le (by omega), nodesL_nil] at hm
  have e : m = n + (1 + nodesL e.kids : Nat) := by omega
  subst e
  exact ⟨fun _ => ⟨rfl, I, hC, hS⟩, fun hh => by omega⟩
theorem c_NodesOf (hf : Read v f e.kids) : Fn Try.prog 18 #[.agg #[.int .i64 e.op, .int .i64 e.num, f.val]] v (.int .i64 (if nodesE e ≤ 30 then nodesE e else -1)) := by
 refine of18 _ _ _ _ _ ?_
 unfold vc18
 refine St.box (vals := [.int .i64 0]) (St.refl v) fun a w1 I1 hC hS hs => ?_
 refine hC.store hS (by simp) ?_
 intro w2 I2 hC hS
 simp [putR] at hC
 refine (c_countNodes e v w2 f 0 a I2 [] hf (by omega) (by omega) hC hS).mono' ?_
 rintro r w3 ⟨hA, hB⟩
 by_cases hle : nodesE e ≤ 30
 ·obtain ⟨rfl, I3, hC3, hS3⟩ := hA (by omega)
  refine ⟨true, rfl, fun hq => (by cases hq), fun _ => ⟨_, hC3.load hS3 rfl, ?_, hS3.sub⟩⟩
  rw [if_pos hle]
  congr 1; omega
 ·obtain ⟨rfl, hs3⟩ := hB (by omega)
  refine ⟨false, rfl, fun _ => ⟨?_, hs3⟩, fun hq => (by cases hq)⟩
  rw [if_neg hle]
end
end Go.Vc
