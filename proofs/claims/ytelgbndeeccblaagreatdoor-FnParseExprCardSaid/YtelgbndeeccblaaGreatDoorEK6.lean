/- Part of the proofs about the heaps and memories: a law is joined in the text whose name ends in W and the law. -/
import Derived.Test.YtelgbndeeccblaaGreatDoorEK5
namespace Go.Vc
open Go Go.Proofs Go.RowKit
set_option linter.all false
section
variable {u v w : World} {x y xf s t : Sl} {l ws fs ns : List Int} {b m n k f e i : Int} {a : Addr} {I J K L R : Items}
/-- the constructors of a type -/
def consL (ds : List DeclD) (t : Int) : List Int := if 1 ≤ t ∧ t ≤ ds.length then (List.range (nth ds (t - 1)).cons.length).map fun (k : Nat) => (firstC ds (t - 1).toNat : Int) + k else []
theorem c_consOf {ds : List DeclD} (hx : Read v x ds) (hn : InI n) (hd : ds.length ≤ 1000) (hc : ∀ d ∈ ds, d.cons.length ≤ 1000) (hb : ∀ i : Int, 0 ≤ i → i ≤ ds.length → (firstC ds i.toNat : Int) ≤ 1000000000) :
  Mk Tryz.prog 180 #[x.val, .int .i64 n] v fun r J => ∃ z, r = z.val ∧ Own v z (consL ds n) J := by
 refine of180 _ _ _ _ ?_
 unfold vc180
 have hxn := hx.n
 have hS := St.refl v
 refine St.build (α := Int) hS (by (repeat' (first | exact VsOf.nil | apply VsOf.cons | (apply VOf.int; first | assumption | (constructor <;> first | omega | (simp only [List.length_set, List.length_append, List.length_replicate, List.length_cons, List.length_nil, List.length_take, List.length_drop, List.length_map, List.length_singleton] at *; omega))) | exact VOf.bool | exact VOf.str))) rfl (by decide) ?_
 intro z0 w0 I0 hO0 hS hs
 refine ⟨_, rfl, _, c_inRange, fun hq => ?_, fun hq => ?_⟩
 ·have hno : consL ds n = [] := if_neg (fun h => by
   rw [decide_eq_true h.1, decide_eq_true (show n ≤ (x.n : Int) by omega)] at hq; cases hq)
  exact ⟨I0, by simpa using hS, z0, rfl, by rw [hno]; exact hO0⟩
 ·have hr : 1 ≤ n ∧ n ≤ ds.length := by simp at hq; omega
  have hyes : consL ds n = (List.range (nth ds (n - 1)).cons.length).map fun (k : Nat) => (firstC ds (n - 1).toNat : Int) + k := if_pos hr
  have h0 : 0 ≤ n - 1 := by omega
  have h1 : n - 1 < ds.length := by omega
  have hcl := hc _ (nth_mem (l := ds) h0 h1)
  have hbf := hb (n - 1) h0 (by omega)
  refine ⟨fun z i w => ∃ I, Own v z ((List.range i.toNat).map fun (k : Nat) => (firstC ds (n - 1).toNat : Int) + k) I ∧ St v w (I ++ []) ∧ 0 ≤ i ∧ i ≤ (nth ds (n - 1)).cons.length, fun _ i _ => ((nth ds (n - 1)).cons.length - i).toNat, ⟨I0, hO0, hS, by omega, by omega⟩, ?_⟩
  clear hO0 hS
  rintro z i w ⟨I, hO, hS, i0, i1⟩
  dsimp only
  have hxr := hx.mono hS.sub
  refine go_wr (by omega) (by omega) ?_
  refine go_ix hxr h0 h1 ?_
  refine ld_decl_cons (hxr.src (.refl _)) h0 h1 ?_
  intro g hg
  have hgn := hg.n
  refine ⟨fun hi => ?_, fun hi => ?_⟩
  ·simp only [bls] at hi
   refine go_wr (by omega) (by omega) ?_
   refine ⟨_, c_firstCon hxr (by omega) (fun d hd2 => by have := hc d hd2; omega) h0 (by omega), ?_⟩
   refine go_wr (by omega) (by omega) ?_
   refine St.build (α := Int) hS (by (repeat' (first | exact VsOf.nil | apply VsOf.cons | (apply VOf.int; first | assumption | (constructor <;> first | omega | (simp only [List.length_set, List.length_append, List.length_replicate, List.length_cons, List.length_nil, List.length_take, List.length_drop, List.length_map, List.length_singleton] at *; omega))) | exact VOf.bool | exact VOf.str))) rfl (by decide) ?_
   intro x4 w4 I4 hO4 hS hs
   refine ⟨_, rfl, ?_⟩
   refine Own.append hO hS (Own.src hO4 hS) (by simp; omega) (by decide) ?_
   intro x5 w5 I5 hO5 hS
   refine ⟨_, rfl, ?_⟩
   refine go_wr (by omega) (by omega) ?_
   refine ⟨⟨I5, ?_, hS.to, by omega, by omega⟩, by omega⟩
   rw [show (i + 1).toNat = i.toNat + 1 from by omega, List.range_succ, List.map_append, List.map_singleton, show ((i.toNat : Nat) : Int) = i from by omega]
   exact hO5
  ·simp only [bls] at hi
   rw [show i.toNat = (nth ds (n - 1)).cons.length from by omega] at hO
   exact ⟨I, by simpa using hS, z, rfl, by rw [hyes]; exact hO⟩
end
end Go.Vc

namespace Go.Vc
open Go Go.Proofs Go.RowKit
set_option linter.all false
section
variable {u v w : World} {x y xf s t : Sl} {l ws fs ns : List Int} {b m n k f e i : Int} {a : Addr} {I J K L R : Items}
end
end Go.Vc

namespace Go.Vc
open Go Go.Proofs Go.RowKit
set_option linter.all false

/-- the declaration whose constructor it is, or -1 -/
def conP (ds : List DeclD) (c : Int) (i : Nat) : Prop := (i : Int) < ds.length ∧ conTyOk ds c i
open Classical in
noncomputable def conI (ds : List DeclD) (c : Int) : Int := if ∃ i : Nat, conP ds c i then (leastM (conP ds c) : Int) else -1
/-- the fields of a constructor -/
noncomputable def conF (ds : List DeclD) (c : Int) : List Int := if conI ds c < 0 then [] else (nth (nth ds (conI ds c)).cons (c - firstC ds (conI ds c).toNat)).fields
/-- small declarations -/
structure SmDs (ds : List DeclD) : Prop where
 len : ds.length ≤ 4
 cons : ∀ d ∈ ds, d.cons.length ≤ 3
section
variable {ds : List DeclD} {c i j n : Int}
theorem conI_cases (ds : List DeclD) (c : Int) : (conI ds c = -1 ∧ ∀ i : Int, 0 ≤ i → i < ds.length → ¬ conTyOk ds c i) ∨ (0 ≤ conI ds c ∧ conI ds c < ds.length ∧ conTyOk ds c (conI ds c) ∧ ∀ i : Int, 0 ≤ i → i < conI ds c → ¬ conTyOk ds c i) := by
 unfold conI
 split
 ·rename_i h
  have h1 := leastM_spec h
  refine .inr ⟨by omega, h1.1, h1.2, fun i i0 i1 hk => ?_⟩
  have := leastM_le (p := conP ds c) (k := i.toNat) ⟨by have := h1.1; omega, by rw [show ((i.toNat : Nat) : Int) = i from by omega]; exact hk⟩
  omega
 ·rename_i h
  exact .inl ⟨rfl, fun i i0 i1 hk => h ⟨i.toNat, by omega, by rw [show ((i.toNat : Nat) : Int) = i from by omega]; exact hk⟩⟩
theorem conI_some (i0 : 0 ≤ i) (i1 : i < ds.length) (h : conTyOk ds c i) (hm : ∀ j : Int, 0 ≤ j → j < i → ¬ conTyOk ds c j) : conI ds c = i := by
 rcases conI_cases ds c with ⟨_, h2⟩ | ⟨h1, h2, h3, h4⟩
 ·exact absurd h (h2 i i0 i1)
 ·rcases Int.lt_trichotomy i (conI ds c) with h5 | h5 | h5
  ·exact absurd h (h4 i i0 h5)
  ·exact h5.symm
  ·exact absurd h3 (hm _ h1 h5)
theorem conI_none (h : ∀ i : Int, 0 ≤ i → i < ds.length → ¬ conTyOk ds c i) : conI ds c = -1 := by
 rcases conI_cases ds c with ⟨h1, _⟩ | ⟨h1, h2, h3, h4⟩
 ·exact h1
 ·exact absurd h3 (h _ h1 h2)
theorem firstC_le (h : ∀ d ∈ ds, d.cons.length ≤ 3) : ∀ n : Nat, firstC ds n ≤ 3 * n
 | 0 => by simp [firstC]
 | n + 1 => by
  have ih := firstC_le h n
  by_cases hn : n < ds.length
  ·have := firstC_succ (ds := ds) (i := n) (by omega) (by omega)
   rw [show ((n : Int) + 1).toNat = n + 1 from by omega, show ((n : Int)).toNat = n from by omega] at this
   have := h _ (nth_mem (l := ds) (i := n) (by omega) (by omega))
   omega
  ·have : firstC ds (n + 1) = firstC ds n := by unfold firstC; rw [List.take_of_length_le (by omega), List.take_of_length_le (by omega)]
   omega
theorem firstC_mono {a b : Nat} (h : a ≤ b) : firstC ds a ≤ firstC ds b := by
 induction b with
 | zero => rw [show a = 0 from by omega]; exact Nat.le_refl _
 | succ b ih =>
  rcases Nat.lt_or_ge a (b + 1) with h1 | h1
  ·refine Nat.le_trans (ih (by omega)) ?_
   by_cases hn : b < ds.length
   ·have := firstC_succ (ds := ds) (i := b) (by omega) (by omega)
    rw [show ((b : Int) + 1).toNat = b + 1 from by omega, show ((b : Int)).toNat = b from by omega] at this
    omega
   ·have : firstC ds (b + 1) = firstC ds b := by unfold firstC; rw [List.take_of_length_le (by omega), List.take_of_length_le (by omega)]
    omega
  ·rw [show a = b + 1 from by omega]; exact Nat.le_refl _
theorem SmDs.fc (h : SmDs ds) (n : Nat) (hn : n ≤ ds.length) : firstC ds n ≤ 12 := by
 have := firstC_le h.cons n
 have := h.len
 omega
theorem SmDs.hb (h : SmDs ds) : ∀ i : Int, 0 ≤ i → i ≤ ds.length → (firstC ds i.toNat : Int) ≤ 1000000000 := fun i i0 i1 => by
 have := h.fc i.toNat (by omega); omega
theorem SmDs.hb' (h : SmDs ds) : ∀ i : Int, 0 ≤ i → i ≤ ds.length → (firstC ds i.toNat : Int) ≤ 1000000 * 1000000 := fun i i0 i1 => by
 have := h.fc i.toNat (by omega); omega
end
section
variable {u v w : World} {x y xf s t : Sl} {l ws fs ps ls : List Int} {ds : List DeclD} {b m n k f a e i : Int}
theorem typesOk.sm (h : typesOk ds) : SmDs ds := by
 refine ⟨h.1, fun d hd => ?_⟩
 obtain ⟨i, hi, rfl⟩ := List.mem_iff_getElem.1 hd
 have := (declOk_easy (h.2 i (by omega) (by omega))).2.2.1
 rwa [nth_of (i := i) (l := ds) (a := ds[i]) (by simp [hi])] at this
noncomputable def conTyV (ds : List DeclD) (c : Int) : Int := if conI ds c < 0 then -1 else conI ds c + 1
theorem c_specConType (hx : Read v x ds) (hd : SmDs ds) : Fn Tryz.prog 133 #[x.val, .int .i64 n] v (.int .i64 (conTyV ds n)) := by
 obtain ⟨r, h1, h2⟩ := c_conType (n := n) hx (by have := hd.len; omega) (fun d h => by have := hd.cons d h; omega) hd.hb'
 have : r = conTyV ds n := by
  unfold conTyV
  rcases h2 with ⟨rfl, h2⟩ | ⟨r1, r2, r3, r4⟩
  ·rw [conI_none h2, if_pos (by omega)]
  ·rw [conI_some (by omega) (by omega) r3 r4, if_neg (by omega)]; omega
 rw [← this]; exact h1
end
end Go.Vc

namespace Go.Vc
open Go Go.Proofs Go.RowKit
set_option linter.all false

def setsR (op : Int) : Bool := (((decide (op ≥ 0) && decide (op ≤ 11)) || decide (op = 18)) || decide (op = 19))
def opOk (op : Int) : Prop := 0 ≤ op ∧ op ≤ 24 ∧ op ≠ 7 ∧ op ≠ 8 ∧ op ≠ 12 ∧ op ≠ 13
/-- Num of an instruction fits -/
def numV (ds : List DeclD) (ss : List SigD) (at_ end_ op num : Int) (jl : Nat) : Prop :=
 (op = 0 → -999 ≤ num ∧ num ≤ 999) ∧ (op = 6 → 0 ≤ num ∧ num < firstC ds ds.length) ∧ (op = 9 ∨ op = 24 → 0 ≤ num ∧ num < ss.length) ∧ (op = 10 → 0 ≤ num ∧ num < ss.length ∧ (nth ss num).lent.length = 0) ∧
 (op = 19 → 0 ≤ num ∧ num < 3) ∧ (op = 20 ∨ op = 22 → at_ < num ∧ num < end_) ∧ (op = 21 → 0 < (consL ds num).length ∧ jl = (consL ds num).length) ∧
 (op = 1 ∨ op = 2 ∨ op = 3 ∨ op = 4 ∨ op = 5 ∨ op = 11 ∨ op = 14 ∨ op = 15 ∨ op = 16 ∨ op = 17 ∨ op = 18 ∨ op = 23 → num = 0)
noncomputable def argLo (ds : List DeclD) (ss : List SigD) (op num : Int) : Int :=
 if op = 0 ∨ op = 22 then 0 else if op = 1 ∨ op = 2 ∨ op = 3 ∨ op = 4 ∨ op = 11 then 2 else if op = 6 then (conF ds num).length else if op = 9 ∨ op = 24 then (nth ss num).params.length else if op = 10 then ((nth ss num).params.length : Int) - 1 else 1
noncomputable def argHi (ds : List DeclD) (ss : List SigD) (op num : Int) : Int := if op = 16 ∨ op = 17 then 4 else argLo ds ss op num
/-- an instruction is valid -/
def instrOk (ds : List DeclD) (ss : List SigD) (regs end_ at_ : Int) (c : InstrD) : Prop :=
 opOk c.op ∧ c.args.all (laterB 0 (regs - 1)) = true ∧ (0 ≤ c.dst ∧ c.dst < regs) ∧ (c.dst = 0 ∨ setsR c.op = true) ∧ (0 ≤ c.into ∧ c.into ≤ regs) ∧ (c.into = 0 ∨ c.op = 6) ∧ (c.op = 21 ∨ c.jumps.length = 0) ∧
 c.jumps.all (laterB (at_ + 1) (end_ - 1)) = true ∧ numV ds ss at_ end_ c.op c.num c.jumps.length ∧ argLo ds ss c.op c.num ≤ c.args.length ∧ (c.args.length : Int) ≤ argHi ds ss c.op c.num
noncomputable def instrB (ds : List DeclD) (ss : List SigD) (regs end_ at_ : Int) (c : InstrD) : Bool := @decide (instrOk ds ss regs end_ at_ c) (Classical.propDecidable _)
section
variable {u v w : World} {x y z xf s t : Sl} {l ws fs ps ls : List Int} {ds : List DeclD} {ss : List SigD} {b m n k f a e i op num regs at_ end_ : Int} {c : InstrD} {jl : Nat} {q : Bool}
end
end Go.Vc

namespace Go.Vc
open Go Go.Proofs Go.RowKit
set_option linter.all false
/-- the signature of a procedure -/
def sigOf (p : ProcD) : SigD := ⟨p.params, p.lent, p.result⟩
theorem nth_sig (ps : List ProcD) (i : Int) : nth (ps.map sigOf) i = sigOf (nth ps i) := by
 unfold nth List.getD
 rw [List.getElem?_map]
 cases ps[i.toNat]? <;> rfl
section
variable {ds : List DeclD} {ss : List SigD} {at_ end_ op num : Int} {jl : Nat}
theorem numV_int (h : op = 0) : numV ds ss at_ end_ op num jl ↔ -999 ≤ num ∧ num ≤ 999 := by subst h; simp [numV]
theorem numV_con (h : op = 6) : numV ds ss at_ end_ op num jl ↔ 0 ≤ num ∧ num < firstC ds ds.length := by subst h; simp [numV]
theorem numV_call (h : op = 9 ∨ op = 24) : numV ds ss at_ end_ op num jl ↔ 0 ≤ num ∧ num < ss.length := by rcases h with rfl | rfl <;> simp [numV]
theorem numV_close (h : op = 10) : numV ds ss at_ end_ op num jl ↔ 0 ≤ num ∧ num < ss.length ∧ (nth ss num).lent.length = 0 := by subst h; simp [numV]
theorem numV_load (h : op = 19) : numV ds ss at_ end_ op num jl ↔ 0 ≤ num ∧ num < 3 := by subst h; simp [numV]
theorem numV_jump (h : op = 20 ∨ op = 22) : numV ds ss at_ end_ op num jl ↔ at_ < num ∧ num < end_ := by rcases h with rfl | rfl <;> simp [numV]
theorem numV_switch (h : op = 21) : numV ds ss at_ end_ op num jl ↔ 0 < (consL ds num).length ∧ jl = (consL ds num).length := by subst h; simp [numV]
theorem numV_zero (h : op = 1 ∨ op = 2 ∨ op = 3 ∨ op = 4 ∨ op = 5 ∨ op = 11 ∨ op = 14 ∨ op = 15 ∨ op = 16 ∨ op = 17 ∨ op = 18 ∨ op = 23) : numV ds ss at_ end_ op num jl ↔ num = 0 := by
 rcases h with rfl | rfl | rfl | rfl | rfl | rfl | rfl | rfl | rfl | rfl | rfl | rfl <;> simp [numV]
theorem arg_0 (h : op = 0 ∨ op = 22) : argLo ds ss op num = 0 ∧ argHi ds ss op num = 0 := by rcases h with rfl | rfl <;> simp [argLo, argHi]
theorem arg_2 (h : op = 1 ∨ op = 2 ∨ op = 3 ∨ op = 4 ∨ op = 11) : argLo ds ss op num = 2 ∧ argHi ds ss op num = 2 := by rcases h with rfl | rfl | rfl | rfl | rfl <;> simp [argLo, argHi]
theorem arg_6 (h : op = 6) : argLo ds ss op num = (conF ds num).length ∧ argHi ds ss op num = (conF ds num).length := by subst h; simp [argLo, argHi]
theorem arg_9 (h : op = 9 ∨ op = 24) : argLo ds ss op num = (nth ss num).params.length ∧ argHi ds ss op num = (nth ss num).params.length := by rcases h with rfl | rfl <;> simp [argLo, argHi]
theorem arg_10 (h : op = 10) : argLo ds ss op num = ((nth ss num).params.length : Int) - 1 ∧ argHi ds ss op num = ((nth ss num).params.length : Int) - 1 := by subst h; simp [argLo, argHi]
theorem arg_16 (h : op = 16 ∨ op = 17) : argLo ds ss op num = 1 ∧ argHi ds ss op num = 4 := by rcases h with rfl | rfl <;> simp [argLo, argHi]
theorem arg_1 (h : op = 5 ∨ op = 14 ∨ op = 15 ∨ op = 18 ∨ op = 19 ∨ op = 20 ∨ op = 21 ∨ op = 23) : argLo ds ss op num = 1 ∧ argHi ds ss op num = 1 := by
 rcases h with rfl | rfl | rfl | rfl | rfl | rfl | rfl | rfl <;> simp [argLo, argHi]
end
section
variable {u v w : World} {x y z xf s t cx px pl : Sl} {l ws fs ls : List Int} {ds : List DeclD} {ss : List SigD} {ps : List ProcD} {b m n k f a e i op num regs at_ end_ n1 : Int} {c : InstrD} {code : List InstrD} {jl : Nat} {q : Bool}
set_option maxHeartbeats 1600000 in
end
end Go.Vc

namespace Go.Vc
open Go Go.Proofs Go.RowKit
set_option linter.all false
/-- the truth of a proposition, as a Bool -/
noncomputable def pB (p : Prop) : Bool := @decide p (Classical.propDecidable p)
theorem pB_t {p : Prop} (h : p) : pB p = true := by unfold pB; exact @decide_eq_true _ (Classical.propDecidable _) h
theorem pB_iff {p : Prop} : pB p = true ↔ p := by unfold pB; exact @decide_eq_true_iff _ (Classical.propDecidable _)
/-- a function's signature in a program that has nothing else -/
structure FuncD where
 params : List Int
 result : Int
instance : Inhabited FuncD := ⟨⟨[], 0⟩⟩
instance : Dat FuncD where
 sz := 5
 cells B w cs c := ∃ f : Sl, cs = [f.val, intV c.result, intV 0, intV 0, .slice none 0 0] ∧ InI c.result ∧ ReadB B w f c.params
 mono := fun hs ⟨f, h0, i, r⟩ => ⟨f, h0, i, r.mono hs⟩
 len := fun ⟨f, h0, _⟩ => by rw [h0]; rfl
 one := fun ⟨f, h0, _⟩ v hv => by
  rw [h0] at hv; simp only [List.mem_cons, List.not_mem_nil, or_false] at hv
  rcases hv with rfl | rfl | rfl | rfl | rfl <;> rfl
instance : SlT Tryz.prog 29 5 72 [.slice none 0 0, intV 0, intV 0, intV 0, .slice none 0 0] := .of (by kernel_rfl) rfl (by decide)
instance : SlT Tryz.prog 153 3 56 [.slice none 0 0, .slice none 0 0, intV 0] := .of (by kernel_rfl) rfl (by decide)
/-- one signature -/
def sigP (ds : List DeclD) (ps : List Int) (r : Int) : Prop := ps.length ≤ 3 ∧ ps.all (typeB ds.length) = true ∧ typeB ds.length r = true
def sigSigs (ds : List DeclD) (ss : List SigD) : Prop := typesOk ds ∧ 1 ≤ ss.length ∧ ss.length ≤ 4 ∧ (nth ss 0).params.length = 0 ∧ (nth ss 0).result = 0 ∧ ∀ i : Int, 0 ≤ i → i < ss.length → sigP ds (nth ss i).params (nth ss i).result ∧ lentOk (nth ss i).params (nth ss i).lent
/-- a procedure, apart from what its signature asks for -/
def codeOk (ds : List DeclD) (ss : List SigD) (p : ProcD) : Prop := 1 ≤ p.regs ∧ (p.params.length : Int) ≤ p.regs ∧ p.regs ≤ 2000 ∧ 1 ≤ p.code.length ∧ p.code.length ≤ 2000 ∧ ((nth p.code ((p.code.length : Int) - 1)).op = 23 ∨ (nth p.code ((p.code.length : Int) - 1)).op = 24) ∧
 ∀ i : Int, 0 ≤ i → i < p.code.length → instrB ds ss p.regs p.code.length i (nth p.code i) = true
def imOk (ds : List DeclD) (ps : List ProcD) : Prop := sigSigs ds (ps.map sigOf) ∧ ∀ i : Int, 0 ≤ i → i < ps.length → codeOk ds (ps.map sigOf) (nth ps i)
section
variable {u v w : World} {x y z xf s t cx px pl : Sl} {l ws fs ls : List Int} {ds : List DeclD} {ss : List SigD} {ps : List ProcD} {gs : List FuncD} {b m n k f a e i op num regs at_ end_ n1 : Int} {c : InstrD} {p : ProcD} {code : List InstrD} {jl : Nat} {q : Bool}
end
end Go.Vc
