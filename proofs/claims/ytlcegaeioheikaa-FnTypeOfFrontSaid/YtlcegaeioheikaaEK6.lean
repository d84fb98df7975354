/- Part of the proofs about the heaps and memories: a law is joined in the text whose name ends in W and the law. -/
import Derived.Test.YtlcegaeioheikaaEK5
namespace Go.Vc
open Go Go.Proofs Go.RowKit
set_option linter.all false
section
variable {u v w : World} {x y xf s t : Sl} {l ws fs ns : List Int} {b m n k f e i : Int} {a : Addr} {I J K L R : Items}
/-- the constructors of a type -/
def consL (ds : List DeclD) (t : Int) : List Int := if 1 ≤ t ∧ t ≤ ds.length then (List.range (nth ds (t - 1)).cons.length).map fun (k : Nat) => (firstC ds (t - 1).toNat : Int) + k else []
theorem c_consOf {ds : List DeclD} (hx : Read v x ds) (hn : InI n) (hd : ds.length ≤ 1000) (hc : ∀ d ∈ ds, d.cons.length ≤ 1000) (hb : ∀ i : Int, 0 ≤ i → i ≤ ds.length → (firstC ds i.toNat : Int) ≤ 1000000000) :
  Mk Try.prog 75 #[x.val, .int .i64 n] v fun r J => ∃ z, r = z.val ∧ Own v z (consL ds n) J := by
 refine of75 _ _ _ _ ?_
 unfold vc75
 have hxn := hx.n
 have hS := St.refl v
 refine St.build (α := Int) hS (by (repeat' (first | exact VsOf.nil | apply VsOf.cons | (apply VOf.int; first | assumption | (constructor <;> first | omega | (simp only [List.length_set, List.length_append, List.length_replicate, List.length_cons, List.length_nil, List.length_take, List.length_drop, List.length_map, List.length_singleton] at *; omega))) | exact VOf.bool | exact VOf.str))) rfl (by decide) ?_
 intro z0 w0 I0 hO0 hS hs
 refine ⟨_, rfl, _, c_inRange, fun hq => ?_, fun hq => ?_⟩
 ·have hno : consL ds n = [] := if_neg (fun h => by
   rw [decide_eq_true h.1, decide_eq_true (show n ≤ (x.n : Int) by omega)] at hq; cases hq)
  exact ⟨I0, by simpa using hS, z0, rfl, by rw [hno]; exact hO0⟩
 ·have hr : 1 ≤ n ∧ n ≤ ds.length := by simp at hq; omega
  have hyes : consL ds n = (List.range (nth ds (n - 1)).cons.length).map fun (k : Nat) => (firstC ds (n - 1).toNat : Int) + k := if_pos hr
  have h0 : 0 ≤ n - 1 := by omega
  have h1 : n - 1 < ds.length := by omega
  have hcl := hc _ (nth_mem (l := ds) h0 h1)
  have hbf := hb (n - 1) h0 (by omega)
  refine ⟨fun z i w => ∃ I, Own v z ((List.range i.toNat).map fun (k : Nat) => (firstC ds (n - 1).toNat : Int) + k) I ∧ St v w (I ++ []) ∧ 0 ≤ i ∧ i ≤ (nth ds (n - 1)).cons.length, fun _ i _ => ((nth ds (n - 1)).cons.length - i).toNat, ⟨I0, hO0, hS, by omega, by omega⟩, ?_⟩
  clear hO0 hS
  rintro z i w ⟨I, hO, hS, i0, i1⟩
  dsimp only
  have hxr := hx.mono hS.sub
  refine go_wr (by omega) (by omega) ?_
  refine go_ix hxr h0 h1 ?_
  refine ld_decl_cons (hxr.src (.refl _)) h0 h1 ?_
  intro g hg
  have hgn := hg.n
  refine ⟨fun hi => ?_, fun hi => ?_⟩
  ·simp only [bls] at hi
   refine go_wr (by omega) (by omega) ?_
   refine ⟨_, c_firstCon hxr (by omega) (fun d hd2 => by have := hc d hd2; omega) h0 (by omega), ?_⟩
   refine go_wr (by omega) (by omega) ?_
   refine St.build (α := Int) hS (by (repeat' (first | exact VsOf.nil | apply VsOf.cons | (apply VOf.int; first | assumption | (constructor <;> first | omega | (simp only [List.length_set, List.length_append, List.length_replicate, List.length_cons, List.length_nil, List.length_take, List.length_drop, List.length_map, List.length_singleton] at *; omega))) | exact VOf.bool | exact VOf.str))) rfl (by decide) ?_
   intro x4 w4 I4 hO4 hS hs
   refine ⟨_, rfl, ?_⟩
   refine Own.append hO hS (Own.src hO4 hS) (by simp; omega) (by decide) ?_
   intro x5 w5 I5 hO5 hS
   refine ⟨_, rfl, ?_⟩
   refine go_wr (by omega) (by omega) ?_
   refine ⟨⟨I5, ?_, hS.to, by omega, by omega⟩, by omega⟩
   rw [show (i + 1).toNat = i.toNat + 1 from by omega, List.range_succ, List.map_append, List.map_singleton, show ((i.toNat : Nat) : Int) = i from by omega]
   exact hO5
  ·simp only [bls] at hi
   rw [show i.toNat = (nth ds (n - 1)).cons.length from by omega] at hO
   exact ⟨I, by simpa using hS, z, rfl, by rw [hyes]; exact hO⟩
end
end Go.Vc

namespace Go.Vc
open Go Go.Proofs Go.RowKit
set_option linter.all false
section
variable {u v w : World} {x y xf s t : Sl} {l ws fs ns : List Int} {b m n k f e i : Int} {a : Addr} {I J K L R : Items}
end
end Go.Vc

namespace Go.Vc
open Go Go.Proofs Go.RowKit
set_option linter.all false

/-- the declaration whose constructor it is, or -1 -/
def conP (ds : List DeclD) (c : Int) (i : Nat) : Prop := (i : Int) < ds.length ∧ conTyOk ds c i
open Classical in
noncomputable def conI (ds : List DeclD) (c : Int) : Int := if ∃ i : Nat, conP ds c i then (leastM (conP ds c) : Int) else -1
/-- the fields of a constructor -/
noncomputable def conF (ds : List DeclD) (c : Int) : List Int := if conI ds c < 0 then [] else (nth (nth ds (conI ds c)).cons (c - firstC ds (conI ds c).toNat)).fields
/-- small declarations -/
structure SmDs (ds : List DeclD) : Prop where
 len : ds.length ≤ 4
 cons : ∀ d ∈ ds, d.cons.length ≤ 3
section
variable {ds : List DeclD} {c i j n : Int}
theorem conI_cases (ds : List DeclD) (c : Int) : (conI ds c = -1 ∧ ∀ i : Int, 0 ≤ i → i < ds.length → ¬ conTyOk ds c i) ∨ (0 ≤ conI ds c ∧ conI ds c < ds.length ∧ conTyOk ds c (conI ds c) ∧ ∀ i : Int, 0 ≤ i → i < conI ds c → ¬ conTyOk ds c i) := by
 unfold conI
 split
 ·rename_i h
  have h1 := leastM_spec h
  refine .inr ⟨by omega, h1.1, h1.2, fun i i0 i1 hk => ?_⟩
  have := leastM_le (p := conP ds c) (k := i.toNat) ⟨by have := h1.1; omega, by rw [show ((i.toNat : Nat) : Int) = i from by omega]; exact hk⟩
  omega
 ·rename_i h
  exact .inl ⟨rfl, fun i i0 i1 hk => h ⟨i.toNat, by omega, by rw [show ((i.toNat : Nat) : Int) = i from by omega]; exact hk⟩⟩
theorem conI_some (i0 : 0 ≤ i) (i1 : i < ds.length) (h : conTyOk ds c i) (hm : ∀ j : Int, 0 ≤ j → j < i → ¬ conTyOk ds c j) : conI ds c = i := by
 rcases conI_cases ds c with ⟨_, h2⟩ | ⟨h1, h2, h3, h4⟩
 ·exact absurd h (h2 i i0 i1)
 ·rcases Int.lt_trichotomy i (conI ds c) with h5 | h5 | h5
  ·exact absurd h (h4 i i0 h5)
  ·exact h5.symm
  ·exact absurd h3 (hm _ h1 h5)
theorem conI_none (h : ∀ i : Int, 0 ≤ i → i < ds.length → ¬ conTyOk ds c i) : conI ds c = -1 := by
 rcases conI_cases ds c with ⟨h1, _⟩ | ⟨h1, h2, h3, h4⟩
 ·exact h1
 ·exact absurd h3 (h _ h1 h2)
theorem firstC_le (h : ∀ d ∈ ds, d.cons.length ≤ 3) : ∀ n : Nat, firstC ds n ≤ 3 * n
 | 0 => by simp [firstC]
 | n + 1 => by
  have ih := firstC_le h n
  by_cases hn : n < ds.length
  ·have := firstC_succ (ds := ds) (i := n) (by omega) (by omega)
   rw [show ((n : Int) + 1).toNat = n + 1 from by omega, show ((n : Int)).toNat = n from by omega] at this
   have := h _ (nth_mem (l := ds) (i := n) (by omega) (by omega))
   omega
  ·have : firstC ds (n + 1) = firstC ds n := by unfold firstC; rw [List.take_of_length_le (by omega), List.take_of_length_le (by omega)]
   omega
theorem firstC_mono {a b : Nat} (h : a ≤ b) : firstC ds a ≤ firstC ds b := by
 induction b with
 | zero => rw [show a = 0 from by omega]; exact Nat.le_refl _
 | succ b ih =>
  rcases Nat.lt_or_ge a (b + 1) with h1 | h1
  ·refine Nat.le_trans (ih (by omega)) ?_
   by_cases hn : b < ds.length
   ·have := firstC_succ (ds := ds) (i := b) (by omega) (by omega)
    rw [show ((b : Int) + 1).toNat = b + 1 from by omega, show ((b : Int)).toNat = b from by omega] at this
    omega
   ·have : firstC ds (b + 1) = firstC ds b := by unfold firstC; rw [List.take_of_length_le (by omega), List.take_of_length_le (by omega)]
    omega
  ·rw [show a = b + 1 from by omega]; exact Nat.le_refl _
theorem SmDs.fc (h : SmDs ds) (n : Nat) (hn : n ≤ ds.length) : firstC ds n ≤ 12 := by
 have := firstC_le h.cons n
 have := h.len
 omega
theorem SmDs.hb (h : SmDs ds) : ∀ i : Int, 0 ≤ i → i ≤ ds.length → (firstC ds i.toNat : Int) ≤ 1000000000 := fun i i0 i1 => by
 have := h.fc i.toNat (by omega); omega
theorem SmDs.hb' (h : SmDs ds) : ∀ i : Int, 0 ≤ i → i ≤ ds.length → (firstC ds i.toNat : Int) ≤ 1000000 * 1000000 := fun i i0 i1 => by
 have := h.fc i.toNat (by omega); omega
end
section
variable {u v w : World} {x y xf s t : Sl} {l ws fs ps ls : List Int} {ds : List DeclD} {b m n k f a e i : Int}
theorem typesOk.sm (h : typesOk ds) : SmDs ds := by
 refine ⟨h.1, fun d hd => ?_⟩
 obtain ⟨i, hi, rfl⟩ := List.mem_iff_getElem.1 hd
 have := (declOk_easy (h.2 i (by omega) (by omega))).2.2.1
 rwa [nth_of (i := i) (l := ds) (a := ds[i]) (by simp [hi])] at this
noncomputable def conTyV (ds : List DeclD) (c : Int) : Int := if conI ds c < 0 then -1 else conI ds c + 1
theorem c_specConType (hx : Read v x ds) (hd : SmDs ds) : Fn Try.prog 49 #[x.val, .int .i64 n] v (.int .i64 (conTyV ds n)) := by
 obtain ⟨r, h1, h2⟩ := c_conType (n := n) hx (by have := hd.len; omega) (fun d h => by have := hd.cons d h; omega) hd.hb'
 have : r = conTyV ds n := by
  unfold conTyV
  rcases h2 with ⟨rfl, h2⟩ | ⟨r1, r2, r3, r4⟩
  ·rw [conI_none h2, if_pos (by omega)]
  ·rw [conI_some (by omega) (by omega) r3 r4, if_neg (by omega)]; omega
 rw [← this]; exact h1
/-- the program's own look-up of a constructor -/
theorem c_conAt (hx : Read v x ds) (hd : SmDs ds) (hn : -1000000 ≤ n ∧ n ≤ 1000000) : ∃ z : Sl, Read v z (conF ds n) ∧ Fn Try.prog 69 #[x.val, .int .i64 n] v (.tuple #[.int .i64 (conTyV ds n), .agg #[z.val]]) := by
 have hxn := hx.n
 have hlen := hd.len
 have hz : ∃ z : Sl, Read v z (conF ds n) ∧ (conI ds n < 0 → z = Sl.mk none 0 0) ∧ (0 ≤ conI ds n → ∀ (xf : Sl) (w : World), Sub v w → w.cell? ((elA x (conI ds n) 3).add 2) = some xf.val → w.cell? ((elA xf (n - firstC ds (conI ds n).toNat) 1).add 0) = some z.val) := by
  rcases conI_cases ds n with ⟨h1, _⟩ | ⟨h1, h2, h3, h4⟩
  ·refine ⟨Sl.mk none 0 0, ?_, fun _ => rfl, fun h => by omega⟩
   unfold conF
   rw [if_pos (by omega)]
   exact ReadB.nil
  ·obtain ⟨f_cons, e1, e2, e3, i1, i2, r1⟩ := (hx.src (.refl v)).ofDeclD h1 h2
   obtain ⟨q1, q2⟩ := h3
   obtain ⟨f_fields, e4, r2⟩ := (r1.src (.refl v)).ofConD (i := n - firstC ds (conI ds n).toNat) (by omega) (by omega)
   refine ⟨f_fields, ?_, fun h => by omega, fun _ xf w hs hc => ?_⟩
   ·unfold conF
    rw [if_neg (by omega)]
    exact r2
   ·have := cell_sub hs e3
    rw [this] at hc
    cases f_cons; cases xf
    simp only [Sl.val, Option.some.injEq, Value.slice.injEq] at hc
    obtain ⟨rfl, rfl, rfl⟩ := hc
    exact cell_sub hs e4
 obtain ⟨z, hzr, hz0, hz1⟩ := hz
 refine ⟨z, hzr, ?_⟩
 refine of69 _ _ _ _ ?_
 unfold vc69
 refine ⟨fun c i w => Sub v w ∧ 0 ≤ i ∧ i ≤ ds.length ∧ c = n - firstC ds i.toNat ∧ ∀ j : Int, 0 ≤ j → j < i → ¬ conTyOk ds n j, fun _ i _ => (ds.length - i).toNat, ⟨.refl v, by omega, by omega, by simp [firstC], fun j j0 j1 => by omega⟩, ?_⟩
 rintro c i w ⟨hs, i0, i1, hc, h⟩
 dsimp only
 refine ⟨fun hi => ?_, fun hi => ?_⟩
 ·simp only [bls] at hi
  have hil : i < ds.length := by omega
  have hfc := hd.fc i.toNat (by omega)
  obtain ⟨f_cons, e1, e2, e3, j1, j2, r1⟩ := (hx.src hs).ofDeclD i0 hil
  have hfn := r1.n
  have hcl := hd.cons _ (nth_mem (l := ds) i0 hil)
  refine go_ix hx i0 hil ?_
  refine ⟨_, _, f_cons, ⟨e1, e2, e3⟩, fun hq => ?_, fun hq => ?_⟩
  ·simp only [bls] at hq
   have hk : conTyOk ds n i := ⟨by omega, by omega⟩
   have hci := conI_some i0 hil hk h
   refine go_wr (by omega) (by omega) ?_
   refine go_ix r1 (by omega) (by omega) ?_
   refine ⟨z, ?_, ?_, hs⟩
   ·rw [hc, ← hci]
    exact hz1 (by omega) f_cons w hs (by rw [hci]; exact e3)
   ·unfold conTyV
    rw [hci, if_neg (by omega)]
  ·have hk : ¬ conTyOk ds n i := fun hk => by
    obtain ⟨q1, q2⟩ := hk
    simp only [Bool.and_eq_false_iff, decide_eq_false_iff_not] at hq
    omega
   have e := firstC_succ (ds := ds) i0 hil
   refine go_wr (by omega) (by omega) ?_
   refine go_wr (by omega) (by omega) ?_
   refine ⟨rfl, ⟨hs, by omega, by omega, by omega, fun j j0 j1 => ?_⟩, by omega⟩
   by_cases e : j = i
   ·rw [e]; exact hk
   ·exact h j j0 (by omega)
 ·simp only [bls] at hi
  have hci := conI_none (c := n) fun j j0 j1 => h j j0 (by omega)
  refine ⟨?_, hs⟩
  rw [hz0 (by omega)]
  unfold conTyV
  rw [hci, if_pos (by omega)]
  rfl
theorem firstC_take {n : Nat} (h : n ≤ ds.length) : firstC (ds.take n) n = firstC ds n := by
 unfold firstC; rw [List.take_take, Nat.min_self]
theorem c_implConsOf (hx : Read v x ds) (hd : SmDs ds) (hn : InI n) : Mk Try.prog 42 #[x.val, .int .i64 n] v fun r J => ∃ z, r = z.val ∧ Own v z (consL ds n) J := by
 refine of42 _ _ _ _ ?_
 unfold vc42
 have hxn := hx.n
 have hlen := hd.len
 refine ⟨fun hq => ?_, fun hq => ?_⟩
 ·simp only [bls] at hq
  have hno : consL ds n = [] := if_neg (fun h => by omega)
  exact ⟨[], St.refl v, ⟨none, 0, 0⟩, rfl, by rw [hno]; exact Own.nil v⟩
 ·simp only [bls] at hq
  have hr : 1 ≤ n ∧ n ≤ ds.length := by omega
  have hyes : consL ds n = (List.range (nth ds (n - 1)).cons.length).map fun (k : Nat) => (firstC ds (n - 1).toNat : Int) + k := if_pos hr
  have h0 : 0 ≤ n - 1 := by omega
  have h1 : n - 1 < ds.length := by omega
  have hcl := hd.cons _ (nth_mem (l := ds) h0 h1)
  have hbf := hd.fc (n - 1).toNat (by omega)
  have hcut := hx.cut (lo := 0) (hi := n - 1) (by omega) (by omega) (by omega)
  simp only [show ((0 : Int)).toNat = 0 from rfl, List.drop_zero] at hcut
  have hcutn := hcut.n
  have hcs : Dat.sz DeclD = 3 := rfl
  rw [hcs] at hcut hcutn
  have hcc := c_conCount hcut (by rw [List.length_take]; omega) (fun d h => by have := hd.cons d (List.mem_of_mem_take h); omega)
  rw [List.length_take, show min (n - 1).toNat ds.length = (n - 1).toNat from by omega, firstC_take (by omega)] at hcc
  refine go_wr (by omega) (by omega) ?_
  refine ⟨⟨by omega, by omega, by obtain ⟨_, hr2, _⟩ := hx; have := hr2.2.1; omega⟩, ?_⟩
  refine ⟨_, hcc, ?_⟩
  refine go_wr (by omega) (by omega) ?_
  refine go_ix hx h0 h1 ?_
  refine ld_decl_cons (hx.src (.refl v)) h0 h1 ?_
  intro g hg
  have hgn := hg.n
  refine ⟨fun z i w => ∃ I, Own v z ((List.range i.toNat).map fun (k : Nat) => (firstC ds (n - 1).toNat : Int) + k) I ∧ St v w (I ++ []) ∧ 0 ≤ i ∧ i ≤ (nth ds (n - 1)).cons.length, fun _ i _ => ((nth ds (n - 1)).cons.length - i).toNat, ⟨[], Own.nil v, St.refl v, by omega, by omega⟩, ?_⟩
  rintro z i w ⟨I, hO, hS, i0, i1⟩
  dsimp only
  refine ⟨fun hi => ?_, fun hi => ?_⟩
  ·simp only [bls] at hi
   refine go_wr (by omega) (by omega) ?_
   refine St.build (α := Int) hS (by (repeat' (first | exact VsOf.nil | apply VsOf.cons | (apply VOf.int; first | assumption | (constructor <;> first | omega | (simp only [List.length_set, List.length_append, List.length_replicate, List.length_cons, List.length_nil, List.length_take, List.length_drop, List.length_map, List.length_singleton] at *; omega))) | exact VOf.bool | exact VOf.str))) rfl (by decide) ?_
   intro x4 w4 I4 hO4 hS hs
   refine ⟨_, rfl, ?_⟩
   refine Own.append hO hS (Own.src hO4 hS) (by simp; omega) (by decide) ?_
   intro x5 w5 I5 hO5 hS
   refine ⟨_, rfl, ?_⟩
   refine go_wr (by omega) (by omega) ?_
   refine ⟨⟨I5, ?_, hS.to, by omega, by omega⟩, by omega⟩
   rw [show (i + 1).toNat = i.toNat + 1 from by omega, List.range_succ, List.map_append, List.map_singleton, show ((i.toNat : Nat) : Int) = i from by omega]
   exact hO5
  ·simp only [bls] at hi
   rw [show i.toNat = (nth ds (n - 1)).cons.length from by omega] at hO
   exact ⟨I, by simpa using hS, z, rfl, by rw [hyes]; exact hO⟩
end
end Go.Vc

namespace Go.Vc
open Go Go.Proofs Go.RowKit
set_option linter.all false

def setsR (op : Int) : Bool := (((decide (op ≥ 0) && decide (op ≤ 11)) || decide (op = 18)) || decide (op = 19))
def opOk (op : Int) : Prop := 0 ≤ op ∧ op ≤ 24 ∧ op ≠ 7 ∧ op ≠ 8 ∧ op ≠ 12 ∧ op ≠ 13
/-- Num of an instruction fits -/
def numV (ds : List DeclD) (ss : List SigD) (at_ end_ op num : Int) (jl : Nat) : Prop :=
 (op = 0 → -999 ≤ num ∧ num ≤ 999) ∧ (op = 6 → 0 ≤ num ∧ num < firstC ds ds.length) ∧ (op = 9 ∨ op = 24 → 0 ≤ num ∧ num < ss.length) ∧ (op = 10 → 0 ≤ num ∧ num < ss.length ∧ (nth ss num).lent.length = 0) ∧
 (op = 19 → 0 ≤ num ∧ num < 3) ∧ (op = 20 ∨ op = 22 → at_ < num ∧ num < end_) ∧ (op = 21 → 0 < (consL ds num).length ∧ jl = (consL ds num).length) ∧
 (op = 1 ∨ op = 2 ∨ op = 3 ∨ op = 4 ∨ op = 5 ∨ op = 11 ∨ op = 14 ∨ op = 15 ∨ op = 16 ∨ op = 17 ∨ op = 18 ∨ op = 23 → num = 0)
noncomputable def argLo (ds : List DeclD) (ss : List SigD) (op num : Int) : Int :=
 if op = 0 ∨ op = 22 then 0 else if op = 1 ∨ op = 2 ∨ op = 3 ∨ op = 4 ∨ op = 11 then 2 else if op = 6 then (conF ds num).length else if op = 9 ∨ op = 24 then (nth ss num).params.length else if op = 10 then ((nth ss num).params.length : Int) - 1 else 1
noncomputable def argHi (ds : List DeclD) (ss : List SigD) (op num : Int) : Int := if op = 16 ∨ op = 17 then 4 else argLo ds ss op num
/-- an instruction is valid -/
def instrOk (ds : List DeclD) (ss : List SigD) (regs end_ at_ : Int) (c : InstrD) : Prop :=
 opOk c.op ∧ c.args.all (laterB 0 (regs - 1)) = true ∧ (0 ≤ c.dst ∧ c.dst < regs) ∧ (c.dst = 0 ∨ setsR c.op = true) ∧ (0 ≤ c.into ∧ c.into ≤ regs) ∧ (c.into = 0 ∨ c.op = 6) ∧ (c.op = 21 ∨ c.jumps.length = 0) ∧
 c.jumps.all (laterB (at_ + 1) (end_ - 1)) = true ∧ numV ds ss at_ end_ c.op c.num c.jumps.length ∧ argLo ds ss c.op c.num ≤ c.args.length ∧ (c.args.length : Int) ≤ argHi ds ss c.op c.num
noncomputable def instrB (ds : List DeclD) (ss : List SigD) (regs end_ at_ : Int) (c : InstrD) : Bool := @decide (instrOk ds ss regs end_ at_ c) (Classical.propDecidable _)
section
variable {u v w : World} {x y z xf s t : Sl} {l ws fs ps ls : List Int} {ds : List DeclD} {ss : List SigD} {b m n k f a e i op num regs at_ end_ : Int} {c : InstrD} {jl : Nat} {q : Bool}
end
end Go.Vc

namespace Go.Vc
open Go Go.Proofs Go.RowKit
set_option linter.all false
/-- the signature of a procedure -/
def sigOf (p : ProcD) : SigD := ⟨p.params, p.lent, p.result⟩
theorem nth_sig (ps : List ProcD) (i : Int) : nth (ps.map sigOf) i = sigOf (nth ps i) := by
 unfold nth List.getD
 rw [List.getElem?_map]
 cases ps[i.toNat]? <;> rfl
section
variable {ds : List DeclD} {ss : List SigD} {at_ end_ op num : Int} {jl : Nat}
theorem numV_int (h : op = 0) : numV ds ss at_ end_ op num jl ↔ -999 ≤ num ∧ num ≤ 999 := by subst h; simp [numV]
theorem numV_con (h : op = 6) : numV ds ss at_ end_ op num jl ↔ 0 ≤ num ∧ num < firstC ds ds.length := by subst h; simp [numV]
theorem numV_call (h : op = 9 ∨ op = 24) : numV ds ss at_ end_ op num jl ↔ 0 ≤ num ∧ num < ss.length := by rcases h with rfl | rfl <;> simp [numV]
theorem numV_close (h : op = 10) : numV ds ss at_ end_ op num jl ↔ 0 ≤ num ∧ num < ss.length ∧ (nth ss num).lent.length = 0 := by subst h; simp [numV]
theorem numV_load (h : op = 19) : numV ds ss at_ end_ op num jl ↔ 0 ≤ num ∧ num < 3 := by subst h; simp [numV]
theorem numV_jump (h : op = 20 ∨ op = 22) : numV ds ss at_ end_ op num jl ↔ at_ < num ∧ num < end_ := by rcases h with rfl | rfl <;> simp [numV]
theorem numV_switch (h : op = 21) : numV ds ss at_ end_ op num jl ↔ 0 < (consL ds num).length ∧ jl = (consL ds num).length := by subst h; simp [numV]
theorem numV_zero (h : op = 1 ∨ op = 2 ∨ op = 3 ∨ op = 4 ∨ op = 5 ∨ op = 11 ∨ op = 14 ∨ op = 15 ∨ op = 16 ∨ op = 17 ∨ op = 18 ∨ op = 23) : numV ds ss at_ end_ op num jl ↔ num = 0 := by
 rcases h with rfl | rfl | rfl | rfl | rfl | rfl | rfl | rfl | rfl | rfl | rfl | rfl <;> simp [numV]
theorem arg_0 (h : op = 0 ∨ op = 22) : argLo ds ss op num = 0 ∧ argHi ds ss op num = 0 := by rcases h with rfl | rfl <;> simp [argLo, argHi]
theorem arg_2 (h : op = 1 ∨ op = 2 ∨ op = 3 ∨ op = 4 ∨ op = 11) : argLo ds ss op num = 2 ∧ argHi ds ss op num = 2 := by rcases h with rfl | rfl | rfl | rfl | rfl <;> simp [argLo, argHi]
theorem arg_6 (h : op = 6) : argLo ds ss op num = (conF ds num).length ∧ argHi ds ss op num = (conF ds num).length := by subst h; simp [argLo, argHi]
theorem arg_9 (h : op = 9 ∨ op = 24) : argLo ds ss op num = (nth ss num).params.length ∧ argHi ds ss op num = (nth ss num).params.length := by rcases h with rfl | rfl <;> simp [argLo, argHi]
theorem arg_10 (h : op = 10) : argLo ds ss op num = ((nth ss num).params.length : Int) - 1 ∧ argHi ds ss op num = ((nth ss num).params.length : Int) - 1 := by subst h; simp [argLo, argHi]
theorem arg_16 (h : op = 16 ∨ op = 17) : argLo ds ss op num = 1 ∧ argHi ds ss op num = 4 := by rcases h with rfl | rfl <;> simp [argLo, argHi]
theorem arg_1 (h : op = 5 ∨ op = 14 ∨ op = 15 ∨ op = 18 ∨ op = 19 ∨ op = 20 ∨ op = 21 ∨ op = 23) : argLo ds ss op num = 1 ∧ argHi ds ss op num = 1 := by
 rcases h with rfl | rfl | rfl | rfl | rfl | rfl | rfl | rfl <;> simp [argLo, argHi]
end
section
variable {u v w : World} {x y z xf s t cx px pl : Sl} {l ws fs ls : List Int} {ds : List DeclD} {ss : List SigD} {ps : List ProcD} {b m n k f a e i op num regs at_ end_ n1 : Int} {c : InstrD} {code : List InstrD} {jl : Nat} {q : Bool}
set_option maxHeartbeats 1600000 in
end
end Go.Vc

namespace Go.Vc
open Go Go.Proofs Go.RowKit
set_option linter.all false
/-- the truth of a proposition, as a Bool -/
noncomputable def pB (p : Prop) : Bool := @decide p (Classical.propDecidable p)
theorem pB_t {p : Prop} (h : p) : pB p = true := by unfold pB; exact @decide_eq_true _ (Classical.propDecidable _) h
theorem pB_f {p : Prop} (h : ¬ p) : pB p = false := by unfold pB; exact @decide_eq_false _ (Classical.propDecidable _) h
theorem pB_eq {p : Prop} {q : Bool} (h : q = true ↔ p) : q = pB p := by
 cases q with
 | true => rw [pB_t (h.1 rfl)]
 | false => rw [pB_f fun hh => Bool.noConfusion (h.2 hh)]
theorem pB_iff {p : Prop} : pB p = true ↔ p := by unfold pB; exact @decide_eq_true_iff _ (Classical.propDecidable _)
/-- a function's signature in a program that has nothing else -/
structure FuncD where
 params : List Int
 result : Int
instance : Inhabited FuncD := ⟨⟨[], 0⟩⟩
instance : Dat FuncD where
 sz := 5
 cells B w cs c := ∃ f : Sl, cs = [f.val, intV c.result, intV 0, intV 0, .slice none 0 0] ∧ InI c.result ∧ ReadB B w f c.params
 mono := fun hs ⟨f, h0, i, r⟩ => ⟨f, h0, i, r.mono hs⟩
 len := fun ⟨f, h0, _⟩ => by rw [h0]; rfl
 one := fun ⟨f, h0, _⟩ v hv => by
  rw [h0] at hv; simp only [List.mem_cons, List.not_mem_nil, or_false] at hv
  rcases hv with rfl | rfl | rfl | rfl | rfl <;> rfl
instance : SlT Try.prog 24 5 72 [.slice none 0 0, intV 0, intV 0, intV 0, .slice none 0 0] := .of (by kernel_rfl) rfl (by decide)
instance : SlT Try.prog 53 3 56 [.slice none 0 0, .slice none 0 0, intV 0] := .of (by kernel_rfl) rfl (by decide)
/-- one signature -/
def sigP (ds : List DeclD) (ps : List Int) (r : Int) : Prop := ps.length ≤ 3 ∧ ps.all (typeB ds.length) = true ∧ typeB ds.length r = true
def sigSigs (ds : List DeclD) (ss : List SigD) : Prop := typesOk ds ∧ 1 ≤ ss.length ∧ ss.length ≤ 4 ∧ (nth ss 0).params.length = 0 ∧ (nth ss 0).result = 0 ∧ ∀ i : Int, 0 ≤ i → i < ss.length → sigP ds (nth ss i).params (nth ss i).result ∧ lentOk (nth ss i).params (nth ss i).lent
/-- a procedure, apart from what its signature asks for -/
def codeOk (ds : List DeclD) (ss : List SigD) (p : ProcD) : Prop := 1 ≤ p.regs ∧ (p.params.length : Int) ≤ p.regs ∧ p.regs ≤ 2000 ∧ 1 ≤ p.code.length ∧ p.code.length ≤ 2000 ∧ ((nth p.code ((p.code.length : Int) - 1)).op = 23 ∨ (nth p.code ((p.code.length : Int) - 1)).op = 24) ∧
 ∀ i : Int, 0 ≤ i → i < p.code.length → instrB ds ss p.regs p.code.length i (nth p.code i) = true
def imOk (ds : List DeclD) (ps : List ProcD) : Prop := sigSigs ds (ps.map sigOf) ∧ ∀ i : Int, 0 ≤ i → i < ps.length → codeOk ds (ps.map sigOf) (nth ps i)
section
variable {u v w : World} {x y z xf s t cx px pl : Sl} {l ws fs ls : List Int} {ds : List DeclD} {ss : List SigD} {ps : List ProcD} {gs : List FuncD} {b m n k f a e i op num regs at_ end_ n1 : Int} {c : InstrD} {p : ProcD} {code : List InstrD} {jl : Nat} {q : Bool}
theorem typesB_iff : typesB ds = true ↔ typesOk ds := by unfold typesB; exact @decide_eq_true_iff _ (Classical.propDecidable _)
theorem c_implValidSigs (hx : Read v x ds) (hy : Read v y ss) : Fn Try.prog 38 #[x.val, y.val] v (.bool (pB (sigSigs ds ss))) := by
 refine of38 _ _ _ _ ?_
 unfold vc38
 have hxn := hx.n
 have hxl := hx.le
 have hyn := hy.n
 have bad : ¬ sigSigs ds ss → Value.bool false = .bool (pB (sigSigs ds ss)) := fun h => by rw [pB_f h]
 have hr : (((!typesB ds) || decide ((y.n : Int) < 1)) || decide ((y.n : Int) > 4)) = false → 0 ≤ (0 : Int) ∧ (0 : Int) < ss.length := fun h => by
  simp only [Bool.or_eq_false_iff, decide_eq_false_iff_not] at h; omega
 refine ⟨_, c_implValidTypes hx, ?_⟩
 refine go_ixg hy hr ?_
 refine ldg_sig_params (hy.src (.refl v)) hr ?_
 intro g hg
 refine go_ixg hy (fun h => hr (by rw [Bool.or_eq_false_iff] at h; exact h.1)) ?_
 refine ldg_sig_result (hy.src (.refl v)) (fun h => hr (by rw [Bool.or_eq_false_iff] at h; exact h.1)) ?_
 refine ⟨fun hq => ⟨?_, .refl v⟩, fun hq => ?_⟩
 ·refine bad fun h => ?_
  have h2 := h.2.1
  have h3 := h.2.2.1
  have h4 := h.2.2.2.1
  have h5 := h.2.2.2.2.1
  have hgn := (hg (by rw [typesB_t h.1]; simp; omega)).n
  rw [typesB_t h.1] at hq
  simp at hq
  omega
 have hq3 : typesOk ds ∧ 1 ≤ ss.length ∧ ss.length ≤ 4 ∧ (nth ss 0).params.length = 0 ∧ (nth ss 0).result = 0 := by
  simp only [Bool.or_eq_false_iff, Bool.not_eq_false', decide_eq_false_iff_not, decide_eq_true_eq] at hq
  have hgn := (hg (by rw [hq.1.1.1.1]; simp; omega)).n
  exact ⟨typesB_iff.1 hq.1.1.1.1, by omega, by omega, by omega, hq.2⟩
 have hlen := hq3.1.1
 refine ⟨fun i w => v = w ∧ 0 ≤ i ∧ i ≤ ss.length ∧ ∀ j : Int, 0 ≤ j → j < i → sigP ds (nth ss j).params (nth ss j).result ∧ lentOk (nth ss j).params (nth ss j).lent, fun i _ => (ss.length - i).toNat, ⟨rfl, by omega, by omega, fun j j0 j1 => by omega⟩, ?_⟩
 rintro i _ ⟨rfl, i0, i1, h⟩
 dsimp only
 refine ⟨fun hi => ?_, fun hi => ?_⟩
 ·simp only [bls] at hi
  have hil : i < ss.length := by omega
  obtain ⟨f1, f2, e1, e2, e3, j1, r1, r2⟩ := (hy.src (.refl v)).ofSigD i0 hil
  have hfn := r1.n
  have hfn2 := r2.n
  have hfl2 := r2.le
  refine go_ix hy i0 hil ?_
  refine ⟨f1, f2, _, ⟨e1, e2, e3⟩, ?_⟩
  refine ⟨_, fun _ => c_implAllTypes hxn r1, _, fun _ => c_isType hxn, fun hq => ⟨?_, .refl v⟩, fun hq => ?_⟩
  ·refine bad fun h => ?_
   obtain ⟨⟨s1, s2, s3⟩, _⟩ := h.2.2.2.2.2 i i0 hil
   rw [s2, s3] at hq
   simp at hq
   omega
  ·have hs : sigP ds (nth ss i).params (nth ss i).result := by
    simp only [Bool.or_eq_false_iff, Bool.not_eq_false'] at hq
    exact ⟨by have := of_decide_eq_false hq.1.1; omega, hq.1.2, hq.2⟩
   refine ⟨fun k w => v = w ∧ 0 ≤ k ∧ k ≤ (nth ss i).lent.length ∧ ∀ j : Int, 0 ≤ j → j < k → lent1 (nth ss i).params (nth ss i).lent j, fun k _ => ((nth ss i).lent.length - k).toNat, ⟨rfl, by omega, by omega, fun j j0 j1 => by omega⟩, ?_⟩
   rintro k _ ⟨rfl, k0, k1, hk⟩
   dsimp only
   refine ⟨fun hi => ?_, fun hi => ?_⟩
   ·simp only [bls] at hi
    have hkl : k < (nth ss i).lent.length := by omega
    refine go_ix r2 k0 hkl ?_
    refine ld_int r2 k0 hkl ?_
    intro c0 c1
    have hr2 : (decide (nth (nth ss i).lent k < 0) || decide (nth (nth ss i).lent k ≥ (f1.n : Int))) = false → 0 ≤ nth (nth ss i).lent k ∧ nth (nth ss i).lent k < (nth ss i).params.length := fun h => by
     simp only [Bool.or_eq_false_iff, decide_eq_false_iff_not] at h; omega
    refine go_ixg r1 hr2 ?_
    refine ld_intg r1 hr2 ?_
    refine ⟨k - 1, fun _ _ => inK_i64 (by omega) (by omega), fun h1 _ => r2.ix (by have := of_decide_eq_true h1; omega) (by omega), nth (nth ss i).lent (k - 1), fun h1 _ => (r2.int (by have := of_decide_eq_true h1; omega) (by omega)).1, fun hq => ⟨?_, .refl v⟩, fun hq => ?_⟩
    ·refine bad fun h => ?_
     obtain ⟨d1, d2, d3, d4⟩ := (h.2.2.2.2.2 i i0 hil).2 k k0 hkl
     simp only [bls] at hq
     rcases hq with ((hq | hq) | hq) | hq
     ·omega
     ·omega
     ·exact d3 hq
     ·have := d4 hq.1
      omega
    ·have hd : lent1 (nth ss i).params (nth ss i).lent k := by
      simp only [Bool.or_eq_false_iff] at hq
      obtain ⟨d1, d2⟩ := hr2 (by rw [hq.1.1.1, hq.1.1.2]; rfl)
      refine ⟨d1, d2, of_decide_eq_false hq.1.2, fun hp => ?_⟩
      have h2 := hq.2
      rw [decide_eq_true (show k > 0 from hp), Bool.true_and] at h2
      have := of_decide_eq_false h2
      omega
     refine go_wr (by omega) (by omega) ?_
     refine ⟨rfl, rfl, rfl, ⟨rfl, by omega, by omega, fun j j0 j1 => ?_⟩, by omega⟩
     by_cases e : j = k
     ·rw [e]; exact hd
     ·exact hk j j0 (by omega)
   ·simp only [bls] at hi
    refine go_wr (by omega) (by omega) ?_
    refine ⟨⟨rfl, by omega, by omega, fun j j0 j1 => ?_⟩, by omega⟩
    by_cases e : j = i
    ·rw [e]; exact ⟨hs, fun m m0 m1 => hk m m0 (by omega)⟩
    ·exact h j j0 (by omega)
 ·simp only [bls] at hi
  exact ⟨by rw [pB_t ⟨hq3.1, hq3.2.1, hq3.2.2.1, hq3.2.2.2.1, hq3.2.2.2.2, fun j j0 j1 => h j j0 (by omega)⟩], .refl v⟩
end
end Go.Vc
