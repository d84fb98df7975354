/- Part of the proofs about the heaps and memories: a law is joined in the text whose name ends in W and the law. -/
import Derived.Test.YtelgbndeeccblaaGreatDoorEK4
namespace Go.Vc
open Go Go.Proofs Go.RowKit
set_option linter.all false

/-- the number of a type -/
def typeB (n : Nat) (t : Int) : Bool := decide (0 ≤ t) && decide (t ≤ n)
def laterB (a b t : Int) : Bool := decide (a ≤ t) && decide (t ≤ b)
/-- how many constructors come before a declaration's -/
def firstC (ds : List DeclD) (n : Nat) : Nat := ((ds.take n).map fun d => d.cons.length).sum
section
variable {u v w : World} {x y xf s t : Sl} {l ws fs ps ls : List Int} {ds : List DeclD} {b m n k f a e i : Int}

theorem firstC_succ (h0 : 0 ≤ i) (h1 : i < ds.length) : firstC ds (i + 1).toNat = firstC ds i.toNat + (nth ds i).cons.length := by
 unfold firstC
 rw [take_nth h0 h1, List.map_append, List.sum_append]
 simp
theorem c_firstCon (hx : Read v x ds) (hd : ds.length ≤ 1000000) (hc : ∀ d ∈ ds, d.cons.length ≤ 1000000) (h0 : 0 ≤ n) (h1 : n ≤ ds.length) : Fn Tryz.prog 178 #[x.val, .int .i64 n] v (.int .i64 (firstC ds n.toNat)) := by
 refine of178 _ _ _ _ ?_
 unfold vc178
 refine ⟨fun c i w => w = v ∧ 0 ≤ i ∧ i ≤ n ∧ c = firstC ds i.toNat ∧ c ≤ 1000000 * i, fun _ i _ => (n - i).toNat, ⟨rfl, by omega, by omega, by simp [firstC], by omega⟩, ?_⟩
 rintro c i _ ⟨rfl, i0, i1, hs, hb⟩
 dsimp only
 refine ⟨fun hi => ?_, fun hi => ?_⟩
 ·simp only [bls] at hi
  have e1 := firstC_succ (ds := ds) i0 (by omega)
  have e2 := hc _ (nth_mem (l := ds) i0 (by omega))
  refine go_ix hx i0 (by omega) ?_
  refine ld_decl_cons (hx.src (.refl _)) i0 (by omega) ?_
  intro f hf
  have hfn := hf.n
  refine go_wr (by omega) (by omega) ?_
  refine go_wr (by omega) (by omega) ?_
  exact ⟨⟨rfl, by omega, by omega, by omega, by omega⟩, by omega⟩
 ·simp only [bls] at hi
  rw [show i = n from by omega] at hs
  exact ⟨by rw [hs], .refl _⟩
end
end Go.Vc

namespace Go.Vc
open Go Go.Proofs Go.RowKit
set_option linter.all false

def conOk (N : Nat) (c : ConD) : Prop := c.fields.length ≤ 3 ∧ c.fields.all (typeB N) = true
/-- a declaration is valid -/
def declOk (ds : List DeclD) (i : Int) : Prop :=
 if 0 < (nth ds i).cons.length then (nth ds i).cons.length ≤ 3 ∧ (nth ds i).frm = 0 ∧ (nth ds i).to_ = 0 ∧ ∀ c ∈ (nth ds i).cons, conOk ds.length c
 else (∀ j : Int, 0 ≤ j → j < i → ¬ ((nth ds j).cons.length = 0 ∧ (nth ds j).frm = (nth ds i).frm ∧ (nth ds j).to_ = (nth ds i).to_)) ∧ typeB ds.length (nth ds i).frm = true ∧ typeB ds.length (nth ds i).to_ = true
def typesOk (ds : List DeclD) : Prop := ds.length ≤ 4 ∧ ∀ i : Int, 0 ≤ i → i < ds.length → declOk ds i
section
variable {u v w : World} {x y xf s t : Sl} {l ws fs ps ls : List Int} {ds : List DeclD} {b m n k f a e i : Int}
end
end Go.Vc

namespace Go.Vc
open Go Go.Proofs Go.RowKit
set_option linter.all false
section
variable {u v w : World} {x y xf s t : Sl} {l ws fs ps ls : List Int} {ds : List DeclD} {b m n k f a e i : Int}

theorem typeB_zero (n : Nat) : typeB n 0 = true := by unfold typeB; simp
/-- what every valid declaration has -/
theorem declOk_easy (h : declOk ds i) : typeB ds.length (nth ds i).frm = true ∧ typeB ds.length (nth ds i).to_ = true ∧ (nth ds i).cons.length ≤ 3 ∧ (0 < (nth ds i).cons.length → (nth ds i).frm = 0 ∧ (nth ds i).to_ = 0) ∧ (∀ c ∈ (nth ds i).cons, conOk ds.length c) ∧
  (∀ j : Int, 0 ≤ j → j < i → ¬ ((nth ds i).cons.length = 0 ∧ (nth ds j).cons.length = 0 ∧ (nth ds j).frm = (nth ds i).frm ∧ (nth ds j).to_ = (nth ds i).to_)) := by
 unfold declOk at h
 split at h
 ·rename_i hp
  refine ⟨by rw [h.2.1]; exact typeB_zero _, by rw [h.2.2.1]; exact typeB_zero _, h.1, fun _ => ⟨h.2.1, h.2.2.1⟩, h.2.2.2, fun j _ _ hj => by omega⟩
 ·rename_i hp
  have hz : (nth ds i).cons = [] := List.eq_nil_of_length_eq_zero (by omega)
  exact ⟨h.2.1, h.2.2, by rw [hz]; simp, fun hp2 => absurd hp2 hp, fun c hc => (by rw [hz] at hc; cases hc), fun j j0 j1 hj => h.1 j j0 j1 hj.2⟩
end
end Go.Vc

namespace Go.Vc
open Go Go.Proofs Go.RowKit
set_option linter.all false

def lent1 (ps ls : List Int) (i : Int) : Prop := 0 ≤ nth ls i ∧ nth ls i < ps.length ∧ nth ps (nth ls i) ≠ 0 ∧ (0 < i → nth ls (i - 1) < nth ls i)
def lentOk (ps ls : List Int) : Prop := ∀ i : Int, 0 ≤ i → i < ls.length → lent1 ps ls i
section
variable {u v w : World} {x y xf s t : Sl} {l ws fs ps ls : List Int} {ds : List DeclD} {b m n k f a e i : Int}
/-- whose constructor it is: the type's number, or -1 -/
def conTyOk (ds : List DeclD) (c : Int) (i : Int) : Prop := (firstC ds i.toNat : Int) ≤ c ∧ c ≤ firstC ds i.toNat + (nth ds i).cons.length - 1
theorem c_conType (hx : Read v x ds) (hd : ds.length ≤ 1000000) (hc : ∀ d ∈ ds, d.cons.length ≤ 1000000) (hb : ∀ i : Int, 0 ≤ i → i ≤ ds.length → (firstC ds i.toNat : Int) ≤ 1000000 * 1000000) :
  ∃ r : Int, Fn Tryz.prog 133 #[x.val, .int .i64 n] v (.int .i64 r) ∧ ((r = -1 ∧ ∀ i : Int, 0 ≤ i → i < ds.length → ¬ conTyOk ds n i) ∨ (1 ≤ r ∧ r ≤ ds.length ∧ conTyOk ds n (r - 1) ∧ ∀ i : Int, 0 ≤ i → i < r - 1 → ¬ conTyOk ds n i)) := by
 classical
 have hxn := hx.n
 have key : ∀ (r : Int), ((r = -1 ∧ ∀ i : Int, 0 ≤ i → i < ds.length → ¬ conTyOk ds n i) ∨ (1 ≤ r ∧ r ≤ ds.length ∧ conTyOk ds n (r - 1) ∧ ∀ i : Int, 0 ≤ i → i < r - 1 → ¬ conTyOk ds n i)) → Fn Tryz.prog 133 #[x.val, .int .i64 n] v (.int .i64 r) := by
  intro r hr
  refine of133 _ _ _ _ ?_
  unfold vc133
  refine ⟨fun i w => v = w ∧ 0 ≤ i ∧ i ≤ ds.length ∧ ∀ j : Int, 0 ≤ j → j < i → ¬ conTyOk ds n j, fun i _ => (ds.length - i).toNat, ⟨rfl, by omega, by omega, fun j j0 j1 => by omega⟩, ?_⟩
  rintro i _ ⟨rfl, i0, i1, h⟩
  dsimp only
  refine ⟨fun hi => ?_, fun hi => ?_⟩
  ·simp only [bls] at hi
   have hil : i < ds.length := by omega
   have hbi := hb i i0 (by omega)
   have e2 := hc _ (nth_mem (l := ds) i0 hil)
   refine ⟨_, c_firstCon hx hd hc i0 (by omega), ?_⟩
   refine go_ix hx i0 hil ?_
   refine ld_decl_cons (hx.src (.refl _)) i0 hil ?_
   intro f hf
   have hfn := hf.n
   refine go_wr (by omega) (by omega) ?_
   refine go_wr (by omega) (by omega) ?_
   refine ⟨_, c_inRange, fun hq => ?_, fun hq => ?_⟩
   ·simp only [Bool.and_eq_true, decide_eq_true_eq] at hq
    have hk : conTyOk ds n i := ⟨hq.1, by rw [← hfn]; exact hq.2⟩
    refine go_wr (by omega) (by omega) ?_
    refine ⟨?_, .refl _⟩
    congr 1
    rcases hr with ⟨_, hr⟩ | ⟨r1, r2, r3, r4⟩
    ·exact absurd hk (hr i i0 hil)
    ·rcases Int.lt_trichotomy i (r - 1) with h1 | h1 | h1
     ·exact absurd hk (r4 i i0 h1)
     ·omega
     ·exact absurd r3 (h (r - 1) (by omega) h1)
   ·have hk : ¬ conTyOk ds n i := fun hk => by
     rw [decide_eq_true hk.1, decide_eq_true (show n ≤ (firstC ds i.toNat : Int) + f.n - 1 by have := hk.2; omega)] at hq
     cases hq
    refine go_wr (by omega) (by omega) ?_
    refine ⟨⟨rfl, by omega, by omega, fun j j0 j1 => ?_⟩, by omega⟩
    by_cases e : j = i
    ·rw [e]; exact hk
    ·exact h j j0 (by omega)
  ·simp only [bls] at hi
   refine ⟨?_, .refl _⟩
   congr 1
   rcases hr with ⟨hr, _⟩ | ⟨r1, r2, r3, r4⟩
   ·exact hr.symm
   ·exact absurd r3 (h (r - 1) (by omega) (by omega))
 by_cases hex : ∃ i : Nat, (i : Int) < ds.length ∧ conTyOk ds n i
 ·have h1 := leastM_spec hex
  have h2 := fun k hk => leastM_le (p := fun i : Nat => (i : Int) < ds.length ∧ conTyOk ds n i) (k := k) hk
  generalize leastM (fun i : Nat => (i : Int) < ds.length ∧ conTyOk ds n i) = j at h1 h2
  have hr : ((((j : Int) + 1) = -1 ∧ ∀ i : Int, 0 ≤ i → i < ds.length → ¬ conTyOk ds n i) ∨ (1 ≤ ((j : Int) + 1) ∧ ((j : Int) + 1) ≤ ds.length ∧ conTyOk ds n (((j : Int) + 1) - 1) ∧ ∀ i : Int, 0 ≤ i → i < ((j : Int) + 1) - 1 → ¬ conTyOk ds n i)) := by
   right
   refine ⟨by omega, by omega, by rw [show (j : Int) + 1 - 1 = j from by omega]; exact h1.2, fun i i0 i1 hk => ?_⟩
   have := h2 i.toNat ⟨by omega, by rw [show ((i.toNat : Nat) : Int) = i from by omega]; exact hk⟩
   omega
  exact ⟨_, key _ hr, hr⟩
 ·have hr : (((-1 : Int) = -1 ∧ ∀ i : Int, 0 ≤ i → i < ds.length → ¬ conTyOk ds n i) ∨ (1 ≤ (-1 : Int) ∧ (-1 : Int) ≤ ds.length ∧ conTyOk ds n ((-1 : Int) - 1) ∧ ∀ i : Int, 0 ≤ i → i < (-1 : Int) - 1 → ¬ conTyOk ds n i)) := by
   left
   exact ⟨rfl, fun i i0 i1 hk => hex ⟨i.toNat, by omega, by rw [show ((i.toNat : Nat) : Int) = i from by omega]; exact hk⟩⟩
  exact ⟨_, key _ hr, hr⟩
end
end Go.Vc

namespace Go.Vc
open Go Go.Proofs Go.RowKit
set_option linter.all false

abbrev SmI (n : Int) : Prop := -1000000 ≤ n ∧ n ≤ 1000000
section
variable {u v w : World} {x y xf s t : Sl} {l ws fs ns : List Int} {b m n k f a e i : Int} {I J K L R : Items}
end
end Go.Vc

namespace Go.Vc
open Go Go.Proofs Go.RowKit
set_option linter.all false

def SmL (ns : List Int) : Prop := ns.length ≤ 100000 ∧ ∀ n ∈ ns, SmI n
def SmInstr (c : InstrD) : Prop := SmI c.op ∧ SmI c.dst ∧ SmI c.num ∧ SmI c.into ∧ SmL c.args ∧ SmL c.jumps
def SmDecl (d : DeclD) : Prop := SmI d.frm ∧ SmI d.to_ ∧ d.cons.length ≤ 1000 ∧ ∀ c ∈ d.cons, SmL c.fields
def SmProc (p : ProcD) : Prop := SmL p.params ∧ SmL p.lent ∧ SmI p.result ∧ SmI p.regs ∧ p.code.length ≤ 10000 ∧ ∀ c ∈ p.code, SmInstr c
section
variable {u v w : World} {x y xf s t : Sl} {l ws fs ns : List Int} {b m n k f a e i : Int} {I J K L R : Items}
end
end Go.Vc

namespace Go.Vc
open Go Go.Proofs Go.RowKit
set_option linter.all false
section
variable {u v w : World} {x y xf s t : Sl} {l ws fs ns : List Int} {b m n k f a e i : Int} {I J K L R : Items}
end
end Go.Vc

namespace Go.Vc
open Go Go.Proofs Go.RowKit
set_option linter.all false
section
variable {u v w : World} {x y xf s t : Sl} {l ws fs ns : List Int} {b m n k f e i : Int} {a : Addr} {I J K L R : Items}
end
end Go.Vc
