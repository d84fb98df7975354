/- Part of the proofs about the heaps and memories: a law is joined in the text whose name ends in W and the law. -/
import Derived.Test.YtlcegaeioheikaaEK6
namespace Go.Vc
open Go Go.Proofs Go.RowKit
set_option linter.all false
section
variable {u v w : World} {x y z xf s t cx px pl : Sl} {l ws fs ls : List Int} {ds : List DeclD} {ss : List SigD} {ps : List ProcD} {gs : List FuncD} {b m n k f a e i op num regs at_ end_ n1 : Int} {c : InstrD} {p : ProcD} {code : List InstrD} {jl : Nat} {q : Bool}
end
end Go.Vc

namespace Go.Vc
open Go Go.Proofs Go.RowKit
set_option linter.all false
/-- data whose size is bounded can be read with the common bound -/
class Shr (α : Type) [Dat α] [Cost α] : Prop where
 shr : ∀ {B : Nat} {w : World} {cs : List Value} {a : α}, Dat.cells B w cs a → Cost.cost a ≤ 1099511627776 → Dat.cells BB w cs a
theorem cost_mem {α : Type} [Cost α] {l : List α} {a : α} (h : a ∈ l) : Cost.cost a ≤ (l.map Cost.cost).sum := by
 induction l with
 | nil => cases h
 | cons b r ih =>
  rw [List.map_cons, List.sum_cons]
  rcases List.mem_cons.1 h with rfl | h
  ·omega
  ·have := ih h; omega
theorem ReadB.shr {α : Type} [Dat α] [Cost α] [Shr α] {B : Nat} {v : World} {x : Sl} {l : List α} (hx : ReadB B v x l) (h : costL l ≤ 1099511627776) : Read v x l := by
 obtain ⟨rows, h1, h2, h3⟩ := hx
 unfold costL at h
 exact ⟨rows, h1, ⟨h2.1, fun i r a hr ha => Shr.shr (h2.2 i r a hr ha) (by have := cost_mem (List.mem_of_getElem? ha); omega)⟩, by show l.length ≤ 1099511627776; omega⟩
instance : Shr ConD := ⟨fun ⟨f, h0, r⟩ hc => ⟨f, h0, r.toInts hc⟩⟩
instance : Shr DeclD := ⟨fun ⟨f, h0, i1, i2, r⟩ hc => ⟨f, h0, i1, i2, r.shr hc⟩⟩
instance : Shr InstrD := ⟨fun {B w cs a} ⟨f, g, h0, i1, i2, i3, i4, r1, r2⟩ hc => ⟨f, g, h0, i1, i2, i3, i4, r1.toInts (by have : a.args.length + a.jumps.length ≤ 1099511627776 := hc; show _ ≤ 1099511627776; omega), r2.toInts (by have : a.args.length + a.jumps.length ≤ 1099511627776 := hc; show _ ≤ 1099511627776; omega)⟩⟩
instance : Shr ProcD := ⟨fun {B w cs a} ⟨f, g, k, h0, i1, i2, r1, r2, r3⟩ hc => by
 have hc : a.params.length + a.lent.length + costL a.code ≤ 1099511627776 := hc
 exact ⟨f, g, k, h0, i1, i2, r1.toInts (by show _ ≤ 1099511627776; omega), r2.toInts (by show _ ≤ 1099511627776; omega), r3.shr (by omega)⟩⟩

section
variable {u v w : World} {x y z xf s t cx px pl xd xp : Sl} {l ws fs ls : List Int} {ds : List DeclD} {ss : List SigD} {ps : List ProcD} {gs : List FuncD} {b m n k f e i op num regs at_ end_ n1 : Int} {c : InstrD} {p : ProcD} {code : List InstrD} {jl : Nat} {q : Bool} {a : Addr} {I J K L R : Items}
/-! ### a valid image has small numbers -/
theorem lent_len {ps : List Int} (h : lentOk ps ls) : ls.length ≤ ps.length := by
 have key : ∀ n : Nat, n < ls.length → (n : Int) ≤ nth ls n := by
  intro n
  induction n with
  | zero => intro hn; exact (h 0 (by omega) (by omega)).1
  | succ n ih =>
   intro hn
   have h1 := ih (by omega)
   have h2 := (h ((n + 1 : Nat) : Int) (by omega) (by omega)).2.2.2 (by omega)
   rw [show ((n + 1 : Nat) : Int) - 1 = n from by omega] at h2
   omega
 rcases Nat.eq_zero_or_pos ls.length with h0 | h0
 ·omega
 ·have h1 := key (ls.length - 1) (by omega)
  have h2 := (h ((ls.length - 1 : Nat) : Int) (by omega) (by omega)).2.1
  omega
theorem lent_sm {ps : List Int} (h : lentOk ps ls) (hp : ps.length ≤ 3) : SmL ls := by
 have h1 := lent_len h
 refine ⟨by omega, fun n hn => ?_⟩
 obtain ⟨i, hi, rfl⟩ := List.mem_iff_getElem.1 hn
 obtain ⟨h2, h3, _⟩ := h i (by omega) (by omega)
 rw [nth_of (i := i) (l := ls) (a := ls[i]) (by simp [hi])] at h2 h3
 exact ⟨by omega, by omega⟩
theorem types_sm {N : Nat} (hN : N ≤ 4) (hl : l.length ≤ 3) (h : l.all (typeB N) = true) : SmL l := by
 refine ⟨by omega, fun n hn => ?_⟩
 have := List.all_eq_true.1 h n hn
 unfold typeB at this
 simp only [Bool.and_eq_true, decide_eq_true_eq] at this
 exact ⟨by omega, by omega⟩
theorem type_sm {N : Nat} (hN : N ≤ 4) (h : typeB N n = true) : SmI n := by
 unfold typeB at h
 simp only [Bool.and_eq_true, decide_eq_true_eq] at h
 exact ⟨by omega, by omega⟩
theorem declOk.sm (hN : ds.length ≤ 4) (h : declOk ds i) : SmDecl (nth ds i) := by
 obtain ⟨h1, h2, h3, h4, h5, h6⟩ := declOk_easy h
 exact ⟨type_sm hN h1, type_sm hN h2, by omega, fun c hc => types_sm hN (h5 c hc).1 (h5 c hc).2⟩
theorem typesOk.smd (h : typesOk ds) : ∀ d ∈ ds, SmDecl d := by
 intro d hd
 obtain ⟨i, hi, rfl⟩ := List.mem_iff_getElem.1 hd
 have := (h.2 i (by omega) (by omega)).sm h.1
 rwa [nth_of (i := i) (l := ds) (a := ds[i]) (by simp [hi])] at this
theorem conF_sm (h : typesOk ds) : (conF ds n).length ≤ 3 := by
 unfold conF
 split
 ·simp
 ·rename_i hp
  rcases conI_cases ds n with ⟨h1, _⟩ | ⟨h1, h2, ⟨q1, q2⟩, h4⟩
  ·omega
  ·exact ((declOk_easy (h.2 _ h1 h2)).2.2.2.2.1 _ (nth_mem (by omega) (by omega))).1
theorem consL_sm (h : typesOk ds) : (consL ds n).length ≤ 3 ∧ (0 < (consL ds n).length → 1 ≤ n ∧ n ≤ ds.length) := by
 unfold consL
 split
 ·rename_i hp
  have := (declOk_easy (h.2 (n - 1) (by omega) (by omega))).2.2.1
  simp only [List.length_map, List.length_range]
  exact ⟨this, fun _ => hp⟩
 ·simp
theorem instr_sm (h1 : sigSigs ds ss) (hr : regs ≤ 2000) (h0 : 0 ≤ at_) (he : end_ ≤ 2000) (h : instrOk ds ss regs end_ at_ c) : SmInstr c := by
 obtain ⟨k1, k2, k3, k4, k5, k6, k7, k8, k9, k10, k11⟩ := h
 obtain ⟨g1, g2, g3, g4, g5, g6⟩ := h1
 have hlen := g1.1
 have hj : c.jumps.length ≤ 3 := by
  rcases k7 with k7 | k7
  ·have := ((numV_switch k7).1 k9).2
   have := (consL_sm (n := c.num) g1).1
   omega
  ·omega
 have hsig : ∀ i : Int, 0 ≤ i → i < ss.length → (nth ss i).params.length ≤ 3 := fun i i0 i1 => (g6 i i0 i1).1.1
 have hfc := g1.sm.fc ds.length (Nat.le_refl _)
 have hcf := conF_sm (n := c.num) g1
 have hcl := consL_sm (n := c.num) g1
 have hn : SmI c.num ∧ argHi ds ss c.op c.num ≤ 10 := by
  have k1' := k1
  unfold opOk at k1'
  have hop' : c.op = 0 ∨ (c.op = 1 ∨ c.op = 2 ∨ c.op = 3 ∨ c.op = 4 ∨ c.op = 11) ∨ (c.op = 5 ∨ c.op = 14 ∨ c.op = 15 ∨ c.op = 18 ∨ c.op = 23) ∨ c.op = 6 ∨ (c.op = 9 ∨ c.op = 24) ∨ c.op = 10 ∨ (c.op = 16 ∨ c.op = 17) ∨ c.op = 19 ∨ c.op = 20 ∨ c.op = 22 ∨ c.op = 21 := by omega
  rcases hop' with hop | hop | hop | hop | hop | hop | hop | hop | hop | hop | hop
  ·have hk := (arg_0 (ds := ds) (ss := ss) (num := c.num) (.inl hop)).2
   have hv := (numV_int hop).1 k9
   exact ⟨⟨by omega, by omega⟩, by omega⟩
  ·have hk := (arg_2 (ds := ds) (ss := ss) (num := c.num) hop).2
   have hv := (numV_zero (op := c.op) (by omega)).1 k9
   exact ⟨⟨by omega, by omega⟩, by omega⟩
  ·have hk := (arg_1 (ds := ds) (ss := ss) (op := c.op) (num := c.num) (by omega)).2
   have hv := (numV_zero (op := c.op) (by omega)).1 k9
   exact ⟨⟨by omega, by omega⟩, by omega⟩
  ·have hk := (arg_6 (ds := ds) (ss := ss) (num := c.num) hop).2
   have hv := (numV_con hop).1 k9
   exact ⟨⟨by omega, by omega⟩, by omega⟩
  ·have hk := (arg_9 (ds := ds) (ss := ss) (num := c.num) hop).2
   have hv := (numV_call hop).1 k9
   have := hsig _ hv.1 hv.2
   exact ⟨⟨by omega, by omega⟩, by omega⟩
  ·have hk := (arg_10 (ds := ds) (ss := ss) (num := c.num) hop).2
   have hv := (numV_close hop).1 k9
   have := hsig _ hv.1 hv.2.1
   exact ⟨⟨by omega, by omega⟩, by omega⟩
  ·have hk := (arg_16 (ds := ds) (ss := ss) (num := c.num) hop).2
   have hv := (numV_zero (op := c.op) (by omega)).1 k9
   exact ⟨⟨by omega, by omega⟩, by omega⟩
  ·have hk := (arg_1 (ds := ds) (ss := ss) (op := c.op) (num := c.num) (by omega)).2
   have hv := (numV_load hop).1 k9
   exact ⟨⟨by omega, by omega⟩, by omega⟩
  ·have hk := (arg_1 (ds := ds) (ss := ss) (op := c.op) (num := c.num) (by omega)).2
   have hv := (numV_jump (.inl hop)).1 k9
   exact ⟨⟨by omega, by omega⟩, by omega⟩
  ·have hk := (arg_0 (ds := ds) (ss := ss) (num := c.num) (.inr hop)).2
   have hv := (numV_jump (.inr hop)).1 k9
   exact ⟨⟨by omega, by omega⟩, by omega⟩
  ·have hk := (arg_1 (ds := ds) (ss := ss) (op := c.op) (num := c.num) (by omega)).2
   have hv := (numV_switch hop).1 k9
   have := hcl.2 hv.1
   exact ⟨⟨by omega, by omega⟩, by omega⟩
 unfold opOk at k1
 have sm : ∀ {a b : Int} {l : List Int}, 0 ≤ a → b ≤ 2000 → l.length ≤ 10 → l.all (laterB a b) = true → SmL l := by
  intro a b l ha hb hl h
  refine ⟨by omega, fun n hn => ?_⟩
  have := List.all_eq_true.1 h n hn
  unfold laterB at this
  simp only [Bool.and_eq_true, decide_eq_true_eq] at this
  exact ⟨by omega, by omega⟩
 exact ⟨⟨by omega, by omega⟩, ⟨by omega, by omega⟩, hn.1, ⟨by omega, by omega⟩, sm (by omega) (by omega) (by omega) k2, sm (by omega) (by omega) (by omega) k8⟩
theorem imOk.sm (h : imOk ds ps) : (∀ d ∈ ds, SmDecl d) ∧ (∀ p ∈ ps, SmProc p) ∧ ds.length ≤ 4 ∧ ps.length ≤ 4 := by
 obtain ⟨h1, h2⟩ := h
 have hl := h1.2.2.1
 rw [List.length_map] at hl
 refine ⟨h1.1.smd, fun p hp => ?_, h1.1.1, hl⟩
 obtain ⟨i, hi, rfl⟩ := List.mem_iff_getElem.1 hp
 have e := nth_of (i := i) (l := ps) (a := ps[i]) (by simp [hi])
 obtain ⟨s1, s2⟩ := h1.2.2.2.2.2 i (by omega) (by rw [List.length_map]; omega)
 obtain ⟨c1, c2, c3, c4, c5, c6, c7⟩ := h2 i (by omega) (by omega)
 rw [nth_sig, e] at s1 s2
 rw [e] at c1 c2 c3 c4 c5 c6 c7
 unfold sigOf at s1 s2
 refine ⟨types_sm h1.1.1 s1.1 s1.2.1, lent_sm s2 s1.1, type_sm h1.1.1 s1.2.2, ⟨by omega, by omega⟩, by omega, fun c hc => ?_⟩
 obtain ⟨j, hj, rfl⟩ := List.mem_iff_getElem.1 hc
 have h3 := c7 j (by omega) (by omega)
 rw [nth_of (i := j) (l := ps[i].code) (a := ps[i].code[j]) (by simp [hj])] at h3
 refine instr_sm h1 c3 (Int.natCast_nonneg j) (by omega) (?_ : instrOk ds (ps.map sigOf) ps[i].regs ps[i].code.length j ps[i].code[j])
 unfold instrB at h3
 exact @of_decide_eq_true _ (Classical.propDecidable _) h3
/-! ### writing it -/
end
end Go.Vc

namespace Go.Vc
open Go Go.Proofs Go.RowKit
set_option linter.all false
section
variable {u v w : World} {x y z t s : Sl} {ds es : List DeclD} {ps qs : List ProcD} {b : Int} {a : Addr} {I J K L R : Items}
/-! ### images as data -/
end
end Go.Vc

namespace Go.Vc
open Go Go.Proofs Go.RowKit
set_option linter.all false
/-- a datum whose numbers are all told apart -/
class Mark (α : Type) where
 room : α → Nat
 mark : Int → α → α
def rooms {α : Type} [Mark α] (l : List α) : Nat := (l.map Mark.room).sum
def markL {α : Type} [Mark α] : Int → List α → List α
 | _, [] => []
 | n, a :: r => Mark.mark n a :: markL (n + Mark.room a) r
section
variable {α : Type} [Mark α]
end

instance : Mark ConD := ⟨fun c => c.fields.length, fun n c => ⟨marks (n) c.fields.length⟩⟩
section
variable {u v w : World} {x y : Sl} {l m : List ConD} {n b i : Int} {I J L R : Items}
end

instance : Mark DeclD := ⟨fun c => 1 + 1 + rooms c.cons, fun n c => ⟨n, n + 1, markL (n + 1 + 1) c.cons⟩⟩
section
variable {u v w : World} {x y : Sl} {l m : List DeclD} {n b i : Int} {I J L R : Items}
end

instance : Mark InstrD := ⟨fun c => 1 + 1 + 1 + 1 + c.args.length + c.jumps.length, fun n c => ⟨n, n + 1, n + 1 + 1, n + 1 + 1 + 1, marks (n + 1 + 1 + 1 + 1) c.args.length, marks (n + 1 + 1 + 1 + 1 + c.args.length) c.jumps.length⟩⟩
section
variable {u v w : World} {x y : Sl} {l m : List InstrD} {n b i : Int} {I J L R : Items}
end

instance : Mark ProcD := ⟨fun c => c.params.length + c.lent.length + 1 + 1 + rooms c.code, fun n c => ⟨marks (n) c.params.length, marks (n + c.params.length) c.lent.length, n + c.params.length + c.lent.length, n + c.params.length + c.lent.length + 1, markL (n + c.params.length + c.lent.length + 1 + 1) c.code⟩⟩
section
variable {u v w : World} {x y : Sl} {l m : List ProcD} {n b i : Int} {I J L R : Items}
end

end Go.Vc

namespace Go.Vc
open Go Go.Proofs Go.RowKit
set_option linter.all false
/-- integers of one's own -/
def OwnI (x : Sl) (l : List Int) (J : Items) : Prop := ∀ u, Own u x l J
/-- an image as a datum -/
structure ImD where
 decls : List DeclD
 procs : List ProcD
section
variable {α : Type} [Mark α] [Cost α]
end
section
variable {u v w : World} {x y z t s : Sl} {l ws : List Int} {m m' : ImD} {b n : Int} {a : Addr} {I J K L R : Items} {F : Items → Items}
theorem Own.toI (h : Own u x l I) : OwnI x l I := h.toAll
theorem OwnI.read (h : OwnI x l I) (hS : St u w L) [p : Pos I L R F] : Read w x l := Own.read (h u) hS
theorem OwnI.read1 (h : OwnI x l I) (hS : St u w I) : Read w x l := Own.read1 (h u) hS
/-! ### the law of EncodeImage -/
end
end Go.Vc
