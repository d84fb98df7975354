/- Part of the proofs about the heaps and memories: a law is joined in the text whose name ends in W and the law. -/
import Derived.Test.YtlcegaeioheikaaEK4
namespace Go.Vc
open Go Go.Proofs Go.RowKit
set_option linter.all false

/-- the number of a type -/
def typeB (n : Nat) (t : Int) : Bool := decide (0 ≤ t) && decide (t ≤ n)
def laterB (a b t : Int) : Bool := decide (a ≤ t) && decide (t ≤ b)
/-- how many constructors come before a declaration's -/
def firstC (ds : List DeclD) (n : Nat) : Nat := ((ds.take n).map fun d => d.cons.length).sum
section
variable {u v w : World} {x y xf s t : Sl} {l ws fs ps ls : List Int} {ds : List DeclD} {b m n k f a e i : Int}

theorem all_take {p : Int → Bool} (h0 : 0 ≤ i) (h1 : i < l.length) (h : ∀ t ∈ l.take i.toNat, p t = true) (hp : p (nth l i) = true) : ∀ t ∈ l.take (i + 1).toNat, p t = true := by
 rw [take_nth h0 h1]
 intro t ht
 rcases List.mem_append.1 ht with ht | ht
 ·exact h t ht
 ·rw [List.mem_singleton.1 ht]; exact hp
theorem c_allTypes (hx : x.n = ds.length) (hl : ds.length ≤ 1099511627776) (hy : Read v y l) : Fn Try.prog 25 #[x.val, y.val] v (.bool (l.all (typeB ds.length))) := by
 refine of25 _ _ _ _ ?_
 unfold vc25
 have hn := hy.n
 have hyl := hy.le
 refine ⟨fun i w => w = v ∧ 0 ≤ i ∧ i ≤ l.length ∧ ∀ t ∈ l.take i.toNat, typeB ds.length t = true, fun i _ => (l.length - i).toNat, ⟨rfl, by omega, by omega, fun t ht => by simp at ht⟩, ?_⟩
 rintro i _ ⟨rfl, i0, i1, h⟩
 dsimp only
 refine ⟨fun hi => ?_, fun hi => ?_⟩
 ·simp only [bls] at hi
  refine go_ix hy i0 (by omega) ?_
  refine ld_int hy i0 (by omega) ?_
  intro c0 c1
  rw [hx]
  refine ⟨_, c_inRange, fun hq => ⟨?_, .refl _⟩, fun hq => ?_⟩
  ·have hm := nth_mem (l := l) i0 (by omega)
   have : l.all (typeB ds.length) = false := by
    refine Bool.eq_false_iff.2 fun h2 => ?_
    have := List.all_eq_true.1 h2 _ hm
    unfold typeB at this
    rw [this] at hq; cases hq
   rw [this]
  ·have hp : typeB ds.length (nth l i) = true := by unfold typeB; simpa using hq
   refine go_wr (by omega) (by omega) ?_
   exact ⟨⟨rfl, by omega, by omega, all_take i0 (by omega) h hp⟩, by omega⟩
 ·simp only [bls] at hi
  rw [take_all (by omega)] at h
  exact ⟨by rw [List.all_eq_true.2 h], .refl _⟩
theorem firstC_succ (h0 : 0 ≤ i) (h1 : i < ds.length) : firstC ds (i + 1).toNat = firstC ds i.toNat + (nth ds i).cons.length := by
 unfold firstC
 rw [take_nth h0 h1, List.map_append, List.sum_append]
 simp
theorem c_firstCon (hx : Read v x ds) (hd : ds.length ≤ 1000000) (hc : ∀ d ∈ ds, d.cons.length ≤ 1000000) (h0 : 0 ≤ n) (h1 : n ≤ ds.length) : Fn Try.prog 74 #[x.val, .int .i64 n] v (.int .i64 (firstC ds n.toNat)) := by
 refine of74 _ _ _ _ ?_
 unfold vc74
 refine ⟨fun c i w => w = v ∧ 0 ≤ i ∧ i ≤ n ∧ c = firstC ds i.toNat ∧ c ≤ 1000000 * i, fun _ i _ => (n - i).toNat, ⟨rfl, by omega, by omega, by simp [firstC], by omega⟩, ?_⟩
 rintro c i _ ⟨rfl, i0, i1, hs, hb⟩
 dsimp only
 refine ⟨fun hi => ?_, fun hi => ?_⟩
 ·simp only [bls] at hi
  have e1 := firstC_succ (ds := ds) i0 (by omega)
  have e2 := hc _ (nth_mem (l := ds) i0 (by omega))
  refine go_ix hx i0 (by omega) ?_
  refine ld_decl_cons (hx.src (.refl _)) i0 (by omega) ?_
  intro f hf
  have hfn := hf.n
  refine go_wr (by omega) (by omega) ?_
  refine go_wr (by omega) (by omega) ?_
  exact ⟨⟨rfl, by omega, by omega, by omega, by omega⟩, by omega⟩
 ·simp only [bls] at hi
  rw [show i = n from by omega] at hs
  exact ⟨by rw [hs], .refl _⟩
end
end Go.Vc

namespace Go.Vc
open Go Go.Proofs Go.RowKit
set_option linter.all false

def conOk (N : Nat) (c : ConD) : Prop := c.fields.length ≤ 3 ∧ c.fields.all (typeB N) = true
/-- a declaration is valid -/
def declOk (ds : List DeclD) (i : Int) : Prop :=
 if 0 < (nth ds i).cons.length then (nth ds i).cons.length ≤ 3 ∧ (nth ds i).frm = 0 ∧ (nth ds i).to_ = 0 ∧ ∀ c ∈ (nth ds i).cons, conOk ds.length c
 else (∀ j : Int, 0 ≤ j → j < i → ¬ ((nth ds j).cons.length = 0 ∧ (nth ds j).frm = (nth ds i).frm ∧ (nth ds j).to_ = (nth ds i).to_)) ∧ typeB ds.length (nth ds i).frm = true ∧ typeB ds.length (nth ds i).to_ = true
noncomputable def declB (ds : List DeclD) (i : Int) : Bool := @decide (declOk ds i) (Classical.propDecidable _)
def typesOk (ds : List DeclD) : Prop := ds.length ≤ 4 ∧ ∀ i : Int, 0 ≤ i → i < ds.length → declOk ds i
noncomputable def typesB (ds : List DeclD) : Bool := @decide (typesOk ds) (Classical.propDecidable _)
section
variable {u v w : World} {x y xf s t : Sl} {l ws fs ps ls : List Int} {ds : List DeclD} {b m n k f a e i : Int}
theorem declB_t (h : declOk ds i) : declB ds i = true := by unfold declB; exact @decide_eq_true _ (Classical.propDecidable _) h
theorem declB_f (h : ¬ declOk ds i) : declB ds i = false := by unfold declB; exact @decide_eq_false _ (Classical.propDecidable _) h
theorem typesB_t (h : typesOk ds) : typesB ds = true := by unfold typesB; exact @decide_eq_true _ (Classical.propDecidable _) h
theorem typesB_f (h : ¬ typesOk ds) : typesB ds = false := by unfold typesB; exact @decide_eq_false _ (Classical.propDecidable _) h

theorem c_validDecl (hx : Read v x ds) (h0 : 0 ≤ n) (h1 : n < ds.length) : Fn Try.prog 73 #[x.val, .int .i64 n] v (.bool (declB ds n)) := by
 refine of73 _ _ _ _ ?_
 unfold vc73
 have hxn := hx.n
 have hxl := hx.le
 have hsr := hx.src (.refl v)
 refine go_ix hx h0 h1 ?_
 obtain ⟨f_cons, e_frm, e_to, e_cons, i_frm, i_to, r_cons⟩ := hsr.ofDeclD h0 h1
 have hcn := r_cons.n
 have hcl := r_cons.le
 refine ⟨_, _, f_cons, ⟨e_frm, e_to, e_cons⟩, fun hc => ⟨fun hq => ⟨?_, .refl v⟩, fun hq => ?_⟩, fun hc => ?_⟩
 ·simp only [bls] at hc
  rw [declB_f]
  intro hd
  unfold declOk at hd
  rw [if_pos (by omega)] at hd
  rw [decide_eq_false (by omega), decide_eq_true hd.2.1, decide_eq_true hd.2.2.1] at hq
  cases hq
 ·simp only [bls] at hc
  have hq3 : (nth ds n).cons.length ≤ 3 ∧ (nth ds n).frm = 0 ∧ (nth ds n).to_ = 0 := by
   simp at hq; omega
  refine ⟨fun i w => w = v ∧ 0 ≤ i ∧ i ≤ (nth ds n).cons.length ∧ ∀ c ∈ (nth ds n).cons.take i.toNat, conOk ds.length c, fun i _ => ((nth ds n).cons.length - i).toNat, ⟨rfl, by omega, by omega, fun c hc => by simp at hc⟩, ?_⟩
  rintro i _ ⟨rfl, i0, i1, h⟩
  dsimp only
  have no : ∀ {c}, c ∈ (nth ds n).cons → ¬ conOk ds.length c → declB ds n = false := fun hm hno => declB_f fun hd => by
   unfold declOk at hd
   rw [if_pos (by omega)] at hd
   exact hno (hd.2.2.2 _ hm)
  refine ⟨fun hi => ?_, fun hi => ?_⟩
  ·simp only [bls] at hi
   have hil : i < (nth ds n).cons.length := by omega
   have hm := nth_mem (l := (nth ds n).cons) i0 hil
   refine go_ix r_cons i0 hil ?_
   refine ld_con_fields (r_cons.src (.refl _)) i0 hil ?_
   intro f hf
   have hfn := hf.n
   refine go_ixg r_cons (fun _ => ⟨i0, hil⟩) ?_
   refine ldg_con_fields (r_cons.src (.refl _)) (fun _ => ⟨i0, hil⟩) ?_
   intro g hg
   refine ⟨_, fun hc => c_allTypes hxn hxl (hg hc), fun hq => ⟨?_, .refl _⟩, fun hq => ?_⟩
   ·rw [no hm fun hk => ?_]
    rw [decide_eq_false (by have := hk.1; omega), hk.2] at hq
    cases hq
   ·have hk : conOk ds.length (nth (nth ds n).cons i) := by
     simp only [Bool.or_eq_false_iff, Bool.not_eq_false'] at hq
     exact ⟨by have := of_decide_eq_false hq.1; omega, hq.2⟩
    refine go_wr (by omega) (by omega) ?_
    refine ⟨rfl, rfl, rfl, ⟨rfl, by omega, by omega, ?_⟩, by omega⟩
    rw [take_nth i0 hil]
    intro c hc
    rcases List.mem_append.1 hc with hc | hc
    ·exact h c hc
    ·rw [List.mem_singleton.1 hc]; exact hk
  ·simp only [bls] at hi
   rw [take_all (by omega)] at h
   refine ⟨?_, .refl _⟩
   rw [declB_t]
   unfold declOk
   rw [if_pos (by omega)]
   exact ⟨hq3.1, hq3.2.1, hq3.2.2, h⟩
 ·simp only [bls] at hc
  have hz : ¬ 0 < (nth ds n).cons.length := by omega
  refine ⟨fun i w => w = v ∧ 0 ≤ i ∧ i ≤ n ∧ ∀ j : Int, 0 ≤ j → j < i → ¬ ((nth ds j).cons.length = 0 ∧ (nth ds j).frm = (nth ds n).frm ∧ (nth ds j).to_ = (nth ds n).to_), fun i _ => (n - i).toNat, ⟨rfl, by omega, by omega, fun j j0 j1 => by omega⟩, ?_⟩
  rintro i _ ⟨rfl, i0, i1, h⟩
  dsimp only
  refine ⟨fun hi => ?_, fun hi => ?_⟩
  ·simp only [bls] at hi
   have hil : i < ds.length := by omega
   refine go_ix hx i0 hil ?_
   refine ld_decl_cons hsr i0 hil ?_
   intro f hf
   have hfn := hf.n
   refine go_ixg hx (fun _ => ⟨i0, hil⟩) ?_
   refine ldg_decl_frm hsr (fun _ => ⟨i0, hil⟩) ?_
   refine go_ixg hx (fun _ => ⟨i0, hil⟩) ?_
   refine ldg_decl_to_ hsr (fun _ => ⟨i0, hil⟩) ?_
   refine ⟨fun hq => ⟨?_, .refl _⟩, fun hq => ?_⟩
   ·simp only [Bool.and_eq_true, decide_eq_true_eq] at hq
    rw [declB_f]
    intro hd
    unfold declOk at hd
    rw [if_neg hz] at hd
    exact hd.1 i i0 (by omega) ⟨by omega, hq.1.2, hq.2⟩
   ·refine go_wr (by omega) (by omega) ?_
    refine ⟨rfl, rfl, rfl, ⟨rfl, by omega, by omega, fun j j0 j1 hj => ?_⟩, by omega⟩
    by_cases e : j = i
    ·subst e
     rw [decide_eq_true (show (f.n : Int) = 0 by omega), decide_eq_true hj.2.1, decide_eq_true hj.2.2] at hq
     cases hq
    ·exact h j j0 (by omega) hj
  ·simp only [bls] at hi
   have hin : i = n := by omega
   subst hin
   rw [hxn]
   refine ⟨_, c_inRange, _, fun _ => c_inRange, ?_, .refl _⟩
   congr 1
   have key : declB ds i = (typeB ds.length (nth ds i).frm && typeB ds.length (nth ds i).to_) := by
    cases ht : (typeB ds.length (nth ds i).frm && typeB ds.length (nth ds i).to_) with
    | true =>
     rw [Bool.and_eq_true] at ht
     refine declB_t ?_
     unfold declOk
     rw [if_neg hz]
     exact ⟨h, ht.1, ht.2⟩
    | false =>
     refine declB_f fun hd => ?_
     unfold declOk at hd
     rw [if_neg hz] at hd
     rw [hd.2.1, hd.2.2] at ht
     cases ht
   rw [key]; rfl
theorem c_specValidTypes (hx : Read v x ds) : Fn Try.prog 45 #[x.val] v (.bool (typesB ds)) := by
 refine of45 _ _ _ ?_
 unfold vc45
 have hxn := hx.n
 refine ⟨fun hc => ⟨?_, .refl v⟩, fun hc => ?_⟩
 ·simp only [bls] at hc
  rw [typesB_f fun hd => by have := hd.1; omega]
 simp only [bls] at hc
 refine ⟨fun i w => w = v ∧ 0 ≤ i ∧ i ≤ ds.length ∧ ∀ j : Int, 0 ≤ j → j < i → declOk ds j, fun i _ => (ds.length - i).toNat, ⟨rfl, by omega, by omega, fun j j0 j1 => by omega⟩, ?_⟩
 rintro i _ ⟨rfl, i0, i1, h⟩
 dsimp only
 refine ⟨fun hi => ?_, fun hi => ?_⟩
 ·simp only [bls] at hi
  refine ⟨_, c_validDecl hx i0 (by omega), fun hq => ⟨?_, .refl _⟩, fun hq => ?_⟩
  ·rw [typesB_f fun hd => by rw [declB_t (hd.2 i i0 (by omega))] at hq; cases hq]
  ·have hd : declOk ds i := Classical.byContradiction fun hn => by rw [declB_f hn] at hq; cases hq
   refine go_wr (by omega) (by omega) ?_
   refine ⟨⟨rfl, by omega, by omega, fun j j0 j1 => ?_⟩, by omega⟩
   by_cases e : j = i
   ·rw [e]; exact hd
   ·exact h j j0 (by omega)
 ·simp only [bls] at hi
  exact ⟨by rw [typesB_t ⟨by omega, fun j j0 j1 => h j j0 (by omega)⟩], .refl _⟩
theorem c_isType (hx : x.n = ds.length) : Fn Try.prog 40 #[x.val, .int .i64 n] v (.bool (typeB ds.length n)) := by
 refine of40 _ _ _ _ ?_
 unfold vc40
 rw [hx]
 exact ⟨rfl, .refl v⟩
theorem c_implAllTypes (hx : x.n = ds.length) (hy : Read v y l) : Fn Try.prog 19 #[x.val, y.val] v (.bool (l.all (typeB ds.length))) := by
 refine of19 _ _ _ _ ?_
 unfold vc19
 have hn := hy.n
 have hyl := hy.le
 refine ⟨fun i w => w = v ∧ 0 ≤ i ∧ i ≤ l.length ∧ ∀ t ∈ l.take i.toNat, typeB ds.length t = true, fun i _ => (l.length - i).toNat, ⟨rfl, by omega, by omega, fun t ht => by simp at ht⟩, ?_⟩
 rintro i _ ⟨rfl, i0, i1, h⟩
 dsimp only
 refine ⟨fun hi => ?_, fun hi => ?_⟩
 ·simp only [bls] at hi
  refine go_ix hy i0 (by omega) ?_
  refine ld_int hy i0 (by omega) ?_
  intro c0 c1
  refine ⟨_, c_isType hx, fun hq => ⟨?_, .refl _⟩, fun hq => ?_⟩
  ·have hm := nth_mem (l := l) i0 (by omega)
   have : l.all (typeB ds.length) = false := by
    refine Bool.eq_false_iff.2 fun h2 => ?_
    rw [List.all_eq_true.1 h2 _ hm] at hq; cases hq
   rw [this]
  ·have hp : typeB ds.length (nth l i) = true := by simpa using hq
   refine go_wr (by omega) (by omega) ?_
   exact ⟨⟨rfl, by omega, by omega, all_take i0 (by omega) h hp⟩, by omega⟩
 ·simp only [bls] at hi
  rw [take_all (by omega)] at h
  exact ⟨by rw [List.all_eq_true.2 h], .refl _⟩
end
end Go.Vc

namespace Go.Vc
open Go Go.Proofs Go.RowKit
set_option linter.all false
section
variable {u v w : World} {x y xf s t : Sl} {l ws fs ps ls : List Int} {ds : List DeclD} {b m n k f a e i : Int}

theorem nth_takeD {α : Type} [Inhabited α] {l : List α} {n : Nat} {j : Int} (h0 : 0 ≤ j) (h1 : j < n) : nth (l.take n) j = nth l j := by
 unfold nth List.getD
 rw [List.getElem?_take, if_pos (by omega)]
theorem typeB_zero (n : Nat) : typeB n 0 = true := by unfold typeB; simp
/-- what every valid declaration has -/
theorem declOk_easy (h : declOk ds i) : typeB ds.length (nth ds i).frm = true ∧ typeB ds.length (nth ds i).to_ = true ∧ (nth ds i).cons.length ≤ 3 ∧ (0 < (nth ds i).cons.length → (nth ds i).frm = 0 ∧ (nth ds i).to_ = 0) ∧ (∀ c ∈ (nth ds i).cons, conOk ds.length c) ∧
  (∀ j : Int, 0 ≤ j → j < i → ¬ ((nth ds i).cons.length = 0 ∧ (nth ds j).cons.length = 0 ∧ (nth ds j).frm = (nth ds i).frm ∧ (nth ds j).to_ = (nth ds i).to_)) := by
 unfold declOk at h
 split at h
 ·rename_i hp
  refine ⟨by rw [h.2.1]; exact typeB_zero _, by rw [h.2.2.1]; exact typeB_zero _, h.1, fun _ => ⟨h.2.1, h.2.2.1⟩, h.2.2.2, fun j _ _ hj => by omega⟩
 ·rename_i hp
  have hz : (nth ds i).cons = [] := List.eq_nil_of_length_eq_zero (by omega)
  exact ⟨h.2.1, h.2.2, by rw [hz]; simp, fun hp2 => absurd hp2 hp, fun c hc => (by rw [hz] at hc; cases hc), fun j j0 j1 hj => h.1 j j0 j1 hj.2⟩
theorem declOk_of (h1 : typeB ds.length (nth ds i).frm = true) (h2 : typeB ds.length (nth ds i).to_ = true) (h3 : (nth ds i).cons.length ≤ 3) (h4 : 0 < (nth ds i).cons.length → (nth ds i).frm = 0 ∧ (nth ds i).to_ = 0) (h5 : ∀ c ∈ (nth ds i).cons, conOk ds.length c)
  (h6 : ∀ j : Int, 0 ≤ j → j < i → ¬ ((nth ds i).cons.length = 0 ∧ (nth ds j).cons.length = 0 ∧ (nth ds j).frm = (nth ds i).frm ∧ (nth ds j).to_ = (nth ds i).to_)) : declOk ds i := by
 unfold declOk
 split
 ·rename_i hp
  exact ⟨h3, (h4 hp).1, (h4 hp).2, h5⟩
 ·rename_i hp
  exact ⟨fun j j0 j1 hj => h6 j j0 j1 ⟨by omega, hj⟩, h1, h2⟩

theorem c_implValidTypes (hx : Read v x ds) : Fn Try.prog 66 #[x.val] v (.bool (typesB ds)) := by
 refine of66 _ _ _ ?_
 unfold vc66
 have hxn := hx.n
 have hsr := hx.src (.refl v)
 refine ⟨fun hc => ⟨?_, .refl v⟩, fun hc => ?_⟩
 ·simp only [bls] at hc
  rw [typesB_f fun hd => by have := hd.1; omega]
 simp only [bls] at hc
 refine ⟨fun i w => v = w ∧ 0 ≤ i ∧ i ≤ ds.length ∧ ∀ j : Int, 0 ≤ j → j < i → declOk ds j, fun i _ => (ds.length - i).toNat, ⟨rfl, by omega, by omega, fun j j0 j1 => by omega⟩, ?_⟩
 rintro i _ ⟨rfl, i0, i1, h⟩
 dsimp only
 refine ⟨fun hi => ?_, fun hi => ?_⟩
 ·simp only [bls] at hi
  have hil : i < ds.length := by omega
  have bad : ¬ declOk ds i → typesB ds = false := fun hn => typesB_f fun hd => hn (hd.2 i i0 hil)
  obtain ⟨f_cons, e_frm, e_to, e_cons, i_frm, i_to, r_cons⟩ := hsr.ofDeclD i0 hil
  have hcn := r_cons.n
  refine go_ix hx i0 hil ?_
  refine ⟨_, _, f_cons, ⟨e_frm, e_to, e_cons⟩, _, c_isType hxn, _, fun _ => c_isType hxn, fun hq => ⟨?_, .refl _⟩, fun hq => ?_⟩
  ·rw [bad fun hd => ?_]
   obtain ⟨d1, d2, d3, d4, d5, d6⟩ := declOk_easy hd
   rw [d1, d2, decide_eq_false (by omega)] at hq
   by_cases hp : 0 < (nth ds i).cons.length
   ·rw [decide_eq_true (d4 hp).1, decide_eq_true (d4 hp).2] at hq
    simp at hq
   ·rw [decide_eq_false (show ¬ (f_cons.n : Int) > 0 by omega)] at hq
    simp at hq
  ·have hq4 : typeB ds.length (nth ds i).frm = true ∧ typeB ds.length (nth ds i).to_ = true ∧ (nth ds i).cons.length ≤ 3 ∧ (0 < (nth ds i).cons.length → (nth ds i).frm = 0 ∧ (nth ds i).to_ = 0) := by
    simp only [Bool.or_eq_false_iff, Bool.not_eq_false'] at hq
    refine ⟨hq.1.1.1, hq.1.1.2, by have := of_decide_eq_false hq.1.2; omega, fun hp => ?_⟩
    have h2 := hq.2
    rw [decide_eq_true (show (f_cons.n : Int) > 0 by omega), Bool.true_and, Bool.or_eq_false_iff] at h2
    simp at h2
    exact h2
   refine ⟨fun k w => v = w ∧ 0 ≤ k ∧ k ≤ (nth ds i).cons.length ∧ ∀ c ∈ (nth ds i).cons.take k.toNat, conOk ds.length c, fun k _ => ((nth ds i).cons.length - k).toNat, ⟨rfl, by omega, by omega, fun c hc => by simp at hc⟩, ?_⟩
   rintro k _ ⟨rfl, k0, k1, hk⟩
   dsimp only
   refine ⟨fun hi => ?_, fun hi => ?_⟩
   ·simp only [bls] at hi
    have hkl : k < (nth ds i).cons.length := by omega
    have hm := nth_mem (l := (nth ds i).cons) k0 hkl
    refine go_ix r_cons k0 hkl ?_
    refine ld_con_fields (r_cons.src (.refl _)) k0 hkl ?_
    intro g hg
    have hgn := hg.n
    refine ⟨_, fun _ => c_implAllTypes hxn hg, fun hq => ⟨?_, .refl _⟩, fun hq => ?_⟩
    ·rw [bad fun hd => ?_]
     have hc := (declOk_easy hd).2.2.2.2.1 _ hm
     rw [decide_eq_false (by have := hc.1; omega), hc.2] at hq
     cases hq
    ·have hc : conOk ds.length (nth (nth ds i).cons k) := by
      simp only [Bool.or_eq_false_iff, Bool.not_eq_false'] at hq
      exact ⟨by have := of_decide_eq_false hq.1; omega, hq.2⟩
     refine go_wr (by omega) (by omega) ?_
     refine ⟨rfl, rfl, rfl, ⟨rfl, by omega, by omega, ?_⟩, by omega⟩
     rw [take_nth k0 hkl]
     intro c hc2
     rcases List.mem_append.1 hc2 with hc2 | hc2
     ·exact hk c hc2
     ·rw [List.mem_singleton.1 hc2]; exact hc
   ·simp only [bls] at hi
    rw [take_all (by omega)] at hk
    have hcut := hx.cut (lo := 0) (hi := i) (by omega) (by omega) (by omega)
    simp only [show ((0 : Int)).toNat = 0 from rfl, List.drop_zero] at hcut
    have hcutn := hcut.n
    rw [List.length_take] at hcutn
    have hcs : Dat.sz DeclD = 3 := rfl
    rw [hcs] at hcut hcutn
    refine ⟨⟨by omega, by omega, by obtain ⟨_, hr, _⟩ := hx; have := hr.2.1; omega⟩, ?_⟩
    refine ⟨fun p w => v = w ∧ 0 ≤ p ∧ p ≤ i ∧ ∀ j : Int, 0 ≤ j → j < p → ¬ ((nth ds i).cons.length = 0 ∧ (nth ds j).cons.length = 0 ∧ (nth ds j).frm = (nth ds i).frm ∧ (nth ds j).to_ = (nth ds i).to_), fun p _ => (i - p).toNat, ⟨rfl, by omega, by omega, fun j j0 j1 => by omega⟩, ?_⟩
    rintro p _ ⟨rfl, p0, p1, hp⟩
    dsimp only
    refine ⟨fun hi => ?_, fun hi => ?_⟩
    ·simp only [bls] at hi
     have hpl : p < (ds.take i.toNat).length := by rw [List.length_take]; omega
     obtain ⟨g_cons, d_frm, d_to, d_cons, _, _, s_cons⟩ := (hcut.src (.refl _)).ofDeclD p0 hpl
     have hgn := s_cons.n
     rw [nth_takeD p0 (by omega)] at d_frm d_to hgn
     refine go_ix hcut p0 hpl ?_
     refine ⟨_, _, g_cons, ⟨d_frm, d_to, d_cons⟩, fun hq => ⟨?_, .refl _⟩, fun hq => ?_⟩
     ·simp only [Bool.and_eq_true, decide_eq_true_eq] at hq
      rw [bad fun hd => ?_]
      exact (declOk_easy hd).2.2.2.2.2 p p0 (by omega) ⟨by omega, by omega, hq.1.2, hq.2⟩
     ·refine go_wr (by omega) (by omega) ?_
      refine ⟨rfl, rfl, rfl, ⟨rfl, by omega, by omega, fun j j0 j1 hj => ?_⟩, by omega⟩
      by_cases e : j = p
      ·subst e
       rw [decide_eq_true (show (f_cons.n : Int) = 0 by omega), decide_eq_true (show (g_cons.n : Int) = 0 by omega), decide_eq_true hj.2.2.1, decide_eq_true hj.2.2.2] at hq
       cases hq
      ·exact hp j j0 (by omega) hj
    ·simp only [bls] at hi
     have hd : declOk ds i := declOk_of hq4.1 hq4.2.1 hq4.2.2.1 hq4.2.2.2 hk fun j j0 j1 => hp j j0 (by omega)
     refine go_wr (by omega) (by omega) ?_
     refine ⟨⟨rfl, by omega, by omega, fun j j0 j1 => ?_⟩, by omega⟩
     by_cases e : j = i
     ·rw [e]; exact hd
     ·exact h j j0 (by omega)
 ·simp only [bls] at hi
  exact ⟨by rw [typesB_t ⟨by omega, fun j j0 j1 => h j j0 (by omega)⟩], .refl _⟩
end
end Go.Vc

namespace Go.Vc
open Go Go.Proofs Go.RowKit
set_option linter.all false

def lent1 (ps ls : List Int) (i : Int) : Prop := 0 ≤ nth ls i ∧ nth ls i < ps.length ∧ nth ps (nth ls i) ≠ 0 ∧ (0 < i → nth ls (i - 1) < nth ls i)
def lentOk (ps ls : List Int) : Prop := ∀ i : Int, 0 ≤ i → i < ls.length → lent1 ps ls i
section
variable {u v w : World} {x y xf s t : Sl} {l ws fs ps ls : List Int} {ds : List DeclD} {b m n k f a e i : Int}
/-- how many constructors there are -/
theorem c_conCount (hx : Read v x ds) (hd : ds.length ≤ 1000000) (hc : ∀ d ∈ ds, d.cons.length ≤ 1000000) : Fn Try.prog 68 #[x.val] v (.int .i64 (firstC ds ds.length)) := by
 refine of68 _ _ _ ?_
 unfold vc68
 have hxn := hx.n
 have hsr := hx.src (.refl v)
 refine ⟨fun c i w => v = w ∧ 0 ≤ i ∧ i ≤ ds.length ∧ c = firstC ds i.toNat ∧ c ≤ 1000000 * i, fun _ i _ => (ds.length - i).toNat, ⟨rfl, by omega, by omega, by simp [firstC], by omega⟩, ?_⟩
 rintro c i _ ⟨rfl, i0, i1, hs, hb⟩
 dsimp only
 refine ⟨fun hi => ?_, fun hi => ?_⟩
 ·simp only [bls] at hi
  have hil : i < ds.length := by omega
  have e1 := firstC_succ (ds := ds) i0 hil
  have e2 := hc _ (nth_mem (l := ds) i0 hil)
  obtain ⟨f_cons, e_frm, e_to, e_cons, i_frm, i_to, r_cons⟩ := hsr.ofDeclD i0 hil
  have hfn := r_cons.n
  refine go_ix hx i0 hil ?_
  refine ⟨_, _, f_cons, ⟨e_frm, e_to, e_cons⟩, ?_⟩
  refine go_wr (by omega) (by omega) ?_
  refine go_wr (by omega) (by omega) ?_
  exact ⟨⟨rfl, by omega, by omega, by omega, by omega⟩, by omega⟩
 ·simp only [bls] at hi
  rw [show i.toNat = ds.length from by omega] at hs
  exact ⟨by rw [hs], .refl _⟩

/-- whose constructor it is: the type's number, or -1 -/
def conTyOk (ds : List DeclD) (c : Int) (i : Int) : Prop := (firstC ds i.toNat : Int) ≤ c ∧ c ≤ firstC ds i.toNat + (nth ds i).cons.length - 1
theorem c_conType (hx : Read v x ds) (hd : ds.length ≤ 1000000) (hc : ∀ d ∈ ds, d.cons.length ≤ 1000000) (hb : ∀ i : Int, 0 ≤ i → i ≤ ds.length → (firstC ds i.toNat : Int) ≤ 1000000 * 1000000) :
  ∃ r : Int, Fn Try.prog 49 #[x.val, .int .i64 n] v (.int .i64 r) ∧ ((r = -1 ∧ ∀ i : Int, 0 ≤ i → i < ds.length → ¬ conTyOk ds n i) ∨ (1 ≤ r ∧ r ≤ ds.length ∧ conTyOk ds n (r - 1) ∧ ∀ i : Int, 0 ≤ i → i < r - 1 → ¬ conTyOk ds n i)) := by
 classical
 have hxn := hx.n
 have key : ∀ (r : Int), ((r = -1 ∧ ∀ i : Int, 0 ≤ i → i < ds.length → ¬ conTyOk ds n i) ∨ (1 ≤ r ∧ r ≤ ds.length ∧ conTyOk ds n (r - 1) ∧ ∀ i : Int, 0 ≤ i → i < r - 1 → ¬ conTyOk ds n i)) → Fn Try.prog 49 #[x.val, .int .i64 n] v (.int .i64 r) := by
  intro r hr
  refine of49 _ _ _ _ ?_
  unfold vc49
  refine ⟨fun i w => v = w ∧ 0 ≤ i ∧ i ≤ ds.length ∧ ∀ j : Int, 0 ≤ j → j < i → ¬ conTyOk ds n j, fun i _ => (ds.length - i).toNat, ⟨rfl, by omega, by omega, fun j j0 j1 => by omega⟩, ?_⟩
  rintro i _ ⟨rfl, i0, i1, h⟩
  dsimp only
  refine ⟨fun hi => ?_, fun hi => ?_⟩
  ·simp only [bls] at hi
   have hil : i < ds.length := by omega
   have hbi := hb i i0 (by omega)
   have e2 := hc _ (nth_mem (l := ds) i0 hil)
   refine ⟨_, c_firstCon hx hd hc i0 (by omega), ?_⟩
   refine go_ix hx i0 hil ?_
   refine ld_decl_cons (hx.src (.refl _)) i0 hil ?_
   intro f hf
   have hfn := hf.n
   refine go_wr (by omega) (by omega) ?_
   refine go_wr (by omega) (by omega) ?_
   refine ⟨_, c_inRange, fun hq => ?_, fun hq => ?_⟩
   ·simp only [Bool.and_eq_true, decide_eq_true_eq] at hq
    have hk : conTyOk ds n i := ⟨hq.1, by rw [← hfn]; exact hq.2⟩
    refine go_wr (by omega) (by omega) ?_
    refine ⟨?_, .refl _⟩
    congr 1
    rcases hr with ⟨_, hr⟩ | ⟨r1, r2, r3, r4⟩
    ·exact absurd hk (hr i i0 hil)
    ·rcases Int.lt_trichotomy i (r - 1) with h1 | h1 | h1
     ·exact absurd hk (r4 i i0 h1)
     ·omega
     ·exact absurd r3 (h (r - 1) (by omega) h1)
   ·have hk : ¬ conTyOk ds n i := fun hk => by
     rw [decide_eq_true hk.1, decide_eq_true (show n ≤ (firstC ds i.toNat : Int) + f.n - 1 by have := hk.2; omega)] at hq
     cases hq
    refine go_wr (by omega) (by omega) ?_
    refine ⟨⟨rfl, by omega, by omega, fun j j0 j1 => ?_⟩, by omega⟩
    by_cases e : j = i
    ·rw [e]; exact hk
    ·exact h j j0 (by omega)
  ·simp only [bls] at hi
   refine ⟨?_, .refl _⟩
   congr 1
   rcases hr with ⟨hr, _⟩ | ⟨r1, r2, r3, r4⟩
   ·exact hr.symm
   ·exact absurd r3 (h (r - 1) (by omega) (by omega))
 by_cases hex : ∃ i : Nat, (i : Int) < ds.length ∧ conTyOk ds n i
 ·have h1 := leastM_spec hex
  have h2 := fun k hk => leastM_le (p := fun i : Nat => (i : Int) < ds.length ∧ conTyOk ds n i) (k := k) hk
  generalize leastM (fun i : Nat => (i : Int) < ds.length ∧ conTyOk ds n i) = j at h1 h2
  have hr : ((((j : Int) + 1) = -1 ∧ ∀ i : Int, 0 ≤ i → i < ds.length → ¬ conTyOk ds n i) ∨ (1 ≤ ((j : Int) + 1) ∧ ((j : Int) + 1) ≤ ds.length ∧ conTyOk ds n (((j : Int) + 1) - 1) ∧ ∀ i : Int, 0 ≤ i → i < ((j : Int) + 1) - 1 → ¬ conTyOk ds n i)) := by
   right
   refine ⟨by omega, by omega, by rw [show (j : Int) + 1 - 1 = j from by omega]; exact h1.2, fun i i0 i1 hk => ?_⟩
   have := h2 i.toNat ⟨by omega, by rw [show ((i.toNat : Nat) : Int) = i from by omega]; exact hk⟩
   omega
  exact ⟨_, key _ hr, hr⟩
 ·have hr : (((-1 : Int) = -1 ∧ ∀ i : Int, 0 ≤ i → i < ds.length → ¬ conTyOk ds n i) ∨ (1 ≤ (-1 : Int) ∧ (-1 : Int) ≤ ds.length ∧ conTyOk ds n ((-1 : Int) - 1) ∧ ∀ i : Int, 0 ≤ i → i < (-1 : Int) - 1 → ¬ conTyOk ds n i)) := by
   left
   exact ⟨rfl, fun i i0 i1 hk => hex ⟨i.toNat, by omega, by rw [show ((i.toNat : Nat) : Int) = i from by omega]; exact hk⟩⟩
  exact ⟨_, key _ hr, hr⟩
end
end Go.Vc

namespace Go.Vc
open Go Go.Proofs Go.RowKit
set_option linter.all false

abbrev SmI (n : Int) : Prop := -1000000 ≤ n ∧ n ≤ 1000000
section
variable {u v w : World} {x y xf s t : Sl} {l ws fs ns : List Int} {b m n k f a e i : Int} {I J K L R : Items}
end
end Go.Vc

namespace Go.Vc
open Go Go.Proofs Go.RowKit
set_option linter.all false

def SmL (ns : List Int) : Prop := ns.length ≤ 100000 ∧ ∀ n ∈ ns, SmI n
def SmInstr (c : InstrD) : Prop := SmI c.op ∧ SmI c.dst ∧ SmI c.num ∧ SmI c.into ∧ SmL c.args ∧ SmL c.jumps
def SmDecl (d : DeclD) : Prop := SmI d.frm ∧ SmI d.to_ ∧ d.cons.length ≤ 1000 ∧ ∀ c ∈ d.cons, SmL c.fields
def SmProc (p : ProcD) : Prop := SmL p.params ∧ SmL p.lent ∧ SmI p.result ∧ SmI p.regs ∧ p.code.length ≤ 10000 ∧ ∀ c ∈ p.code, SmInstr c
section
variable {u v w : World} {x y xf s t : Sl} {l ws fs ns : List Int} {b m n k f a e i : Int} {I J K L R : Items}
end
end Go.Vc

namespace Go.Vc
open Go Go.Proofs Go.RowKit
set_option linter.all false
section
variable {u v w : World} {x y xf s t : Sl} {l ws fs ns : List Int} {b m n k f a e i : Int} {I J K L R : Items}
end
end Go.Vc

namespace Go.Vc
open Go Go.Proofs Go.RowKit
set_option linter.all false
section
variable {u v w : World} {x y xf s t : Sl} {l ws fs ns : List Int} {b m n k f e i : Int} {a : Addr} {I J K L R : Items}
end
end Go.Vc
