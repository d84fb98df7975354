/- Part of the proofs about the heaps and memories: a law is joined in the text whose name ends in W and the law. -/
import Derived.Test.YtlcegaeioheikaaEP1
import Derived.Test.YtlcegaeioheikaaEV1
import Derived.Test.YtlcegaeioheikaaET0
namespace Go.Vc
open Go Go.Proofs Go.RowKit
set_option linter.all false
/-- the declarations and the signatures that the generator makes -/
def dLi : DeclD := ⟨0, 0, [⟨[]⟩, ⟨[0, 1]⟩]⟩
def dAr : DeclD := ⟨0, 0, []⟩
def dTr : DeclD := ⟨0, 0, [⟨[]⟩, ⟨[3, 0, 3]⟩]⟩
def lastG : List DeclD := [⟨0, 0, [⟨[1, 3]⟩]⟩, ⟨1, 0, []⟩, ⟨0, 0, [⟨[1, 1, 0]⟩, ⟨[0]⟩, ⟨[3]⟩]⟩, ⟨0, 1, []⟩]
def GD (ds : List DeclD) : Prop := ds = [dLi, dAr, dTr] ∨ ∃ d ∈ lastG, ds = [dLi, dAr, dTr, d]
def sigsG : List (List Int × Int) := [([], 0), ([1], 0), ([1, 1], 1), ([1], 1), ([1, 0], 1), ([2, 1], 1), ([1, 1], 0), ([3], 0), ([0], 1), ([0, 1], 1), ([3, 0], 3), ([3], 1), ([1, 3, 0], 0), ([0], 0), ([0, 0], 0), ([1, 0], 0)]
def GF (fs : List FunD) : Prop := 1 ≤ fs.length ∧ fs.length ≤ 4 ∧ ∀ f ∈ fs, (f.params, f.result) ∈ sigsG
theorem GD.cases {ds : List DeclD} (h : GD ds) : ds = [dLi, dAr, dTr] ∨ ds = [dLi, dAr, dTr, ⟨0, 0, [⟨[1, 3]⟩]⟩] ∨ ds = [dLi, dAr, dTr, ⟨1, 0, []⟩] ∨ ds = [dLi, dAr, dTr, ⟨0, 0, [⟨[1, 1, 0]⟩, ⟨[0]⟩, ⟨[3]⟩]⟩] ∨ ds = [dLi, dAr, dTr, ⟨0, 1, []⟩] := by
  rcases h with h | ⟨d, hd, h⟩
  · exact .inl h
  · simp only [lastG, List.mem_cons, List.not_mem_nil, or_false] at hd
    rcases hd with rfl | rfl | rfl | rfl
    · exact .inr (.inl h)
    · exact .inr (.inr (.inl h))
    · exact .inr (.inr (.inr (.inl h)))
    · exact .inr (.inr (.inr (.inr h)))
theorem GD.len {ds : List DeclD} (h : GD ds) : 3 ≤ ds.length ∧ ds.length ≤ 4 := by
  rcases h.cases with rfl | rfl | rfl | rfl | rfl <;> exact ⟨by decide, by decide⟩
theorem GD.nth0 {ds : List DeclD} (h : GD ds) : nth ds 0 = dLi ∧ nth ds 1 = dAr ∧ nth ds 2 = dTr := by
  rcases h.cases with rfl | rfl | rfl | rfl | rfl <;> exact ⟨rfl, rfl, rfl⟩
theorem int4 {i : Int} (h0 : 0 ≤ i) (h1 : i < 4) : i = 0 ∨ i = 1 ∨ i = 2 ∨ i = 3 := by omega
theorem GD.types {ds : List DeclD} (h : GD ds) : typesOk ds := by
  refine ⟨h.len.2, fun i h0 h1 => ?_⟩
  rcases h.cases with rfl | rfl | rfl | rfl | rfl <;> rcases int4 h0 (by simp at h1; omega) with rfl | rfl | rfl | rfl <;> first
    | (simp at h1; done)
    | (unfold declOk
       first
       | (rw [if_pos (by decide)]
          refine ⟨by decide, rfl, rfl, ?_⟩
          intro c hc
          simp [nth, dLi, dTr] at hc
          first
          | (rcases hc with rfl | rfl | rfl <;> exact ⟨by decide, by decide⟩)
          | (rcases hc with rfl | rfl <;> exact ⟨by decide, by decide⟩)
          | (rcases hc with rfl <;> exact ⟨by decide, by decide⟩))
       | (rw [if_neg (by decide)]
          refine ⟨?_, by decide, by decide⟩
          intro j j0 j1
          first
          | omega
          | (have hj : j = 0 ∨ j = 1 ∨ j = 2 := by omega
             rcases hj with rfl | rfl | rfl <;> first | omega | decide)))
theorem GF.mem {fs : List FunD} (h : GF fs) {i : Int} (h0 : 0 ≤ i) (h1 : i < fs.length) : ((nth fs i).params, (nth fs i).result) ∈ sigsG := h.2.2 _ (nth_mem h0 h1)
theorem sig_facts {p : List Int × Int} (h : p ∈ sigsG) : p.1.length ≤ 3 ∧ (∀ t ∈ p.1, 0 ≤ t ∧ t ≤ 3) ∧ 0 ≤ p.2 ∧ p.2 ≤ 3 ∧ (∀ t ∈ p.1.dropLast, t = 0 ∨ t = 1 ∨ t = 3 ∨ (p.1.getLast? = some 1 ∧ p.2 = 1)) := by
  have : ∀ q ∈ sigsG, q.1.length ≤ 3 ∧ (∀ t ∈ q.1, 0 ≤ t ∧ t ≤ 3) ∧ 0 ≤ q.2 ∧ q.2 ≤ 3 ∧ (∀ t ∈ q.1.dropLast, t = 0 ∨ t = 1 ∨ t = 3 ∨ (q.1.getLast? = some 1 ∧ q.2 = 1)) := by decide
  exact this p h
theorem GD.no11 {ds : List DeclD} (h : GD ds) : arrI ds 1 1 = -1 := by
  refine arrI_none fun j j0 j1 => ?_
  have hl := h.len.2
  unfold arrP
  rcases h.cases with rfl | rfl | rfl | rfl | rfl <;> rcases int4 j0 (by omega) with rfl | rfl | rfl | rfl <;> decide
theorem conF_at {ds : List DeclD} {t k : Int} (t0 : 1 ≤ t) (t1 : t ≤ ds.length) (k0 : 0 ≤ k) (k1 : k < (nth ds (t - 1)).cons.length) : conF ds (firstC ds (t - 1).toNat + k) = (nth (nth ds (t - 1)).cons k).fields := by
  have hs : conI ds (firstC ds (t - 1).toNat + k) = t - 1 := by
    refine conI_some (by omega) (by omega) ⟨by omega, by omega⟩ fun j j0 j1 hj => ?_
    have h1 := firstC_succ (ds := ds) (i := j) j0 (by omega)
    have h2 := firstC_mono (ds := ds) (a := (j + 1).toNat) (b := (t - 1).toNat) (by omega)
    obtain ⟨q1, q2⟩ := hj
    omega
  unfold conF
  rw [hs, if_neg (by omega)]
  congr 2
  omega
theorem consL_nth {ds : List DeclD} {t k : Int} (t0 : 1 ≤ t) (t1 : t ≤ ds.length) (k0 : 0 ≤ k) (k1 : k < (nth ds (t - 1)).cons.length) : nth (consL ds t) k = firstC ds (t - 1).toNat + k := by
  unfold consL
  rw [if_pos ⟨t0, t1⟩]
  refine nth_of ?_
  rw [List.getElem?_map, List.getElem?_range (by omega)]
  simp only [Option.map_some, Option.some.injEq]
  omega
theorem consL_length {ds : List DeclD} {t : Int} (t0 : 1 ≤ t) (t1 : t ≤ ds.length) : (consL ds t).length = (nth ds (t - 1)).cons.length := by
  unfold consL
  rw [if_pos ⟨t0, t1⟩]
  simp
theorem conF_nth {ds : List DeclD} {t k : Int} (t0 : 1 ≤ t) (t1 : t ≤ ds.length) (k0 : 0 ≤ k) (k1 : k < (nth ds (t - 1)).cons.length) : conF ds (nth (consL ds t) k) = (nth (nth ds (t - 1)).cons k).fields := by rw [consL_nth t0 t1 k0 k1, conF_at t0 t1 k0 k1]
theorem consL_none {ds : List DeclD} {t : Int} (h : ¬ (1 ≤ t ∧ t ≤ ds.length)) : consL ds t = [] := by
  unfold consL
  rw [if_neg h]
/-- numbers of constructors are small -/
theorem consL_num {ds : List DeclD} (hd : typesOk ds) (t : Int) : ∀ c ∈ consL ds t, 0 ≤ c ∧ c < 13 := by
  intro c hc
  unfold consL at hc
  split at hc
  · rename_i ht
    obtain ⟨k, hk, rfl⟩ := List.mem_map.1 hc
    have h1 := hd.sm.fc (t - 1).toNat (by omega)
    have h2 := hd.sm.cons _ (nth_mem (l := ds) (i := t - 1) (by omega) (by omega))
    have h3 := firstC_le hd.sm.cons (t - 1).toNat
    have h4 := hd.1
    rw [List.mem_range] at hk
    omega
  · cases hc
/-- of a type of lists or trees the first constructor has no fields, the second contains the type -/
theorem GD.low {ds : List DeclD} (h : GD ds) {t : Int} (ht : t = 1 ∨ t = 3) : (consL ds t).length = 2 ∧ conF ds (nth (consL ds t) 0) = [] ∧ t ∈ conF ds (nth (consL ds t) 1) := by
  obtain ⟨e0, e1, e2⟩ := h.nth0
  have hl := h.len.1
  rcases ht with rfl | rfl
  · have e : nth ds (1 - 1) = dLi := e0
    refine ⟨by rw [consL_length (by omega) (by omega), e]; rfl, ?_, ?_⟩
    · rw [conF_nth (by omega) (by omega) (by omega) (by rw [e]; decide), e]; rfl
    · rw [conF_nth (by omega) (by omega) (by omega) (by rw [e]; decide), e]; decide
  · have e : nth ds (3 - 1) = dTr := e2
    refine ⟨by rw [consL_length (by omega) (by omega), e]; rfl, ?_, ?_⟩
    · rw [conF_nth (by omega) (by omega) (by omega) (by rw [e]; decide), e]; rfl
    · rw [conF_nth (by omega) (by omega) (by omega) (by rw [e]; decide), e]; decide
/-- a type of which expressions are made at once -/
def lowT (t : Int) : Prop := t = 0 ∨ t = 1 ∨ t = 3
theorem GD.high {ds : List DeclD} (h : GD ds) {t c : Int} (ht : ¬ lowT t) (hc : c ∈ consL ds t) : ∀ p ∈ conF ds c, lowT p := by
  have hl := h.len
  by_cases h4 : 1 ≤ t ∧ t ≤ ds.length
  · obtain ⟨k, hk, rfl⟩ := List.getElem_of_mem hc
    have hk' : (k : Int) < (nth ds (t - 1)).cons.length := by rw [← consL_length h4.1 h4.2]; omega
    have e := conF_nth h4.1 h4.2 (k := k) (by omega) hk'
    rw [nth_of (a := (consL ds t)[k]) (by simp [List.getElem?_eq_getElem hk])] at e
    rw [e]
    unfold lowT at ht
    have : t = 2 ∨ t = 4 := by omega
    rcases this with rfl | rfl
    · have e1 : nth ds (2 - 1) = dAr := h.nth0.2.1
      rw [e1] at hk'
      simp [dAr] at hk'
      omega
    · rcases h.cases with rfl | rfl | rfl | rfl | rfl
      · simp at h4
      · have hk2 : (k : Int) < 1 := hk'
        have : k = 0 := by omega
        subst this
        intro p hp
        simp [nth] at hp
        unfold lowT; omega
      · have hk2 : (k : Int) < 0 := hk'
        omega
      · have hk2 : (k : Int) < 3 := hk'
        have : k = 0 ∨ k = 1 ∨ k = 2 := by omega
        rcases this with rfl | rfl | rfl <;> intro p hp <;> simp [nth] at hp <;> unfold lowT <;> omega
      · have hk2 : (k : Int) < 0 := hk'
        omega
  · rw [consL_none h4] at hc
    cases hc
/-- closures of functions of a type -/
def clos1 (ds : List DeclD) (f : FunD) (t : Int) : Prop := 0 < f.params.length ∧ arrI ds (nth f.params ((f.params.length : Int) - 1)) f.result = t
theorem last_nth {l : List Int} {x : Int} (h : l.getLast? = some x) : nth l ((l.length : Int) - 1) = x := by
  refine nth_of ?_
  rw [List.getLast?_eq_getElem?] at h
  rwa [show ((l.length : Int) - 1).toNat = l.length - 1 from by omega]
theorem clos_low {ds : List DeclD} {f : FunD} {t : Int} (hd : GD ds) (hf : (f.params, f.result) ∈ sigsG) (ht : 0 < t) (hc : clos1 ds f t) {i : Int} (h0 : 0 ≤ i) (h1 : i + 1 < f.params.length) : lowT (nth f.params i) := by
  have h2 := (sig_facts hf).2.2.2.2 (nth f.params i) (by
    have : i.toNat < f.params.dropLast.length := by simp; omega
    rw [nth_of (a := f.params[i.toNat]'(by omega)) (by simp [List.getElem?_eq_getElem (show i.toNat < f.params.length by omega)])]
    rw [List.mem_iff_getElem]
    exact ⟨i.toNat, this, by rw [List.getElem_dropLast]⟩)
  rcases h2 with h2 | h2 | h2 | ⟨h2, h3⟩
  · exact .inl h2
  · exact .inr (.inl h2)
  · exact .inr (.inr h2)
  · exfalso
    have h4 := hc.2
    have h3 : f.result = 1 := h3
    rw [last_nth h2, h3, hd.no11] at h4
    omega
end Go.Vc

namespace Go.Vc
open Go Go.Proofs Go.RowKit
set_option linter.all false
def kp (ks : List (Nat → Prop)) (i : Nat) : Nat → Prop := ks.getD i fun _ => False
/-- what a node asks of its kids, in a scope of so many variables -/
def scN (ds : List DeclD) (nf op num : Int) (ks : List (Nat → Prop)) (V : Nat) : Prop :=
  if op = 12 then 0 ≤ num ∧ num < V
  else if op = 13 then ks.length = 2 ∧ kp ks 0 V ∧ kp ks 1 (V + 1)
  else if op = 8 then ks.length = 1 + (consL ds num).length ∧ kp ks 0 V ∧ ∀ i : Nat, i < (consL ds num).length → kp ks (i + 1) (V + (conF ds (nth (consL ds num) i)).length)
  else (op = 7 → 1 ≤ ks.length) ∧ (op = 9 ∨ op = 10 → 0 ≤ num ∧ num < nf) ∧ ∀ k ∈ ks, k V
mutual
/-- an expression's variables are in scope, and its numbers of functions and types are right -/
def scX (ds : List DeclD) (nf : Int) : ExprD → Nat → Prop
  | ⟨op, num, kids⟩ => scN ds nf op num (scK ds nf kids)
def scK (ds : List DeclD) (nf : Int) : List ExprD → List (Nat → Prop)
  | [] => []
  | k :: r => scX ds nf k :: scK ds nf r
end
structure CxE where
  ds : List DeclD
  nf : Int
  V : Nat
def CxE.more (C : CxE) (n : Nat) : CxE := ⟨C.ds, C.nf, C.V + n⟩
def cE (C : CxE) (e : ExprD) : Prop := canE e = true ∧ scX C.ds C.nf e C.V
def cL (C : CxE) (ks : List ExprD) : Prop := canL ks = true ∧ ∀ k ∈ ks, scX C.ds C.nf k C.V
/-- a node of which all kids are in its own scope -/
def okS (C : CxE) (op num : Int) (n : Nat) : Prop := okN op num n = true ∧ op ≠ 12 ∧ op ≠ 13 ∧ op ≠ 8 ∧ (op = 7 → 1 ≤ n) ∧ (op = 9 ∨ op = 10 → 0 ≤ num ∧ num < C.nf)
section
variable {ds : List DeclD} {nf op num n : Int} {C : CxE} {e k k0 k1 : ExprD} {ks : List ExprD} {V : Nat}
theorem scK_map : ∀ l : List ExprD, scK ds nf l = l.map (scX ds nf)
  | [] => by rw [scK]; rfl
  | k :: r => by rw [scK, scK_map r]; rfl
theorem scX_eq : scX ds nf e = scN ds nf e.op e.num (e.kids.map (scX ds nf)) := by
  cases e
  rw [scX, scK_map]
  rfl
theorem kp_map {i : Nat} (h : ks[i]? = some k) : kp (ks.map (scX ds nf)) i = scX ds nf k := by
  unfold kp List.getD
  rw [List.getElem?_map, h]
  rfl
theorem kp_some {i : Nat} (h : kp (ks.map (scX ds nf)) i V) : ∃ k, ks[i]? = some k ∧ scX ds nf k V := by
  unfold kp List.getD at h
  rw [List.getElem?_map] at h
  cases hk : ks[i]? with
  | none => rw [hk] at h; exact h.elim
  | some k => rw [hk] at h; exact ⟨k, rfl, h⟩
theorem cL_nil : cL C [] := ⟨canL_nil, fun k hk => by cases hk⟩
theorem cL_cons (h : cE C e) (hs : cL C ks) : cL C (e :: ks) := ⟨by rw [canL_cons, h.1, hs.1]; rfl, fun k hk => by
  rcases List.mem_cons.1 hk with rfl | hk
  · exact h.2
  · exact hs.2 k hk⟩
theorem canL_snoc' (h : canL ks = true) (he : canE e = true) : canL (ks ++ [e]) = true := by rw [canL_app, h, canL_cons, canL_nil, he]; rfl
theorem cL_snoc (hs : cL C ks) (h : cE C e) : cL C (ks ++ [e]) := ⟨canL_snoc' hs.1 h.1, fun k hk => by
  rcases List.mem_append.1 hk with hk | hk
  · exact hs.2 k hk
  · rw [List.mem_singleton.1 hk]; exact h.2⟩
theorem cE.node (hs : cL C ks) (h : okS C op num ks.length) : cE C ⟨op, num, ks⟩ := by
  refine ⟨by rw [canE_eq]; show (okN op num ks.length && canL ks) = true; rw [h.1, hs.1]; rfl, ?_⟩
  rw [scX_eq]
  show scN C.ds C.nf op num (ks.map (scX C.ds C.nf)) C.V
  unfold scN
  rw [if_neg h.2.1, if_neg h.2.2.1, if_neg h.2.2.2.1]
  refine ⟨fun ho => by rw [List.length_map]; exact h.2.2.2.2.1 ho, h.2.2.2.2.2, fun p hp => ?_⟩
  obtain ⟨k, hk, rfl⟩ := List.mem_map.1 hp
  exact hs.2 k hk
theorem cE.let_ (h0 : cE C k0) (h1 : cE (C.more 1) k1) : cE C ⟨13, 0, [k0, k1]⟩ := by
  refine ⟨by rw [canE_eq]; show (okN 13 0 2 && canL [k0, k1]) = true; rw [canL_cons, canL_cons, canL_nil, h0.1, h1.1]; rfl, ?_⟩
  rw [scX_eq]
  show scN C.ds C.nf 13 0 ([k0, k1].map (scX C.ds C.nf)) C.V
  unfold scN
  rw [if_neg (by decide), if_pos rfl]
  exact ⟨rfl, h0.2, h1.2⟩
theorem cE.var (h0 : 0 ≤ n) (h1 : n < C.V) (h2 : n ≤ 99) : cE C ⟨12, n, []⟩ := by
  refine ⟨?_, ?_⟩
  · rw [canE_eq]
    show (okN 12 n 0 && canL []) = true
    rw [canL_nil, Bool.and_true, okN_iff]
    exact .inr (.inl ⟨rfl, rfl, h0, h2⟩)
  · rw [scX_eq]
    show scN C.ds C.nf 12 n _ C.V
    unfold scN
    rw [if_pos rfl]
    exact ⟨h0, h1⟩
/-- the arms of a match -/
def armC (C : CxE) (d : Int) (ks : List ExprD) : Prop := canL ks = true ∧ ∀ i : Nat, i < ks.length → ∃ k, ks[i]? = some k ∧ scX C.ds C.nf k (C.V + (conF C.ds (nth (consL C.ds d) i)).length)
theorem armC_nil {d : Int} : armC C d [] := ⟨canL_nil, fun i hi => by cases hi⟩
theorem armC_snoc {d : Int} (h : armC C d ks) (he : cE (C.more (conF C.ds (nth (consL C.ds d) (ks.length : Nat))).length) e) : armC C d (ks ++ [e]) := by
  refine ⟨canL_snoc' h.1 he.1, fun i hi => ?_⟩
  rw [List.length_append, List.length_singleton] at hi
  by_cases hl : i < ks.length
  · obtain ⟨k, h1, h2⟩ := h.2 i hl
    exact ⟨k, by rw [List.getElem?_append_left hl]; exact h1, h2⟩
  · have e1 : i = ks.length := by omega
    subst e1
    exact ⟨e, by rw [List.getElem?_append_right (Nat.le_refl _), Nat.sub_self]; rfl, he.2⟩
theorem cE.match_ {d : Int} (hd0 : 0 ≤ d) (hd : d < 13) (h0 : cE C k0) (h : armC C d ks) (hl : ks.length = (consL C.ds d).length) : cE C ⟨8, d, k0 :: ks⟩ := by
  refine ⟨?_, ?_⟩
  · rw [canE_eq]
    show (okN 8 d (k0 :: ks).length && canL (k0 :: ks)) = true
    rw [canL_cons, h0.1, h.1, Bool.and_true, Bool.and_true, okN_iff]
    omega
  · rw [scX_eq]
    show scN C.ds C.nf 8 d ((k0 :: ks).map (scX C.ds C.nf)) C.V
    unfold scN
    rw [if_neg (by decide), if_neg (by decide), if_pos rfl]
    refine ⟨by simp; omega, h0.2, fun i hi => ?_⟩
    obtain ⟨k, h1, h2⟩ := h.2 i (by omega)
    rw [kp_map (k := k) (by simpa using h1)]
    exact h2
/-- more variables do no harm -/
theorem scX_more (e : ExprD) : ∀ V W : Nat, V ≤ W → scX ds nf e V → scX ds nf e W := by
  refine ex_ind (P := fun e => ∀ V W : Nat, V ≤ W → scX ds nf e V → scX ds nf e W) (fun e H V W hVW h => ?_) e
  rw [scX_eq] at h ⊢
  have kpm : ∀ (i : Nat) (V W : Nat), V ≤ W → kp (e.kids.map (scX ds nf)) i V → kp (e.kids.map (scX ds nf)) i W := by
    intro i V W hVW h
    obtain ⟨k, hk, hs⟩ := kp_some h
    rw [kp_map hk]
    exact H k (List.mem_of_getElem? hk) V W hVW hs
  unfold scN at h ⊢
  by_cases o12 : e.op = 12
  · rw [if_pos o12] at h ⊢
    omega
  rw [if_neg o12] at h ⊢
  by_cases o13 : e.op = 13
  · rw [if_pos o13] at h ⊢
    exact ⟨h.1, kpm _ _ _ hVW h.2.1, kpm _ _ _ (by omega) h.2.2⟩
  rw [if_neg o13] at h ⊢
  by_cases o8 : e.op = 8
  · rw [if_pos o8] at h ⊢
    exact ⟨h.1, kpm _ _ _ hVW h.2.1, fun i hi => kpm _ _ _ (by omega) (h.2.2 i hi)⟩
  rw [if_neg o8] at h ⊢
  refine ⟨h.1, h.2.1, fun p hp => ?_⟩
  obtain ⟨k, hk, rfl⟩ := List.mem_map.1 hp
  exact H k hk V W hVW (h.2.2 _ hp)
theorem cE.le {C' : CxE} (h : cE C e) (h1 : C.ds = C'.ds) (h2 : C.nf = C'.nf) (h3 : C.V ≤ C'.V) : cE C' e := ⟨h.1, by rw [← h1, ← h2]; exact scX_more e _ _ h3 h.2⟩
end
end Go.Vc

namespace Go.Vc
open Go Go.Proofs Go.RowKit
set_option linter.all false
/-- the program that the generator reads: declarations at the base, functions in blocks of R -/
structure PrgG (u : World) (R : Items) (x y : Sl) (ds : List DeclD) (fs : List FunD) : Prop where
  gd : GD ds
  gf : GF fs
  rx : Read u x ds
  ry : ∀ (u' w' : World) (I' : Items), Sub u u' → St u' w' (I' ++ R) → Src u' w' y fs
/-- the reader, and nothing else that changes -/
def GS (u : World) (a : Addr) (R : Items) (m : Int) (w : World) : Prop := ∃ I, Rdr u a m I ∧ St u w (I ++ R)
/-- an expression that has been made -/
def EV (C : CxE) (u : World) (N : Int) (n1 n2 : Int) (x : Sl) : Prop := ∃ e : ExprD, n1 = e.op ∧ n2 = e.num ∧ Read u x e.kids ∧ cE C e ∧ (nodesE e : Int) ≤ N
def GQ (C : CxE) (u : World) (a : Addr) (R : Items) (m N : Int) (n1 n2 : Int) (x : Sl) (w : World) : Prop := ∃ u', Sub u u' ∧ GS u' a R m w ∧ EV C u' N n1 n2 x
def Pg (b : Int) : Int := if b ≤ 0 then 30 else 130 * b - 100
section
variable {C : CxE} {u u' v w : World} {x y z s : Sl} {ds : List DeclD} {fs : List FunD} {a : Addr} {I J L R : Items} {F : Items → Items} {m m' N N' n n1 n2 op num t b : Int} {l vars : List Int} {ks : List ExprD} {e : ExprD}
theorem PrgG.mono (h : PrgG u R x y ds fs) (hs : Sub u u') : PrgG u' R x y ds fs := ⟨h.gd, h.gf, h.rx.mono hs, fun u2 w2 I2 h1 => h.ry u2 w2 I2 (hs.trans h1)⟩
theorem PrgG.app (h : PrgG u R x y ds fs) (J : Items) : PrgG u (J ++ R) x y ds fs := ⟨h.gd, h.gf, h.rx, fun u2 w2 I2 h1 h2 => h.ry u2 w2 (I2 ++ J) h1 (by rw [List.append_assoc]; exact h2)⟩
theorem Src.rd {α : Type} [Dat α] {l : List α} (h : Src u w y l) (hs : Sub u w) : Read w y l := let ⟨rows, h1, h2, h3⟩ := h; ⟨rows, h1, h2.mono hs, h3⟩
theorem GS.sub (h : GS u a R m w) : Sub u w := let ⟨_, _, h2⟩ := h; h2.sub
theorem GS.le (h : GS u a R m w) (hm : m ≤ m') : GS u a R m' w := let ⟨I, h1, h2⟩ := h; ⟨I, h1.le hm, h2⟩
theorem PrgG.fsr (hp : PrgG u R x y ds fs) (h : GS u a R m w) : Read w y fs := let ⟨I, _, h2⟩ := h; (hp.ry u w I (.refl u) h2).rd h2.sub
theorem PrgG.src (hp : PrgG u R x y ds fs) (h : GS u a R m w) : Src u w y fs := let ⟨I, _, h2⟩ := h; hp.ry u w I (.refl u) h2
/-- a list of variables that may lie among what is owned -/
def VrG (u : World) (R : Items) (z : Sl) (vars : List Int) : Prop := ∀ (u' w' : World) (I' : Items), Sub u u' → St u' w' (I' ++ R) → Src u' w' z vars
theorem VrG.of (h : Read u z vars) : VrG u R z vars := fun u' w' I' hs hS => (h.mono hs).src hS.sub
theorem VrG.mono (h : VrG u R z vars) (hs : Sub u u') : VrG u' R z vars := fun u2 w2 I2 h1 => h u2 w2 I2 (hs.trans h1)
theorem VrG.app (h : VrG u R z vars) (J : Items) : VrG u (J ++ R) z vars := fun u2 w2 I2 h1 h2 => h u2 w2 (I2 ++ J) h1 (by rw [List.append_assoc]; exact h2)
theorem VrG.rd (hv : VrG u R z vars) (h : GS u a R m w) : Read w z vars := let ⟨I, _, h2⟩ := h; (hv u w I (.refl u) h2).rd h2.sub
theorem EV.mono (h : EV C u N n1 n2 x) (hs : Sub u u') : EV C u' N n1 n2 x := let ⟨e, h1, h2, h3, h4⟩ := h; ⟨e, h1, h2, h3.mono hs, h4⟩
theorem EV.le (h : EV C u N n1 n2 x) (hs : N ≤ N') : EV C u N' n1 n2 x := let ⟨e, h1, h2, h3, h4, h5⟩ := h; ⟨e, h1, h2, h3, h4, by omega⟩
theorem GQ.le (h : GQ C u' a R m N n1 n2 x w) (hs : Sub u u') (hm : m ≤ m') (hN : N ≤ N') : GQ C u a R m' N' n1 n2 x w := let ⟨u2, h1, h2, h3⟩ := h; ⟨u2, hs.trans h1, h2.le hm, h3.le hN⟩
theorem can_in (h : canE e = true) : InI e.op ∧ InI e.num := by
  rw [canE_eq, Bool.and_eq_true, okN_iff] at h
  exact ⟨⟨by omega, by omega⟩, ⟨by omega, by omega⟩⟩
theorem vof (r : Read u x e.kids) (c : canE e = true) : VOf u (.agg #[.int .i64 e.op, .int .i64 e.num, x.val]) e :=
  ⟨rfl, expr_cells.2 ⟨x, rfl, (can_in c).1, (can_in c).2, r⟩⟩
theorem EV.of (hx : Read u x ks) (hc : cE C ⟨op, num, ks⟩) (hN : 1 + (nodesL ks : Int) ≤ N) : EV C u N op num x :=
  ⟨⟨op, num, ks⟩, rfl, rfl, hx, hc, by rw [nodesE_eq]; show ((1 + nodesL ks : Nat) : Int) ≤ N; omega⟩
theorem EV.mk (hx : Read u x ks) (hc : cL C ks) (hok : okS C op num ks.length) (hN : 1 + (nodesL ks : Int) ≤ N) : EV C u N op num x := EV.of hx (cE.node hc hok) hN
/-- what has been made is read from now on -/
theorem GS.freeze (h : GS u a (J ++ R) m w) : ∃ u', Sub u u' ∧ GS u' a R m w ∧ St u u' J := by
  obtain ⟨I, h1, h2⟩ := h
  obtain ⟨u2, hu, hS, hJ⟩ := h2.freeze J
  exact ⟨u2, hu, ⟨I, h1.mono hu, hS⟩, hJ⟩
theorem gs_pick (h : GS u a R m w) (hm : m ≤ 1000000000) (hn1 : -1000000000000 ≤ n) (hn : n ≤ 1000000000000) {K : Int → World → Prop}
    (k : ∀ j w', GS u a R (m + 1) w' → 0 ≤ j → (1 ≤ n → j < n) → (n < 1 → j = 0) → K j w') :
    Trip Try.prog 12 #[.pointer (some (a.add 0)), .int .i64 n] w fun r w' => ∃ j, r = .int .i64 j ∧ K j w' := by
  obtain ⟨I, h1, h2⟩ := h
  refine (c_pick h1 h2 hm hn1 hn).mono' ?_
  rintro _ w' ⟨j, I', rfl, h3, h4, h5, h6, h7⟩
  exact ⟨j, rfl, k j w' ⟨I', h3, h4⟩ h5 h6 h7⟩
theorem gs_ints {c : Nat} {ps : Array (Nat × Value)} (h : GS u a R m w) (hv : VsOf (α := Int) u (ps.toList.map (·.2)) l) (hi : ps.toList.map (·.1) = List.range c) (hsz : c * Dat.sz Int ≤ 16777216) {K : Sl → World → Prop}
    (k : ∀ x w' u', Sub u u' → Sub w w' → GS u' a R m w' → Read u' x l → K x w') : StepT Try.prog (Instr.buildSlice 27 c ps) w fun r w' => ∃ x, r = x.val ∧ K x w' := by
  obtain ⟨I, h1, h2⟩ := h
  refine St.build (α := Int) h2 hv hi hsz fun x w' J hO hS hs => ⟨x, rfl, ?_⟩
  obtain ⟨u2, hu, hS2, hJ⟩ := hS.freeze J
  exact k x w' u2 hu hs ⟨I, h1.mono hu, hS2⟩ (hO.read1 hJ)
theorem gs_kids {c : Nat} {ps : Array (Nat × Value)} (h : GS u a R m w) (hv : VsOf (α := ExprD) u (ps.toList.map (·.2)) ks) (hi : ps.toList.map (·.1) = List.range c) (hsz : c * Dat.sz ExprD ≤ 16777216) {K : Sl → World → Prop}
    (k : ∀ x w' u', Sub u u' → Sub w w' → GS u' a R m w' → Read u' x ks → K x w') : StepT Try.prog (Instr.buildSlice 28 c ps) w fun r w' => ∃ x, r = x.val ∧ K x w' := by
  obtain ⟨I, h1, h2⟩ := h
  refine St.build (α := ExprD) h2 hv hi hsz fun x w' J hO hS hs => ⟨x, rfl, ?_⟩
  obtain ⟨u2, hu, hS2, hJ⟩ := hS.freeze J
  exact k x w' u2 hu hs ⟨I, h1.mono hu, hS2⟩ (hO.read1 hJ)
/-- an empty list of kids, to be filled -/
theorem gs_kids0 (h : GS u a R m w) {K : Sl → World → Prop} (k : ∀ x w' J, GS u a (J ++ R) m w' → Sub w w' → Own u x ([] : List ExprD) J → K x w') : StepT Try.prog (Instr.buildSlice 28 0 #[]) w fun r w' => ∃ x, r = x.val ∧ K x w' := by
  obtain ⟨I, h1, h2⟩ := h
  refine St.build (α := ExprD) (l := []) h2 VsOf.nil rfl (by decide) fun x w' J hO hS hs => ⟨x, rfl, k x w' J ⟨I, h1, hS.to⟩ hs hO⟩
/-- one more kid -/
theorem gs_push (h : GS u a (J ++ R) m w) (hO : Own u x ks J) (r : Read u s e.kids) (c : cE C e) (hb : ks.length + 1 ≤ 1000000) {K : Sl → World → Prop} (k : ∀ x' w' J', GS u a (J' ++ R) m w' → Own u x' (ks ++ [e]) J' → K x' w') :
    StepT Try.prog (Instr.buildSlice 28 1 #[(0, (.agg #[.int .i64 e.op, .int .i64 e.num, s.val]))]) w fun r1 w1 => ∃ z : Sl, r1 = z.val ∧ StepT Try.prog (Builtin.append_ #[28, 28] 28 #[(x.val), (z.val)]) w1 fun r2 w2 => ∃ x' : Sl, r2 = x'.val ∧ K x' w2 := by
  obtain ⟨I, h1, h2⟩ := h
  refine St.build (α := ExprD) h2 (VsOf.cons (vof r c.1) VsOf.nil) rfl (by decide) fun z w1 J1 hO1 hS hs => ⟨z, rfl, ?_⟩
  refine Own.append hO hS (Own.src hO1 hS) (by simp only [List.length_cons, List.length_nil]; omega) (by decide) fun x' w2 J2 hO2 hS2 => ⟨x', rfl, k x' w2 J2 ⟨I, h1, hS2.to⟩ hO2⟩
theorem gs_one (h : GS u a R m w) (hx : Read u x l) (hm : m ≤ 1000000000) (hl : 0 < l.length) (hl2 : l.length ≤ 1000000) {K : Int → World → Prop} (k : ∀ j w', GS u a R (m + 1) w' → j ∈ l → K j w') :
    Trip Try.prog 14 #[.pointer (some (a.add 0)), x.val] w fun r w' => ∃ j, r = .int .i64 j ∧ K j w' := by
  refine of14 _ _ _ _ ?_
  unfold vc14
  have hn := hx.n
  refine gs_pick (n := x.n) h hm (by omega) (by omega) fun j w' h' h0 h1 h2 => ?_
  refine go_ix hx h0 (by omega) ?_
  refine ld_int (hx.mono h'.sub) h0 (by omega) ?_
  intro b0 b1
  exact ⟨_, rfl, k _ w' h' (nth_mem h0 (by omega))⟩
theorem gs_node {op num : Int} {K : Int → Int → Sl → World → Prop} (k : K op num x w) : Trip Try.prog 33 #[.int .i64 op, .int .i64 num, x.val] w fun r w' => ∃ n1 n2 x', r = .agg #[.int .i64 n1, .int .i64 n2, x'.val] ∧ K n1 n2 x' w' := by
  refine of33 _ _ _ _ _ ?_
  unfold vc33
  exact ⟨op, num, x, rfl, k⟩
theorem gs_var (h : GS u a R m w) (h0 : 0 ≤ n) (h1 : n ≤ 99) (hV : n < C.V) {K : Int → Int → Sl → World → Prop} (k : ∀ n1 n2 x w' u', Sub u u' → Sub w w' → GS u' a R m w' → EV C u' 1 n1 n2 x → K n1 n2 x w') :
    Trip Try.prog 35 #[.int .i64 n] w fun r w' => ∃ n1 n2 x, r = .agg #[.int .i64 n1, .int .i64 n2, x.val] ∧ K n1 n2 x w' := by
  refine of35 _ _ _ ?_
  unfold vc35
  refine gs_kids h VsOf.nil rfl (by decide) fun x w' u' hu hs h' hx => ⟨_, _, _, rfl, k _ _ _ w' u' hu hs h' (EV.of hx (cE.var h0 hV h1) (by rw [nodesL_nil]; omega))⟩
theorem gs_int (h : GS u a R m w) (h0 : -999 ≤ n) (h1 : n ≤ 999) {K : Int → Int → Sl → World → Prop} (k : ∀ n1 n2 x w' u', Sub u u' → Sub w w' → GS u' a R m w' → EV C u' 1 n1 n2 x → K n1 n2 x w') :
    Trip Try.prog 34 #[.int .i64 n] w fun r w' => ∃ n1 n2 x, r = .agg #[.int .i64 n1, .int .i64 n2, x.val] ∧ K n1 n2 x w' := by
  refine of34 _ _ _ ?_
  unfold vc34
  refine gs_kids h VsOf.nil rfl (by decide) fun x w' u' hu hs h' hx => ⟨_, _, _, rfl, k _ _ _ w' u' hu hs h' (EV.mk hx cL_nil ⟨?_, by decide, by decide, by decide, by omega, by omega⟩ (by rw [nodesL_nil]; omega))⟩
  rw [okN_iff]
  refine .inl ⟨rfl, rfl, h0, h1⟩
theorem gs_someInt (h : GS u a R m w) (hm : m ≤ 999999000) {K : Int → World → Prop} (k : ∀ j w' u', Sub u u' → GS u' a R (m + 4) w' → -999 ≤ j → j ≤ 999 → K j w') :
    Trip Try.prog 89 #[.pointer (some (a.add 0))] w fun r w' => ∃ j, r = .int .i64 j ∧ K j w' := by
  refine of89 _ _ _ ?_
  unfold vc89
  refine gs_pick h (by omega) (by omega) (by omega) fun j1 w1 h p0 p1 p2 => ?_
  refine gs_pick h (by omega) (by omega) (by omega) fun j2 w2 h q0 q1 q2 => ?_
  refine gs_pick h (by omega) (by omega) (by omega) fun j3 w3 h r0 r1 r2 => ?_
  refine gs_ints h (by (repeat' (first | exact VsOf.nil | apply VsOf.cons | (apply VOf.int; first | assumption | (constructor <;> first | omega | (simp only [List.length_set, List.length_append, List.length_replicate, List.length_cons, List.length_nil, List.length_take, List.length_drop, List.length_map, List.length_singleton] at *; omega))) | exact VOf.bool | exact VOf.str))) rfl (by decide) fun x w4 u4 hu hs h hx => ?_
  refine gs_one h hx (by omega) (by simp) (by simp) fun j w5 h hj => ?_
  refine ⟨_, rfl, k j w5 u4 hu (h.le (by omega)) ?_ ?_⟩ <;> (simp only [List.mem_cons, List.not_mem_nil, or_false] at hj; omega)
theorem use_e {P : Program} {f : FuncId} {args : Array Value} {G K : Int → Int → Sl → World → Prop} (hT : Trip P f args w fun r w' => ∃ n1 n2 x, r = .agg #[.int .i64 n1, .int .i64 n2, Sl.val x] ∧ G n1 n2 x w') (k : ∀ n1 n2 x w', G n1 n2 x w' → K n1 n2 x w') :
    Trip P f args w fun r w' => ∃ n1 n2 x, r = .agg #[.int .i64 n1, .int .i64 n2, Sl.val x] ∧ K n1 n2 x w' :=
  hT.mono' fun _ _ ⟨n1, n2, x, h1, h2⟩ => ⟨n1, n2, x, h1, k _ _ _ _ h2⟩
/-- fresh lists of numbers, read from now on -/
theorem gs_mku {P : Program} {f : FuncId} {args : Array Value} (hM : Mk P f args u fun r J => ∃ z : Sl, r = z.val ∧ Own u z l J) (h : GS u a R m w) {K : Sl → World → Prop} (k : ∀ z w' u', Sub u u' → Sub w w' → GS u' a R m w' → Read u' z l → K z w') :
    Trip P f args w fun r w' => ∃ z : Sl, r = z.val ∧ K z w' := by
  obtain ⟨I, h1, h2⟩ := h
  refine Mk.use hM h2 ?_
  rintro _ w' J ⟨z, rfl, hO⟩ hS hs
  obtain ⟨u2, hu, hS2, hJ⟩ := hS.freeze J
  exact ⟨z, rfl, k z w' u2 hu hs ⟨I, h1.mono hu, hS2⟩ (hO.read1 hJ)⟩
theorem gs_mkw {P : Program} {f : FuncId} {args : Array Value} {G : List Int → Prop} (hM : Mk P f args w fun r J => ∃ (z : Sl) (l : List Int), r = z.val ∧ Own w z l J ∧ G l) (h : GS u a R m w) {K : Sl → World → Prop} (k : ∀ z l w' u', Sub u u' → Sub w w' → GS u' a R m w' → Read u' z l → G l → K z w') :
    Trip P f args w fun r w' => ∃ z : Sl, r = z.val ∧ K z w' := by
  obtain ⟨I, h1, h2⟩ := h
  refine Mk.usew hM h2 ?_
  rintro _ w' J ⟨z, l, rfl, hO, hG⟩ hS hs
  obtain ⟨u2, hu, hS2, hJ⟩ := hS.freeze J
  exact ⟨z, rfl, k z l w' u2 hu hs ⟨I, h1.mono hu, hS2⟩ (hO.ofInts.read1 hJ) hG⟩
theorem gs_consOf (hp : PrgG u R x y ds fs) (hn : InI n) (h : GS u a R m w) {K : Sl → World → Prop} (k : ∀ z w' u', Sub u u' → Sub w w' → GS u' a R m w' → Read u' z (consL ds n) → K z w') :
    Trip Try.prog 75 #[x.val, .int .i64 n] w fun r w' => ∃ z : Sl, r = z.val ∧ K z w' :=
  gs_mku (c_consOfB hp.rx hp.gd.types.sm hn) h k
theorem gs_extend {args : List Int} (hz : Read u z vars) (hs : Read u s args) (hb : vars.length + args.length ≤ 1000000) (h : GS u a R m w) {K : Sl → World → Prop} (k : ∀ z w' u', Sub u u' → Sub w w' → GS u' a R m w' → Read u' z (vars ++ args) → K z w') :
    Trip Try.prog 36 #[z.val, s.val] w fun r w' => ∃ z : Sl, r = z.val ∧ K z w' :=
  gs_mku (c_extend hz hs (by omega)) h k
theorem gs_extendV {args : List Int} (hz : VrG u R z vars) (hs : Read u s args) (hb : vars.length + args.length ≤ 1000000) (h : GS u a R m w) {K : Sl → World → Prop} (k : ∀ z w' u', Sub u u' → Sub w w' → GS u' a R m w' → Read u' z (vars ++ args) → K z w') :
    Trip Try.prog 36 #[z.val, s.val] w fun r w' => ∃ z : Sl, r = z.val ∧ K z w' := by
  have hzr := hz.rd h
  obtain ⟨I, h1, h2⟩ := h
  refine Mk.usew (c_extend hzr (hs.mono h2.sub) (by omega)) h2 ?_
  rintro _ w' J ⟨z, rfl, hO⟩ hS hsub
  obtain ⟨u2, hu, hS2, hJ⟩ := hS.freeze J
  exact ⟨z, rfl, k z w' u2 hu hsub ⟨I, h1.mono hu, hS2⟩ (hO.ofInts.read1 hJ)⟩
theorem gs_conFields (hp : PrgG u R x y ds fs) (hn : InI n) (h : GS u a R m w) {K : Sl → World → Prop} (k : ∀ z w' u', Sub u u' → Sub w w' → GS u' a R m w' → Read u' z (conF ds n) → K z w') :
    Trip Try.prog 51 #[x.val, .int .i64 n] w fun r w' => ∃ z : Sl, r = z.val ∧ K z w' := by
  obtain ⟨I, h1, h2⟩ := h
  refine Mk.use (c_conFieldsR hp.rx hp.gd.types.sm hn) h2 ?_
  rintro _ w' J ⟨z, rfl, hO⟩ hS hs
  obtain ⟨u2, hu, hS2, hJ⟩ := hS.freeze J
  exact ⟨z, rfl, k z w' u2 hu hs ⟨I, h1.mono hu, hS2⟩ (hO u2 hJ)⟩
/-- closures of functions of a type -/
noncomputable def closU (ds : List DeclD) (fs : List FunD) (t : Int) (i : Nat) : List Int := ((List.range i).map Int.ofNat).filter fun k => pB (clos1 ds (nth fs k) t)
theorem closU_succ (i : Int) (h : 0 ≤ i) : closU ds fs t (i + 1).toNat = closU ds fs t i.toNat ++ (if pB (clos1 ds (nth fs i) t) = true then [i] else []) := by
  unfold closU
  rw [show (i + 1).toNat = i.toNat + 1 from by omega, List.range_succ, List.map_append, List.filter_append]
  congr 1
  have e : Int.ofNat i.toNat = i := by show ((i.toNat : Nat) : Int) = i; omega
  simp only [List.map_cons, List.map_nil, e, List.filter_cons, List.filter_nil]
theorem closU_mem {i : Nat} {k : Int} (h : k ∈ closU ds fs t i) : 0 ≤ k ∧ k < i ∧ clos1 ds (nth fs k) t := by
  unfold closU at h
  obtain ⟨h1, h2⟩ := List.mem_filter.1 h
  obtain ⟨j, hj, rfl⟩ := List.mem_map.1 h1
  rw [List.mem_range] at hj
  exact ⟨by simp only [Int.ofNat_eq_natCast]; omega, by simp only [Int.ofNat_eq_natCast]; omega, pB_iff.1 h2⟩
theorem closU_len (i : Nat) : (closU ds fs t i).length ≤ i := by
  unfold closU
  refine Nat.le_trans (List.length_filter_le _ _) ?_
  simp
theorem c_closable (hx : Read v x ds) (hd : ds.length ≤ 4) (hy : Read v y fs) (hf : ∀ f ∈ fs, f.params.length ≤ 3) (hl : fs.length ≤ 4) : Mk Try.prog 87 #[.agg #[x.val, y.val], .int .i64 t] v fun r J => ∃ z : Sl, r = z.val ∧ Own v z (closU ds fs t fs.length) J := by
  refine of87 _ _ _ _ _ ?_
  unfold vc87
  have hyn := hy.n
  refine St.build (α := Int) (l := []) (St.refl v) VsOf.nil rfl (by decide) ?_
  intro z w J hO hS hs
  refine ⟨_, rfl, ?_⟩
  refine ⟨fun z i w => ∃ I, Own v z (closU ds fs t i.toNat) I ∧ St v w (I ++ []) ∧ 0 ≤ i ∧ i ≤ fs.length, fun _ i _ => (fs.length - i).toNat, ⟨J, hO, hS, by omega, by omega⟩, ?_⟩
  clear hO hS hs
  rintro z i w ⟨I, hO, hS, i0, i1⟩
  dsimp only
  refine ⟨fun hi => ?_, fun hi => ?_⟩
  · simp only [bls] at hi
    have hil : i < fs.length := by omega
    obtain ⟨f1, k1, e1, e2, e3, e4, e5, j1, j2, j3, r1, r2⟩ := (hy.src hS.sub).ofFunD i0 hil
    have hn1 := r1.n
    have hpl := hf _ (nth_mem (l := fs) i0 hil)
    have hsu := closU_succ (ds := ds) (fs := fs) (t := t) i i0
    have hcl := closU_len (ds := ds) (fs := fs) (t := t) i.toNat
    have hix := hy.ix i0 hil
    refine ⟨hix, f1, e1, fun _ => hix, f1, fun _ => e1, ?_⟩
    refine go_wrg ?_ ?_
    · intro hc
      simp only [bls] at hc
      constructor <;> omega
    refine ⟨fun hc => r1.ix (by simp only [bls] at hc; omega) (by omega), nth (nth fs i).params ((f1.n : Int) - 1), fun hc => ((r1.mono hS.sub).int (by simp only [bls] at hc; omega) (by omega)).1, fun _ => hix, _, fun _ => e2, _, fun hc => c_arrowOf (hx.mono hS.sub) hd, fun hc => ?_, fun hc => ?_⟩
    · simp only [bls] at hc
      refine St.build (α := Int) (l := [i]) hS (by (repeat' (first | exact VsOf.nil | apply VsOf.cons | (apply VOf.int; first | assumption | (constructor <;> first | omega | (simp only [List.length_set, List.length_append, List.length_replicate, List.length_cons, List.length_nil, List.length_take, List.length_drop, List.length_map, List.length_singleton] at *; omega))) | exact VOf.bool | exact VOf.str))) rfl (by decide) ?_
      intro x4 w4 I4 hO4 hS hs
      refine ⟨_, rfl, ?_⟩
      refine Own.append hO hS (Own.src hO4 hS) (by simp; omega) (by decide) ?_
      intro x5 w5 I5 hO5 hS
      refine ⟨_, rfl, ?_⟩
      refine go_wr (by omega) (by omega) ?_
      refine ⟨rfl, rfl, ⟨I5, ?_, hS.to, by omega, by omega⟩, by omega⟩
      rw [hsu, if_pos (pB_t ⟨by omega, by rw [← hn1]; exact hc.2⟩)]
      exact hO5
    · simp only [bls] at hc
      refine go_wr (by omega) (by omega) ?_
      refine ⟨rfl, rfl, ⟨I, ?_, hS, by omega, by omega⟩, by omega⟩
      rw [hsu, if_neg]
      · simpa using hO
      · intro hh
        obtain ⟨g1, g2⟩ := pB_iff.1 hh
        rw [← hn1] at g2
        rcases hc with hc | hc
        · omega
        · exact hc g2
  · simp only [bls] at hi
    have e : i = fs.length := by omega
    subst e
    exact ⟨I, by simpa using hS, z, rfl, by simpa using hO⟩
theorem gs_closable (hp : PrgG u R x y ds fs) (h : GS u a R m w) {K : Sl → World → Prop} (k : ∀ z w' u', Sub u u' → Sub w w' → GS u' a R m w' → Read u' z (closU ds fs t fs.length) → K z w') :
    Trip Try.prog 87 #[.agg #[x.val, y.val], .int .i64 t] w fun r w' => ∃ z : Sl, r = z.val ∧ K z w' := by
  refine gs_mkw (G := fun l => l = closU ds fs t fs.length) ((c_closable (hp.rx.mono h.sub) hp.gd.len.2 (hp.fsr h) (fun f hf => (sig_facts (hp.gf.2.2 f hf)).1) hp.gf.2.1).mono' ?_) h fun z l w' u' h1 h2 h3 h4 h5 => k z w' u' h1 h2 h3 (h5 ▸ h4)
  rintro r w' ⟨J, hS, z, rfl, hO⟩
  exact ⟨J, hS, z, _, rfl, hO, rfl⟩
theorem c_canMake (hx : Read v x ds) (hd : ds.length ≤ 4) (hy : Read v y fs) (hf : ∀ f ∈ fs, f.params.length ≤ 3) (hl : fs.length ≤ 4) (hz : Read v z vars) : ∃ q, Fn Try.prog 83 #[.agg #[x.val, y.val], z.val, .int .i64 t] v (.bool q) := by
  obtain ⟨q1, _, hq1⟩ := c_isArrow (n := t) hx hd
  refine ⟨!q1 || (decide (((closU ds fs t fs.length).length : Int) > 0) || decide (t ∈ vars)), ?_⟩
  refine of83 _ _ _ _ _ _ ?_
  unfold vc83
  refine ⟨q1, hq1, fun hc => ?_, fun hc => ⟨by rw [hc]; rfl, .refl v⟩⟩
  refine Mk.use (c_closable hx hd hy hf hl) (.refl v) ?_
  rintro _ w' J ⟨s, rfl, hO⟩ hS hs
  refine ⟨_, rfl, _, fun _ => c_specIsIn (hz.mono hs), ?_, hs⟩
  have e := hO.n
  rw [hc, e]
  rfl
theorem gs_canMake (hp : PrgG u R x y ds fs) (h : GS u a R m w) (hz : Read u z vars) (t : Int) : ∃ q, Fn Try.prog 83 #[.agg #[x.val, y.val], z.val, .int .i64 t] w (.bool q) :=
  c_canMake (hp.rx.mono h.sub) hp.gd.len.2 (hp.fsr h) (fun f hf => (sig_facts (hp.gf.2.2 f hf)).1) hp.gf.2.1 (hz.mono h.sub)
theorem gs_canMakeV (hp : PrgG u R x y ds fs) (h : GS u a R m w) (hz : VrG u R z vars) (t : Int) : ∃ q, Fn Try.prog 83 #[.agg #[x.val, y.val], z.val, .int .i64 t] w (.bool q) :=
  c_canMake (hp.rx.mono h.sub) hp.gd.len.2 (hp.fsr h) (fun f hf => (sig_facts (hp.gf.2.2 f hf)).1) hp.gf.2.1 (hz.rd h)
theorem c_varsOfType (hz : Read v z vars) (hl : vars.length ≤ 1000) : Mk Try.prog 82 #[z.val, .int .i64 t] v fun r J => ∃ (s : Sl) (l : List Int), r = s.val ∧ Own v s l J ∧ (l.length ≤ 1000 ∧ ∀ i ∈ l, 0 ≤ i ∧ i < vars.length) := by
  refine of82 _ _ _ _ ?_
  unfold vc82
  have hzn := hz.n
  refine St.build (α := Int) (l := []) (St.refl v) VsOf.nil rfl (by decide) ?_
  intro s w J hO hS hs
  refine ⟨_, rfl, ?_⟩
  refine ⟨fun s i w => ∃ (I : Items) (l : List Int), Own v s l I ∧ St v w (I ++ []) ∧ 0 ≤ i ∧ i ≤ vars.length ∧ (l.length : Int) ≤ i ∧ ∀ k ∈ l, 0 ≤ k ∧ k < vars.length, fun _ i _ => (vars.length - i).toNat, ⟨J, [], hO, hS, by omega, by omega, by simp, by simp⟩, ?_⟩
  clear hO hS hs
  rintro s i w ⟨I, l, hO, hS, i0, i1, hle, hm⟩
  dsimp only
  refine ⟨fun hi => ?_, fun hi => ?_⟩
  · simp only [bls] at hi
    refine go_ix hz i0 (by omega) ?_
    refine ⟨_, ((hz.mono hS.sub).int i0 (by omega)).1, fun hc => ?_, fun hc => ?_⟩
    · refine St.build (α := Int) (l := [i]) hS (by (repeat' (first | exact VsOf.nil | apply VsOf.cons | (apply VOf.int; first | assumption | (constructor <;> first | omega | (simp only [List.length_set, List.length_append, List.length_replicate, List.length_cons, List.length_nil, List.length_take, List.length_drop, List.length_map, List.length_singleton] at *; omega))) | exact VOf.bool | exact VOf.str))) rfl (by decide) ?_
      intro x4 w4 I4 hO4 hS hs
      refine ⟨_, rfl, ?_⟩
      refine Own.append hO hS (Own.src hO4 hS) (by simp; omega) (by decide) ?_
      intro x5 w5 I5 hO5 hS
      refine ⟨_, rfl, ?_⟩
      refine go_wr (by omega) (by omega) ?_
      refine ⟨⟨I5, _, hO5, hS.to, by omega, by omega, by simp; omega, fun k hk => ?_⟩, by omega⟩
      rcases List.mem_append.1 hk with hk | hk
      · exact hm k hk
      · rw [List.mem_singleton.1 hk]; omega
    · refine go_wr (by omega) (by omega) ?_
      exact ⟨⟨I, l, hO, hS, by omega, by omega, by omega, hm⟩, by omega⟩
  · simp only [bls] at hi
    exact ⟨I, by simpa using hS, s, l, rfl, hO, by omega, hm⟩
end
end Go.Vc

namespace Go.Vc
open Go Go.Proofs Go.RowKit
set_option linter.all false
def SmC (t P N : Int) : Prop := ∀ (V : Nat) (u : World) (a : Addr) (R : Items) (x y : Sl) (ds : List DeclD) (fs : List FunD) (m : Int) (w : World), PrgG u R x y ds fs → m + P ≤ 999900000 → GS u a R m w →
  Trip Try.prog 84 #[.pointer (some (a.add 0)), .agg #[x.val, y.val], .int .i64 t] w fun r w' => ∃ n1 n2 z, r = .agg #[.int .i64 n1, .int .i64 n2, Sl.val z] ∧ GQ ⟨ds, fs.length, V⟩ u a R (m + P) N n1 n2 z w'
section
variable {C : CxE} {u u' v w : World} {x y z s : Sl} {ds : List DeclD} {fs : List FunD} {a : Addr} {I J L R : Items} {F : Items → Items} {m m' N N' n n1 n2 op num t b : Int} {l vars : List Int} {ks : List ExprD} {e : ExprD}
theorem gs_fin (h : GS u' a (J ++ R) m w) (hO : Own u' z ks J) (hu : Sub u u') (hc : cL C ks) (hok : okS C op num ks.length) (hN : 1 + (nodesL ks : Int) ≤ N) : GQ C u a R m N op num z w := by
  obtain ⟨u2, hu2, h2, hJ⟩ := h.freeze
  exact ⟨u2, hu.trans hu2, h2, EV.mk (hO.read1 hJ) hc hok hN⟩
theorem gs_finE (h : GS u' a (J ++ R) m w) (hO : Own u' z ks J) (hu : Sub u u') (hc : cE C ⟨op, num, ks⟩) (hN : 1 + (nodesL ks : Int) ≤ N) : GQ C u a R m N op num z w := by
  obtain ⟨u2, hu2, h2, hJ⟩ := h.freeze
  exact ⟨u2, hu.trans hu2, h2, EV.of (hO.read1 hJ) hc hN⟩
theorem ok_con {k : Nat} (h0 : 0 ≤ n) (h1 : n < 13) : okS C 6 n k := ⟨by rw [okN_iff]; omega, by decide, by decide, by decide, by omega, by omega⟩
theorem ok_call {k : Nat} (h0 : 0 ≤ n) (h1 : n < 13) (h2 : n < C.nf) : okS C 9 n k := ⟨by rw [okN_iff]; omega, by decide, by decide, by decide, by omega, fun _ => ⟨h0, h2⟩⟩
theorem ok_close {k : Nat} (h0 : 0 ≤ n) (h1 : n < 13) (h2 : n < C.nf) : okS C 10 n k := ⟨by rw [okN_iff]; omega, by decide, by decide, by decide, by omega, fun _ => ⟨h0, h2⟩⟩
theorem ok_zero {k : Nat} (h : n = 1 ∨ n = 2 ∨ n = 3 ∨ n = 4 ∨ n = 5 ∨ n = 7 ∨ n = 11) (hk : 1 ≤ k) : okS C n 0 k := ⟨by rw [okN_iff]; omega, by omega, by omega, by omega, fun _ => hk, by omega⟩
theorem nodesL_snoc : nodesL (ks ++ [e]) = nodesL ks + nodesE e := by rw [nodesL_app, nodesL_cons, nodesL_nil]; omega
theorem smallest_go (t : Int) (hti : InI t) (A : Int → Prop) (K : Nat) (hK : K ≤ 3) (hA : ∀ p, A p → SmC p 5 1)
    (hcon : ∀ ds, GD ds → (∀ n ∈ consL ds t, t ∉ conF ds n → (conF ds n).length ≤ K ∧ ∀ p ∈ conF ds n, A p) ∧ (0 < (consL ds t).length → (conF ds (nth (consL ds t) 0)).length ≤ K ∧ ∀ p ∈ conF ds (nth (consL ds t) 0), A p))
    (hclo : ∀ ds f, GD ds → (f.params, f.result) ∈ sigsG → 0 < t → (consL ds t).length = 0 → clos1 ds f t → f.params.length ≤ K + 1 ∧ ∀ i : Int, 0 ≤ i → i + 1 < f.params.length → A (nth f.params i)) : SmC t (5 + 5 * K) (1 + K) := by
  intro V u a R x y ds fs m w hp hm h
  refine of84 _ _ _ _ _ _ ?_
  unfold vc84
  have hty := hp.gd.types
  obtain ⟨hc1, hc2⟩ := hcon ds hp.gd
  refine gs_consOf hp hti h fun xc w1 u1 hu1 hs1 h hxc => ?_
  have hcn := hxc.n
  have hp1 := hp.mono hu1
  refine ⟨fun hc => ?_, fun hc => ?_⟩
  · simp only [bls] at hc
    refine go_ix hxc (by omega) (by omega) ?_
    refine ⟨_, ((hxc.mono h.sub).int (by omega) (by omega)).1, ?_⟩
    have hm0 : nth (consL ds t) 0 ∈ consL ds t := nth_mem (by omega) (by omega)
    refine ⟨fun n w => n ∈ consL ds t ∧ GS u1 a R (m + 1) w, ⟨fun hc => ?_, fun hc => ⟨rfl, rfl, rfl, rfl, rfl, hm0, h.le (by omega)⟩⟩, ?_⟩
    · simp only [bls] at hc
      refine gs_pick h (by omega) (by omega) (by omega) fun j w2 h _ _ _ => ⟨fun hc2 => ?_, fun hc2 => ⟨rfl, rfl, rfl, rfl, rfl, hm0, h⟩⟩
      refine go_ix hxc (by omega) (by omega) ?_
      exact ⟨_, ((hxc.mono h.sub).int (by omega) (by omega)).1, rfl, rfl, rfl, rfl, rfl, nth_mem (by omega) (by omega), h⟩
    rintro n1 w2 ⟨hn1, h⟩
    have hcN := consL_num hty t
    refine ⟨fun n w => (n ∈ consL ds t ∧ (conF ds n).length ≤ K ∧ ∀ p ∈ conF ds n, A p) ∧ ∃ u2, Sub u1 u2 ∧ GS u2 a R (m + 1) w, ?_, ?_⟩
    · have := hcN n1 hn1
      refine gs_conFields hp1 ⟨by omega, by omega⟩ h fun xf w3 u3 hu3 hs3 h hxf => ?_
      refine ⟨_, c_specIsIn (hxf.mono h.sub), fun hq => ?_, fun hq => ?_⟩
      · have hxc3 := hxc.mono hu3
        refine go_ix hxc (by omega) (by omega) ?_
        exact ⟨_, ((hxc3.mono h.sub).int (by omega) (by omega)).1, rfl, rfl, rfl, rfl, rfl, ⟨hm0, hc2 (by omega)⟩, u3, hu3, h⟩
      · simp only [bls] at hq
        exact ⟨rfl, rfl, rfl, rfl, rfl, ⟨hn1, hc1 _ hn1 hq⟩, u3, hu3, h⟩
    rintro n2 w3 ⟨⟨hn2, hl2, hA2⟩, u2, hu2, h⟩
    dsimp only
    have hnn := hcN n2 hn2
    refine gs_kids0 h fun x4 w4 J4 h hs4 hO => ?_
    have hp2 := (hp1.mono hu2).app J4
    refine gs_conFields hp2 ⟨by omega, by omega⟩ h fun xf w5 u5 hu5 hs5 h hxf => ?_
    have hfn := hxf.n
    refine ⟨fun z i w => ∃ (u6 : World) (J : Items) (ks : List ExprD), Sub u5 u6 ∧ GS u6 a (J ++ R) (m + 1 + 5 * i) w ∧ Own u6 z ks J ∧ cL ⟨ds, fs.length, V⟩ ks ∧ (nodesL ks : Int) ≤ i ∧ (ks.length : Int) = i ∧ 0 ≤ i ∧ i ≤ (conF ds n2).length, fun _ i _ => ((conF ds n2).length - i).toNat, ⟨u5, J4, [], .refl _, by simpa using h, hO.mono hu5, cL_nil, by rw [nodesL_nil]; omega, rfl, by omega, by omega⟩, ?_⟩
    rintro z i w6 ⟨u6, J6, ks, hu6, h, hO, hcl, hnl, hkl, i0, i1⟩
    dsimp only
    refine ⟨fun hi => ?_, fun hi => ?_⟩
    · simp only [bls] at hi
      have hil : i < (conF ds n2).length := by omega
      refine go_ix hxf i0 hil ?_
      refine ⟨_, ((hxf.mono (hu6.trans h.sub)).int i0 hil).1, ?_⟩
      refine use_e (hA _ (hA2 _ (nth_mem i0 hil)) V u6 a (J6 ++ R) x y ds fs _ _ (((hp1.mono hu2).mono (hu5.trans hu6)).app J6) (by omega) h) ?_
      rintro n1 n2 xk w7 ⟨u7, hu7, h, e, rfl, rfl, hr, hce, hne⟩
      refine gs_push h (hO.mono hu7) hr hce (by omega) fun x' w8 J8 h hO => ?_
      refine go_wr (by omega) (by omega) ?_
      refine ⟨rfl, rfl, rfl, rfl, rfl, ⟨u7, J8, _, hu6.trans hu7, h.le (by omega), hO, cL_snoc hcl hce, by rw [nodesL_snoc]; omega, by simp; omega, by omega, by omega⟩, by omega⟩
    · simp only [bls] at hi
      refine gs_node ?_
      exact ⟨_, _, _, rfl, gs_fin (h.le (by omega)) hO ((hu1.trans hu2).trans (hu5.trans hu6)) hcl (ok_con hnn.1 hnn.2) (by omega)⟩
  · simp only [bls] at hc
    refine gs_closable hp1 h fun xl w2 u2 hu2 hs2 h hxl => ?_
    have hln := hxl.n
    have hp2 := hp1.mono hu2
    refine ⟨fun hc2 => ?_, fun hc2 => ?_⟩
    · simp only [bls] at hc2
      have hul := closU_len (ds := ds) (fs := fs) (t := t) fs.length
      have hfl := hp.gf.2.1
      refine gs_pick h (by omega) (by omega) (by omega) fun j w3 h j0 j1 _ => ?_
      refine go_ix hxl j0 (by omega) ?_
      refine ⟨_, ((hxl.mono h.sub).int j0 (by omega)).1, ?_⟩
      obtain ⟨f0, f1, f2⟩ := closU_mem (nth_mem (l := closU ds fs t fs.length) j0 (by omega))
      generalize nth (closU ds fs t fs.length) j = f at f0 f1 f2 ⊢
      have f1 : f < fs.length := f1
      obtain ⟨g1, g2, e1, _, _, _, _, _, _, _, r1, _⟩ := (hp2.src h).ofFunD f0 f1
      have hyf := hp2.fsr h
      have hg1 := r1.n
      refine go_ix hyf f0 f1 ?_
      refine ⟨g1, e1, ?_⟩
      obtain ⟨hk1, hk2⟩ := hclo ds (nth fs f) hp.gd (hp.gf.mem f0 f1) (by omega) (by omega) f2
      refine gs_kids0 h fun x4 w4 J4 h hs4 hO => ?_
      refine ⟨fun z i w => ∃ (u6 : World) (J : Items) (ks : List ExprD), Sub u2 u6 ∧ GS u6 a (J ++ R) (m + 1 + 5 * i) w ∧ Own u6 z ks J ∧ cL ⟨ds, fs.length, V⟩ ks ∧ (nodesL ks : Int) ≤ i ∧ (ks.length : Int) = i ∧ 0 ≤ i ∧ i ≤ K, fun _ i _ => (K - i).toNat, ⟨u2, J4, [], .refl _, by simpa using h, hO, cL_nil, by rw [nodesL_nil]; omega, rfl, by omega, by omega⟩, ?_⟩
      rintro z i w6 ⟨u6, J6, ks, hu6, h, hO, hcl, hnl, hkl, i0, i1⟩
      dsimp only
      refine go_wr (by omega) (by omega) ?_
      refine ⟨fun hi => ?_, fun hi => ?_⟩
      · simp only [bls] at hi
        have hil : i + 1 < (nth fs f).params.length := by omega
        have r1' : Read u6 g1 (nth fs f).params := r1.mono hu6
        refine go_ix r1' i0 (by omega) ?_
        refine ⟨_, ((r1'.mono h.sub).int i0 (by omega)).1, ?_⟩
        refine use_e (hA _ (hk2 i i0 hil) V u6 a (J6 ++ R) x y ds fs _ _ ((hp2.mono hu6).app J6) (by omega) h) ?_
        rintro n1 n2 xk w7 ⟨u7, hu7, h, e, rfl, rfl, hr, hce, hne⟩
        refine gs_push h (hO.mono hu7) hr hce (by omega) fun x' w8 J8 h hO => ?_
        refine go_wr (by omega) (by omega) ?_
        refine ⟨rfl, rfl, rfl, rfl, rfl, ⟨u7, J8, _, hu6.trans hu7, h.le (by omega), hO, cL_snoc hcl hce, by rw [nodesL_snoc]; omega, by simp; omega, by omega, by omega⟩, by omega⟩
      · simp only [bls] at hi
        refine gs_node ?_
        exact ⟨_, _, _, rfl, gs_fin (h.le (by omega)) hO ((hu1.trans hu2).trans hu6) hcl (ok_close f0 (by omega) f1) (by omega)⟩
    · refine gs_someInt h (by omega) fun j w3 u3 hu3 h j0 j1 => ?_
      refine gs_int (C := ⟨ds, fs.length, V⟩) h j0 j1 fun n1 n2 x4 w4 u4 hu4 hs4 h he => ?_
      exact ⟨_, _, _, rfl, u4, (hu1.trans hu2).trans (hu3.trans hu4), h.le (by omega), he.le (by omega)⟩
theorem c_smallLow (ht : lowT t) : SmC t 5 1 := by
  have key := smallest_go t ⟨by unfold lowT at ht; omega, by unfold lowT at ht; omega⟩ (fun _ => False) 0 (by omega) (fun _ h => h.elim) (fun ds hd => ?_) (fun ds f hd hf h0 hl hc => ?_)
  · exact key
  · unfold lowT at ht
    rcases ht with rfl | h13
    · rw [consL_none (by omega)]
      exact ⟨fun n hn => (by cases hn), fun h => (by simp at h)⟩
    · obtain ⟨h1, h2, h3⟩ := hd.low h13
      refine ⟨fun n hn hh => ?_, fun _ => by rw [h2]; simp⟩
      obtain ⟨k, hk, rfl⟩ := List.getElem_of_mem hn
      have : k = 0 ∨ k = 1 := by omega
      rcases this with rfl | rfl
      · rw [nth_of (a := (consL ds t)[0]) (by simp [List.getElem?_eq_getElem hk])] at h2
        rw [h2]; simp
      · rw [nth_of (a := (consL ds t)[1]) (by simp [List.getElem?_eq_getElem hk])] at h3
        exact absurd h3 hh
  · unfold lowT at ht
    have h13 : t = 1 ∨ t = 3 := by omega
    have := (hd.low h13).1
    omega
theorem c_smallest (h0 : 0 ≤ t) (h1 : t ≤ 4) : SmC t 20 4 := by
  by_cases ht : lowT t
  · intro V u a R x y ds fs m w hp hm h
    refine (c_smallLow ht V u a R x y ds fs m w hp (by omega) h).mono' ?_
    rintro _ w' ⟨n1, n2, z, rfl, hq⟩
    exact ⟨_, _, _, rfl, hq.le (.refl _) (by omega) (by omega)⟩
  · refine smallest_go t ⟨by omega, by omega⟩ lowT 3 (by omega) (fun p hp => c_smallLow hp) (fun ds hd => ?_) (fun ds f hd hf h0 hl hc => ?_)
    · refine ⟨fun n hn _ => ⟨conF_len3 hd.types n, hd.high ht hn⟩, fun hl => ?_⟩
      exact ⟨conF_len3 hd.types _, hd.high ht (nth_mem (by omega) (by omega))⟩
    · exact ⟨by have := (sig_facts hf).1; simp only [] at this; omega, fun i i0 i1 => clos_low hd hf h0 hc i0 i1⟩
end
end Go.Vc

namespace Go.Vc
open Go Go.Proofs Go.RowKit
set_option linter.all false
def GenC (b : Int) : Prop := ∀ (u : World) (a : Addr) (R : Items) (x y z : Sl) (ds : List DeclD) (fs : List FunD) (vars : List Int) (t m : Int) (w : World), PrgG u R x y ds fs → VrG u R z vars → vars.length + 4 * b ≤ 99 → vars.length ≤ 99 → 0 ≤ t → t ≤ 4 → m + Pg b ≤ 999900000 → GS u a R m w →
  Trip Try.prog 31 #[.pointer (some (a.add 0)), .agg #[x.val, y.val], z.val, .int .i64 t, .int .i64 b] w fun r w' => ∃ n1 n2 s, r = .agg #[.int .i64 n1, .int .i64 n2, Sl.val s] ∧ GQ ⟨ds, fs.length, vars.length⟩ u a R (m + Pg b) (Pg b) n1 n2 s w'
theorem Pg_pos (b : Int) : 30 ≤ Pg b := by unfold Pg; split <;> omega
theorem Pg_at {b : Int} (h : 1 ≤ b) : Pg b = 130 * b - 100 := by unfold Pg; rw [if_neg (by omega)]
theorem tdiv_pos {b n : Int} (h0 : 0 ≤ b) (hn : 1 ≤ n) : 0 ≤ b.tdiv n ∧ b.tdiv n ≤ b := ⟨Int.tdiv_nonneg h0 (by omega), Int.tdiv_le_self _ h0⟩
theorem Pg_split {b n : Int} (h0 : 0 ≤ b) (hn : n = 0 ∨ n = 1 ∨ n = 2 ∨ n = 3) : n * Pg (b.tdiv n) ≤ 90 ∨ n * Pg (b.tdiv n) ≤ 130 * b - 100 := by
  rcases hn with rfl | rfl | rfl | rfl
  · left; simp
  · rw [Int.tdiv_one]; unfold Pg; split <;> omega
  · rw [Int.tdiv_eq_ediv_of_nonneg h0]; unfold Pg; split <;> omega
  · rw [Int.tdiv_eq_ediv_of_nonneg h0]; unfold Pg; split <;> omega
section
variable {u u' v w : World} {x y z s : Sl} {ds : List DeclD} {fs : List FunD} {a : Addr} {I J L R : Items} {F : Items → Items} {m m' N N' n n1 n2 op num t b : Int} {l vars types : List Int} {ks : List ExprD} {e : ExprD}
theorem GD.decl {ds : List DeclD} (h : GD ds) : ∀ d ∈ ds, 0 ≤ d.frm ∧ d.frm ≤ 4 ∧ 0 ≤ d.to_ ∧ d.to_ ≤ 4 := by
  rcases h.cases with rfl | rfl | rfl | rfl | rfl <;> decide
theorem c_leaf (hp : PrgG u R x y ds fs) (hv : VrG u R z vars) (hvl : vars.length ≤ 99) (t0 : 0 ≤ t) (t1 : t ≤ 4) (hm : m + 30 ≤ 999900000) (h : GS u a R m w) :
    Trip Try.prog 58 #[.pointer (some (a.add 0)), .agg #[x.val, y.val], z.val, .int .i64 t] w fun r w' => ∃ n1 n2 s, r = .agg #[.int .i64 n1, .int .i64 n2, Sl.val s] ∧ GQ ⟨ds, fs.length, vars.length⟩ u a R (m + 25) 4 n1 n2 s w' := by
  refine of58 _ _ _ _ _ _ _ ?_
  unfold vc58
  refine gs_mkw (c_varsOfType (hv.rd h) (by omega)) h fun xl l w1 u1 hu1 hs1 h hxl ⟨hl1, hl2⟩ => ?_
  have hln := hxl.n
  have hp1 := hp.mono hu1
  refine ⟨fun q w => (q = true → 0 < l.length) ∧ ∃ u2, Sub u1 u2 ∧ GS u2 a R (m + 1) w, ⟨fun hc => ?_, fun hc => ⟨rfl, rfl, rfl, rfl, rfl, fun h => (by cases h), u1, .refl _, h.le (by omega)⟩⟩, ?_⟩
  · simp only [bls] at hc
    refine gs_pick h (by omega) (by omega) (by omega) fun j w2 h _ _ _ => ⟨fun hc2 => ?_, fun hc2 => ?_⟩
    · refine gs_ints (l := []) h VsOf.nil rfl (by decide) fun x3 w3 u3 hu3 hs3 h hx3 => ?_
      obtain ⟨q, hq⟩ := gs_canMake (hp1.mono hu3) h hx3 t
      exact ⟨q, fun _ => hq, rfl, rfl, rfl, rfl, rfl, fun _ => by omega, u3, hu3, h⟩
    · refine ⟨false, fun hh => ?_, rfl, rfl, rfl, rfl, rfl, fun _ => by omega, u1, .refl _, h⟩
      rw [hc2] at hh; cases hh
  rintro q w2 ⟨hq, u2, hu2, h⟩
  refine ⟨fun hc => ?_, fun hc => ?_⟩
  · have hpos := hq hc
    refine gs_pick h (by omega) (by omega) (by omega) fun j w3 h j0 j1 _ => ?_
    have hxl2 := hxl.mono hu2
    refine go_ix hxl2 j0 (by omega) ?_
    refine ⟨_, ((hxl2.mono h.sub).int j0 (by omega)).1, ?_⟩
    have hlt := hl2 _ (nth_mem (l := l) j0 (by omega))
    refine gs_var (C := ⟨ds, fs.length, vars.length⟩) h hlt.1 (by omega) hlt.2 fun n1 n2 x4 w4 u4 hu4 hs4 h he => ?_
    exact ⟨_, _, _, rfl, u4, (hu1.trans hu2).trans hu4, h.le (by omega), he.le (by omega)⟩
  · refine use_e (c_smallest t0 t1 vars.length u2 a R x y ds fs _ _ (hp1.mono hu2) (by omega) h) ?_
    intro n1 n2 x3 w3 hq3
    exact ⟨_, _, _, rfl, hq3.le (hu1.trans hu2) (by omega) (by omega)⟩
theorem gs_anyType (hp : PrgG u R x y ds fs) (hv : VrG u R z vars) (hm : m ≤ 999900000) (h : GS u a R m w) {K : Int → World → Prop} (k : ∀ j w' u', Sub u u' → GS u' a R (m + 1) w' → 0 ≤ j → j ≤ 4 → K j w') :
    Trip Try.prog 59 #[.pointer (some (a.add 0)), .agg #[x.val, y.val], z.val] w fun r w' => ∃ j, r = .int .i64 j ∧ K j w' := by
  refine of59 _ _ _ _ _ _ ?_
  unfold vc59
  refine gs_ints h (by (repeat' (first | exact VsOf.nil | apply VsOf.cons | (apply VOf.int; first | assumption | (constructor <;> first | omega | (simp only [List.length_set, List.length_append, List.length_replicate, List.length_cons, List.length_nil, List.length_take, List.length_drop, List.length_map, List.length_singleton] at *; omega))) | exact VOf.bool | exact VOf.str))) rfl (by decide) fun x1 w1 u1 hu1 hs1 h hx1 => ?_
  refine gs_one h hx1 (by omega) (by simp) (by simp) fun j w2 h hj => ?_
  have hj4 : 0 ≤ j ∧ j ≤ 4 := by simp only [List.mem_cons, List.not_mem_nil, or_false] at hj; omega
  obtain ⟨q, hq⟩ := gs_canMakeV (hp.mono hu1) h (hv.mono hu1) j
  exact ⟨q, fun _ => hq, fun _ => ⟨_, rfl, k 1 w2 u1 hu1 h (by omega) (by omega)⟩, fun _ => ⟨_, rfl, k j w2 u1 hu1 h hj4.1 hj4.2⟩⟩
theorem c_callable (hx : Read v x ds) (hd : ds.length ≤ 4) (hy : Read v y fs) (hf : ∀ f ∈ fs, f.params.length ≤ 3) (hl : fs.length ≤ 4) : Mk Try.prog 62 #[.agg #[x.val, y.val], .int .i64 t] v fun r J => ∃ (s : Sl) (l : List Int), r = s.val ∧ Own v s l J ∧ (l.length ≤ 1000 ∧ ∀ i ∈ l, 1 ≤ i ∧ i < fs.length) := by
  refine of62 _ _ _ _ _ ?_
  unfold vc62
  have hyn := hy.n
  refine St.build (α := Int) (l := []) (St.refl v) VsOf.nil rfl (by decide) ?_
  intro s w J hO hS hs
  refine ⟨_, rfl, ?_⟩
  refine ⟨fun s i w => ∃ (I R : Items) (l : List Int), Own v s l I ∧ St v w (I ++ R) ∧ 1 ≤ i ∧ i ≤ 5 ∧ (l.length : Int) ≤ i ∧ ∀ k ∈ l, 1 ≤ k ∧ k < fs.length, fun _ i _ => (fs.length - i).toNat, ⟨J, [], [], hO, hS, by omega, by omega, by simp, by simp⟩, ?_⟩
  clear hO hS hs
  rintro s i w ⟨I, R, l, hO, hS, i0, i1, hle, hm⟩
  dsimp only
  refine ⟨fun hi => ?_, fun hi => ?_⟩
  · simp only [bls] at hi
    have hil : i < fs.length := by omega
    have h0 : 0 ≤ i := by omega
    obtain ⟨f1, k1, e1, e2, _, _, _, _, _, _, r1, _⟩ := (hy.src (.refl v)).ofFunD h0 hil
    have hn1 := r1.n
    have hix := hy.ix h0 hil
    have hpl := hf _ (nth_mem (l := fs) h0 hil)
    have cell : ∀ {w : World} {p : Addr} {c : Value}, Sub v w → v.cell? p = some c → w.cell? p = some c := fun hs h => cell_sub hs h
    refine ⟨hix, _, cell hS.sub e2, ?_⟩
    refine ⟨fun q k w => ∃ R, St v w (I ++ R) ∧ 0 ≤ k ∧ k ≤ 3, fun _ k _ => (f1.n - k).toNat, ⟨R, hS, by omega, by omega⟩, ?_⟩
    rintro q k w1 ⟨R1, hS1, k0, k1⟩
    dsimp only
    refine ⟨hix, f1, cell hS1.sub e1, fun hk => ?_, fun hk => ?_⟩
    · simp only [bls] at hk
      refine ⟨fun _ => hix, f1, fun _ => cell hS1.sub e1, fun _ => r1.ix k0 (by omega), _, fun _ => ((r1.mono hS1.sub).int k0 (by omega)).1, fun _ => ?_, fun _ => ?_⟩
      · refine St.build (α := Int) (l := []) hS1 VsOf.nil rfl (by decide) ?_
        intro x4 w4 I4 hO4 hS4 hs4
        obtain ⟨q, hq⟩ := c_canMake (z := x4) (t := nth (nth fs i).params k) (hx.mono hS4.sub) hd (hy.mono hS4.sub) hf hl (hO4.read hS4)
        refine ⟨_, rfl, hs4, q, hq, ?_⟩
        refine go_wr (by omega) (by omega) ?_
        exact ⟨rfl, rfl, ⟨I4 ++ R1, hS4.to, by omega, by omega⟩, by omega⟩
      · refine ⟨.refl _, ?_⟩
        refine go_wr (by omega) (by omega) ?_
        exact ⟨rfl, rfl, ⟨R1, hS1, by omega, by omega⟩, by omega⟩
    · refine ⟨fun hq => ?_, fun hq => ?_⟩
      · refine St.build (α := Int) (l := [i]) hS1 (by (repeat' (first | exact VsOf.nil | apply VsOf.cons | (apply VOf.int; first | assumption | (constructor <;> first | omega | (simp only [List.length_set, List.length_append, List.length_replicate, List.length_cons, List.length_nil, List.length_take, List.length_drop, List.length_map, List.length_singleton] at *; omega))) | exact VOf.bool | exact VOf.str))) rfl (by decide) ?_
        intro x4 w4 I4 hO4 hS hs
        refine ⟨_, rfl, ?_⟩
        refine Own.append hO hS (Own.src hO4 hS) (by simp; omega) (by decide) ?_
        intro x5 w5 I5 hO5 hS
        refine ⟨_, rfl, ?_⟩
        refine go_wr (by omega) (by omega) ?_
        refine ⟨rfl, rfl, ⟨I5, I4 ++ R1, _, hO5, hS.to, by omega, by omega, by simp; omega, fun k hk => ?_⟩, by omega⟩
        rcases List.mem_append.1 hk with hk | hk
        · exact hm k hk
        · rw [List.mem_singleton.1 hk]; omega
      · refine go_wr (by omega) (by omega) ?_
        exact ⟨rfl, rfl, ⟨I, R1, l, hO, hS1, by omega, by omega, by omega, hm⟩, by omega⟩
  · exact ⟨I, by simpa using (hS.to : St v w (I ++ [])), s, l, rfl, hO, by omega, hm⟩
end
end Go.Vc

namespace Go.Vc
open Go Go.Proofs Go.RowKit
set_option linter.all false
section
variable {u u' v w : World} {x y z s tx : Sl} {ds : List DeclD} {fs : List FunD} {a : Addr} {I J L R : Items} {F : Items → Items} {m m' N N' n n1 n2 op num t b : Int} {l vars types : List Int} {ks : List ExprD} {e : ExprD}
theorem nn_types (h : ∀ t ∈ l, 0 ≤ t ∧ t ≤ 4) {i : Int} (h0 : 0 ≤ i) (h1 : i < l.length) : 0 ≤ nth l i ∧ nth l i ≤ 4 := h _ (nth_mem h0 h1)
/-- expressions of some types -/
theorem gs_genAll (H : types.length ≠ 0 → GenC (b.tdiv types.length)) (hp : PrgG u R x y ds fs) (hv : VrG u R z vars) (hvl : vars.length ≤ 99) (htx : Read u tx types) (htl : types.length ≤ 3) (htt : ∀ t ∈ types, 0 ≤ t ∧ t ≤ 4) (b0 : 0 ≤ b) (b1 : b ≤ 100) (hvb : vars.length + 4 * b ≤ 99)
    (hm : m + types.length * Pg (b.tdiv types.length) ≤ 999900000) (h : GS u a R m w) {K : Sl → World → Prop}
    (k : ∀ s w' u' ks, Sub u u' → GS u' a R (m + types.length * Pg (b.tdiv types.length)) w' → Read u' s ks → cL ⟨ds, fs.length, vars.length⟩ ks → (nodesL ks : Int) ≤ types.length * Pg (b.tdiv types.length) → ks.length = types.length → K s w') :
    Trip Try.prog 60 #[.pointer (some (a.add 0)), .agg #[x.val, y.val], z.val, tx.val, .int .i64 b] w fun r w' => ∃ s : Sl, r = s.val ∧ K s w' := by
  refine of60 _ _ _ _ _ _ _ _ ?_
  unfold vc60
  have htn := htx.n
  generalize hP : Pg (b.tdiv types.length) = P at hm k
  have hPp : 30 ≤ P := by rw [← hP]; exact Pg_pos _
  refine gs_kids0 h fun x4 w4 J4 h hs4 hO => ?_
  refine ⟨fun s i w => ∃ (u6 : World) (J : Items) (ks : List ExprD), Sub u u6 ∧ GS u6 a (J ++ R) (m + i * P) w ∧ Own u6 s ks J ∧ cL ⟨ds, fs.length, vars.length⟩ ks ∧ (nodesL ks : Int) ≤ i * P ∧ (ks.length : Int) = i ∧ 0 ≤ i ∧ i ≤ types.length, fun _ i _ => (types.length - i).toNat, ⟨u, J4, [], .refl _, by simpa using h, hO, cL_nil, by rw [nodesL_nil]; omega, rfl, by omega, by omega⟩, ?_⟩
  clear h hO
  rintro s i w6 ⟨u6, J6, ks, hu6, h, hO, hcl, hnl, hkl, i0, i1⟩
  dsimp only
  refine ⟨fun hi => ?_, fun hi => ?_⟩
  · simp only [bls] at hi
    have hil : i < types.length := by omega
    have htd := tdiv_pos (b := b) (n := types.length) b0 (by omega)
    have hmul : (i + 1) * P = i * P + P := by rw [Int.add_mul]; omega
    have hle : (i + 1) * P ≤ types.length * P := Int.mul_le_mul_of_nonneg_right (by omega) (by omega)
    have htx6 := htx.mono hu6
    have htt6 := nn_types htt i0 hil
    refine go_ix htx6 i0 hil ?_
    refine ⟨_, ((htx6.mono h.sub).int i0 hil).1, ?_⟩
    refine go_quo (by omega) (by rw [htn]; omega) (by rw [htn]; omega) ?_
    rw [htn]
    refine use_e (H (by omega) u6 a (J6 ++ R) x y z ds fs vars _ _ _ ((hp.mono hu6).app J6) ((hv.mono hu6).app J6) (by omega) hvl htt6.1 htt6.2 (by rw [hP]; omega) h) ?_
    rw [hP]
    rintro n1 n2 xk w7 ⟨u7, hu7, h, e, rfl, rfl, hr, hce, hne⟩
    refine gs_push h (hO.mono hu7) hr hce (by omega) fun x' w8 J8 h hO => ?_
    refine go_wr (by omega) (by omega) ?_
    refine ⟨rfl, rfl, ⟨u7, J8, _, hu6.trans hu7, h.le (by omega), hO, cL_snoc hcl hce, by rw [nodesL_snoc]; omega, by simp; omega, by omega, by omega⟩, by omega⟩
  · simp only [bls] at hi
    have e : i = types.length := by omega
    subst e
    obtain ⟨u2, hu2, h2, hJ⟩ := h.freeze
    exact ⟨s, rfl, k s w6 u2 ks (hu6.trans hu2) h2 (hO.read1 hJ) hcl hnl (by omega)⟩
theorem c_genMatch (H : ∀ b', 0 ≤ b' → b' < b → GenC b') (hp : PrgG u R x y ds fs) (hv : VrG u R z vars) (hvl : vars.length ≤ 99) (b0 : 3 ≤ b) (b1 : b ≤ 100) (hvb : vars.length + 4 * b ≤ 99) (t0 : 0 ≤ t) (t1 : t ≤ 4) (hm : m + (Pg b - 10) ≤ 999900000) (h : GS u a R m w) :
    Trip Try.prog 61 #[.pointer (some (a.add 0)), .agg #[x.val, y.val], z.val, .int .i64 t, .int .i64 b] w fun r w' => ∃ n1 n2 s, r = .agg #[.int .i64 n1, .int .i64 n2, Sl.val s] ∧ GQ ⟨ds, fs.length, vars.length⟩ u a R (m + (Pg b - 10)) (Pg b) n1 n2 s w' := by
  refine of61 _ _ _ _ _ _ _ _ ?_
  unfold vc61
  have hxn := hp.rx.n
  have hty := hp.gd.types
  have hPb := Pg_at (b := b) (by omega)
  refine gs_ints h (by (repeat' (first | exact VsOf.nil | apply VsOf.cons | (apply VOf.int; first | assumption | (constructor <;> first | omega | (simp only [List.length_set, List.length_append, List.length_replicate, List.length_cons, List.length_nil, List.length_take, List.length_drop, List.length_map, List.length_singleton] at *; omega))) | exact VOf.bool | exact VOf.str))) rfl (by decide) fun x1 w1 u1 hu1 hs1 h hx1 => ?_
  refine gs_one h hx1 (by omega) (by simp) (by simp) fun d w2 h hj => ?_
  have hd4 : 1 ≤ d ∧ d ≤ 4 := by simp only [List.mem_cons, List.not_mem_nil, or_false] at hj; omega
  have hp1 := hp.mono hu1
  have hv1 := hv.mono hu1
  obtain ⟨q, hq1, hq⟩ := c_isArrow (n := d) (hp1.rx.mono h.sub) hp.gd.len.2
  -- a match of a value of a type
  have go : ∀ d : Int, 1 ≤ d → d ≤ 4 → Trip Try.prog 75 #[x.val, .int .i64 d] w2 fun r10 w11 =>
          ∃ x12 : Sl, r10 = x12.val ∧
          Trip Try.prog 58 #[.pointer (some (a.add 0)), .agg #[x.val, y.val], z.val, .int .i64 d] w11 fun r13 w14 =>
            ∃ n15 : Int, ∃ n16 : Int, ∃ x17 : Sl, r13 = .agg #[.int .i64 n15, .int .i64 n16, x17.val] ∧
            StepT Try.prog (Instr.buildSlice 28 1 #[(0, (.agg #[.int .i64 n15, .int .i64 n16, x17.val]))]) w14 fun r18 w19 =>
              ∃ x20 : Sl, r18 = x20.val ∧
              ∃ I21 : Sl → Int → World → Prop, ∃ m22 : Sl → Int → World → Nat, I21 x20 0 w19 ∧
              ∀ x23 : Sl, ∀ n24 : Int, ∀ w25 : World, I21 x23 n24 w25 →
              ((decide (n24 < (x12.n : Int))) = true →
                IxOk x12 n24 ∧
                ∃ n26 : Int, w25.cell? ((elA x12 n24 1).add 0) = some (.int .i64 n26) ∧
                ∃ n27 : Int, Wr .i64 (b - 2) n27 ∧
                ∃ n28 : Int, (((x12.n : Int) : Int) ≠ 0 ∧ Wr .i64 (Int.tdiv n27 (x12.n : Int)) n28) ∧
                Trip Try.prog 51 #[x.val, .int .i64 n26] w25 fun r29 w30 =>
                  ∃ x31 : Sl, r29 = x31.val ∧
                  Sub w25 w30 ∧
                  Trip Try.prog 36 #[z.val, x31.val] w30 fun r32 w33 =>
                    ∃ x34 : Sl, r32 = x34.val ∧
                    Sub w30 w33 ∧
                    Trip Try.prog 31 #[.pointer (some (a.add 0)), .agg #[x.val, y.val], x34.val, .int .i64 t, .int .i64 n28] w33 fun r35 w36 =>
                      ∃ n37 : Int, ∃ n38 : Int, ∃ x39 : Sl, r35 = .agg #[.int .i64 n37, .int .i64 n38, x39.val] ∧
                      StepT Try.prog (Instr.buildSlice 28 1 #[(0, (.agg #[.int .i64 n37, .int .i64 n38, x39.val]))]) w36 fun r40 w41 =>
                        ∃ x42 : Sl, r40 = x42.val ∧
                        StepT Try.prog (Builtin.append_ #[28, 28] 28 #[(x23.val), (x42.val)]) w41 fun r43 w44 =>
                          ∃ x45 : Sl, r43 = x45.val ∧
                          ∃ n46 : Int, Wr .i64 (n24 + 1) n46 ∧
                          ((.sl x : SV) = .sl x) ∧
                          ((.sl y : SV) = .sl y) ∧
                          ((.num .i64 0 : SV) = .num .i64 0) ∧
                          ((.num .i64 0 : SV) = .num .i64 0) ∧
                          ((.sl (Sl.mk none 0 0) : SV) = .sl (Sl.mk none 0 0)) ∧
                          I21 x45 n46 w44 ∧
                          m22 x45 n46 w44 < m22 x23 n24 w25) ∧
              ((decide (n24 < (x12.n : Int))) = false →
                Trip Try.prog 33 #[.int .i64 8, .int .i64 d, x23.val] w25 fun r47 w48 =>
                  ∃ n49 : Int, ∃ n50 : Int, ∃ x51 : Sl, r47 = .agg #[.int .i64 n49, .int .i64 n50, x51.val] ∧
                  ∃ n1 n2 s, Value.agg #[.int .i64 n49, .int .i64 n50, x51.val] = .agg #[.int .i64 n1, .int .i64 n2, Sl.val s] ∧ GQ ⟨ds, fs.length, vars.length⟩ u a R (m + (Pg b - 10)) (Pg b) n1 n2 s w48) := by
    intro d d1 d2
    refine gs_consOf hp1 ⟨by omega, by omega⟩ h fun xc w3 u3 hu3 hs3 h hxc => ?_
    have hcn := hxc.n
    have hcl := (consL_sm (n := d) hty).1
    refine use_e (c_leaf (hp1.mono hu3) (hv1.mono hu3) hvl (by omega) d2 (by omega) h) ?_
    rintro n1 n2 x4 w4 ⟨u4, hu4, h, e, rfl, rfl, hr, hce, hne⟩
    obtain ⟨I4, hR4, hS4⟩ := h
    refine St.build (α := ExprD) hS4 (VsOf.cons (vof hr hce.1) VsOf.nil) rfl (by decide) fun x5 w5 J5 hO5 hS5 hs5 => ⟨x5, rfl, ?_⟩
    have h : GS u4 a (J5 ++ R) (m + 26) w5 := ⟨I4, hR4.le (by omega), hS5.to⟩
    generalize hP : Pg ((b - 2).tdiv (consL ds d).length) = P
    have hPp : 30 ≤ P := by rw [← hP]; exact Pg_pos _
    have hsplit := Pg_split (b := b - 2) (n := (consL ds d).length) (by omega) (by omega)
    rw [hP] at hsplit
    have hxc4 := hxc.mono hu4
    refine ⟨fun s i w => ∃ (u6 : World) (J : Items) (ks : List ExprD), Sub u4 u6 ∧ GS u6 a (J ++ R) (m + 26 + i * P) w ∧ Own u6 s ks J ∧ (∃ k0 ks', ks = k0 :: ks' ∧ cE ⟨ds, fs.length, vars.length⟩ k0 ∧ armC ⟨ds, fs.length, vars.length⟩ d ks') ∧ (nodesL ks : Int) ≤ 4 + i * P ∧ (ks.length : Int) = 1 + i ∧ 0 ≤ i ∧ i ≤ (consL ds d).length, fun _ i _ => ((consL ds d).length - i).toNat, ⟨u4, J5, _, .refl _, by simpa using h, hO5, ⟨_, [], rfl, hce, armC_nil⟩, by rw [nodesL_cons, nodesL_nil]; omega, rfl, by omega, by omega⟩, ?_⟩
    clear h hO5 hS5 hR4 hS4
    rintro s i w6 ⟨u6, J6, ks, hu6, h, hO, ⟨k0, ks', hks, hc0, hcl2⟩, hnl, hkl, i0, i1⟩
    dsimp only
    refine ⟨fun hi => ?_, fun hi => ?_⟩
    · simp only [bls] at hi
      have hil : i < (consL ds d).length := by omega
      have htd := tdiv_pos (b := b - 2) (n := (consL ds d).length) (by omega) (by omega)
      have hmul : (i + 1) * P = i * P + P := by rw [Int.add_mul]; omega
      have hle : (i + 1) * P ≤ (consL ds d).length * P := Int.mul_le_mul_of_nonneg_right (by omega) (by omega)
      have hxc6 := hxc4.mono hu6
      refine go_ix hxc6 i0 hil ?_
      refine ⟨_, ((hxc6.mono h.sub).int i0 hil).1, ?_⟩
      have hnn := consL_num hty d _ (nth_mem (l := consL ds d) i0 hil)
      refine go_wr (by omega) (by omega) ?_
      refine go_quo (by omega) (by rw [hcn]; omega) (by rw [hcn]; omega) ?_
      rw [hcn]
      have hp6 := ((((hp1.mono hu3).mono hu4).mono hu6).app J6)
      refine gs_conFields hp6 ⟨by omega, by omega⟩ h fun xf w7 u7 hu7 hs7 h hxf => ⟨hs7, ?_⟩
      have hfl := conF_len3 hty (nth (consL ds d) i)
      refine gs_extendV (((((hv1.mono hu3).mono hu4).mono hu6).mono hu7).app J6) hxf (by omega) h fun xv w8 u8 hu8 hs8 h hxv => ⟨hs8, ?_⟩
      refine use_e (H _ htd.1 (by omega) u8 a (J6 ++ R) x y xv ds fs _ _ _ _ ((hp6.mono hu7).mono hu8) (.of hxv) (by rw [List.length_append]; omega) (by rw [List.length_append]; omega) t0 t1 (by rw [hP]; omega) h) ?_
      rw [hP]
      rintro n1 n2 xk w9 ⟨u9, hu9, h, e, rfl, rfl, hr, hce, hne⟩
      refine gs_push h (((hO.mono hu7).mono hu8).mono hu9) hr hce (by omega) fun x' w10 J10 h hO => ?_
      refine go_wr (by omega) (by omega) ?_
      refine ⟨rfl, rfl, rfl, rfl, rfl, ⟨u9, J10, _, ((hu6.trans hu7).trans hu8).trans hu9, h.le (by omega), hO, ⟨k0, ks' ++ [e], by rw [hks]; rfl, hc0, armC_snoc hcl2 (hce.le rfl rfl ?_)⟩, by rw [nodesL_snoc]; omega, by simp; omega, by omega, by omega⟩, by omega⟩
      have hkl' : ((ks'.length : Nat) : Int) = i := by rw [hks, List.length_cons] at hkl; omega
      rw [hkl', List.length_append]
      exact Nat.le_refl _
    · simp only [bls] at hi
      have e : i = (consL ds d).length := by omega
      subst e
      refine gs_node ?_
      exact ⟨_, _, _, rfl, gs_finE (h.le (by omega)) hO (((hu1.trans hu3).trans hu4).trans hu6) (by rw [hks]; exact cE.match_ (by omega) (by omega) hc0 hcl2 (by rw [hks, List.length_cons] at hkl; show ks'.length = (consL ds d).length; omega)) (by omega)⟩
  exact ⟨q, fun _ => hq, fun _ => go 1 (by omega) (by omega), fun _ => go d hd4.1 hd4.2⟩
end
end Go.Vc

namespace Go.Vc
open Go Go.Proofs Go.RowKit
set_option linter.all false
section
variable {C : CxE} {u u' u0 v w : World} {x y z s tx x1 x2 x3 : Sl} {ds : List DeclD} {fs : List FunD} {a : Addr} {I J L R : Items} {F : Items → Items} {m m' N N' N1 N2 N3 n n1 n2 k1 k2 l1 l2 op num t b : Int} {l vars types : List Int} {ks : List ExprD} {e : ExprD}
theorem gs_node1 (h : GS u a R m w) (h1 : EV C u N1 n1 n2 x1) (hok : okS C op num 1) {K : Int → Int → Sl → World → Prop} (k : ∀ x w' u', Sub u u' → GS u' a R m w' → EV C u' (1 + N1) op num x → K op num x w') :
    StepT Try.prog (Instr.buildSlice 28 1 #[(0, (.agg #[.int .i64 n1, .int .i64 n2, x1.val]))]) w fun r w1 => ∃ x : Sl, r = x.val ∧ Trip Try.prog 33 #[.int .i64 op, .int .i64 num, x.val] w1 fun r w' => ∃ n1 n2 x', r = .agg #[.int .i64 n1, .int .i64 n2, x'.val] ∧ K n1 n2 x' w' := by
  obtain ⟨e1, rfl, rfl, r1, c1, g1⟩ := h1
  refine gs_kids (ks := [e1]) h (by exact VsOf.cons (vof r1 c1.1) VsOf.nil) rfl (by decide) fun x w1 u1 hu hs h hx => ?_
  exact gs_node (k x w1 u1 hu h (EV.mk hx (cL_cons c1 cL_nil) hok (by rw [nodesL_cons, nodesL_nil]; omega)))
theorem gs_node2 (h : GS u a R m w) (h1 : EV C u N1 n1 n2 x1) (h2 : EV C u N2 k1 k2 x2) (hok : okS C op num 2) {K : Int → Int → Sl → World → Prop} (k : ∀ x w' u', Sub u u' → GS u' a R m w' → EV C u' (1 + N1 + N2) op num x → K op num x w') :
    StepT Try.prog (Instr.buildSlice 28 2 #[(0, (.agg #[.int .i64 n1, .int .i64 n2, x1.val])), (1, (.agg #[.int .i64 k1, .int .i64 k2, x2.val]))]) w fun r w1 => ∃ x : Sl, r = x.val ∧ Trip Try.prog 33 #[.int .i64 op, .int .i64 num, x.val] w1 fun r w' => ∃ n1 n2 x', r = .agg #[.int .i64 n1, .int .i64 n2, x'.val] ∧ K n1 n2 x' w' := by
  obtain ⟨e1, rfl, rfl, r1, c1, g1⟩ := h1
  obtain ⟨e2, rfl, rfl, r2, c2, g2⟩ := h2
  refine gs_kids (ks := [e1, e2]) h (by exact VsOf.cons (vof r1 c1.1) (VsOf.cons (vof r2 c2.1) VsOf.nil)) rfl (by decide) fun x w1 u1 hu hs h hx => ?_
  exact gs_node (k x w1 u1 hu h (EV.mk hx (cL_cons c1 (cL_cons c2 cL_nil)) hok (by rw [nodesL_cons, nodesL_cons, nodesL_nil]; omega)))
theorem gs_node3 (h : GS u a R m w) (h1 : EV C u N1 n1 n2 x1) (h2 : EV C u N2 k1 k2 x2) (h3 : EV C u N3 l1 l2 x3) (hok : okS C op num 3) {K : Int → Int → Sl → World → Prop} (k : ∀ x w' u', Sub u u' → GS u' a R m w' → EV C u' (1 + N1 + N2 + N3) op num x → K op num x w') :
    StepT Try.prog (Instr.buildSlice 28 3 #[(0, (.agg #[.int .i64 n1, .int .i64 n2, x1.val])), (1, (.agg #[.int .i64 k1, .int .i64 k2, x2.val])), (2, (.agg #[.int .i64 l1, .int .i64 l2, x3.val]))]) w fun r w1 => ∃ x : Sl, r = x.val ∧ Trip Try.prog 33 #[.int .i64 op, .int .i64 num, x.val] w1 fun r w' => ∃ n1 n2 x', r = .agg #[.int .i64 n1, .int .i64 n2, x'.val] ∧ K n1 n2 x' w' := by
  obtain ⟨e1, rfl, rfl, r1, c1, g1⟩ := h1
  obtain ⟨e2, rfl, rfl, r2, c2, g2⟩ := h2
  obtain ⟨e3, rfl, rfl, r3, c3, g3⟩ := h3
  refine gs_kids (ks := [e1, e2, e3]) h (by exact VsOf.cons (vof r1 c1.1) (VsOf.cons (vof r2 c2.1) (VsOf.cons (vof r3 c3.1) VsOf.nil))) rfl (by decide) fun x w1 u1 hu hs h hx => ?_
  exact gs_node (k x w1 u1 hu h (EV.mk hx (cL_cons c1 (cL_cons c2 (cL_cons c3 cL_nil))) hok (by rw [nodesL_cons, nodesL_cons, nodesL_cons, nodesL_nil]; omega)))
theorem gs_let {C' : CxE} (h : GS u a R m w) (h1 : EV C u N1 n1 n2 x1) (h2 : EV C' u N2 k1 k2 x2) (hd : C'.ds = C.ds) (hn : C'.nf = C.nf) (hV : C'.V ≤ C.V + 1) {K : Int → Int → Sl → World → Prop} (k : ∀ x w' u', Sub u u' → GS u' a R m w' → EV C u' (1 + N1 + N2) 13 0 x → K 13 0 x w') :
    StepT Try.prog (Instr.buildSlice 28 2 #[(0, (.agg #[.int .i64 n1, .int .i64 n2, x1.val])), (1, (.agg #[.int .i64 k1, .int .i64 k2, x2.val]))]) w fun r w1 => ∃ x : Sl, r = x.val ∧ Trip Try.prog 33 #[.int .i64 13, .int .i64 0, x.val] w1 fun r w' => ∃ n1 n2 x', r = .agg #[.int .i64 n1, .int .i64 n2, x'.val] ∧ K n1 n2 x' w' := by
  obtain ⟨e1, rfl, rfl, r1, c1, g1⟩ := h1
  obtain ⟨e2, rfl, rfl, r2, c2, g2⟩ := h2
  refine gs_kids (ks := [e1, e2]) h (by exact VsOf.cons (vof r1 c1.1) (VsOf.cons (vof r2 c2.1) VsOf.nil)) rfl (by decide) fun x w1 u1 hu hs h hx => ?_
  exact gs_node (k x w1 u1 hu h (EV.of hx (cE.let_ c1 (c2.le hd hn hV)) (by rw [nodesL_cons, nodesL_cons, nodesL_nil]; omega)))
theorem gs_nodeL (h : GS u a R m w) (hx : Read u x ks) (hc : cL C ks) (hn : (nodesL ks : Int) ≤ N1) (hok : okS C op num ks.length) {K : Int → Int → Sl → World → Prop} (k : EV C u (1 + N1) op num x → K op num x w) :
    Trip Try.prog 33 #[.int .i64 op, .int .i64 num, x.val] w fun r w' => ∃ n1 n2 x', r = .agg #[.int .i64 n1, .int .i64 n2, x'.val] ∧ K n1 n2 x' w' :=
  gs_node (k (EV.mk hx hc hok (by omega)))
theorem gs_gen (H : GenC b) (hp : PrgG u R x y ds fs) (hv : VrG u R z vars) (h1 : vars.length + 4 * b ≤ 99) (h2 : vars.length ≤ 99) (t0 : 0 ≤ t) (t1 : t ≤ 4) (hm : m + Pg b ≤ 999900000) (h : GS u a R m w) {K : Int → Int → Sl → World → Prop}
    (k : ∀ n1 n2 s w' u', Sub u u' → GS u' a R (m + Pg b) w' → EV ⟨ds, fs.length, vars.length⟩ u' (Pg b) n1 n2 s → K n1 n2 s w') :
    Trip Try.prog 31 #[.pointer (some (a.add 0)), .agg #[x.val, y.val], z.val, .int .i64 t, .int .i64 b] w fun r w' => ∃ n1 n2 s, r = .agg #[.int .i64 n1, .int .i64 n2, Sl.val s] ∧ K n1 n2 s w' :=
  use_e (H u a R x y z ds fs vars t m w hp hv h1 h2 t0 t1 hm h) fun n1 n2 s w' ⟨u', q1, q2, q3⟩ => k n1 n2 s w' u' q1 q2 q3
theorem gs_leaf (hp : PrgG u R x y ds fs) (hv : VrG u R z vars) (hvl : vars.length ≤ 99) (t0 : 0 ≤ t) (t1 : t ≤ 4) (hm : m + 30 ≤ 999900000) (h : GS u a R m w) {K : Int → Int → Sl → World → Prop}
    (k : ∀ n1 n2 s w' u', Sub u u' → GS u' a R (m + 25) w' → EV ⟨ds, fs.length, vars.length⟩ u' 4 n1 n2 s → K n1 n2 s w') :
    Trip Try.prog 58 #[.pointer (some (a.add 0)), .agg #[x.val, y.val], z.val, .int .i64 t] w fun r w' => ∃ n1 n2 s, r = .agg #[.int .i64 n1, .int .i64 n2, Sl.val s] ∧ K n1 n2 s w' :=
  use_e (c_leaf hp hv hvl t0 t1 hm h) fun n1 n2 s w' ⟨u', q1, q2, q3⟩ => k n1 n2 s w' u' q1 q2 q3
theorem c_genOther (H : ∀ b', 0 ≤ b' → b' < b → GenC b') (hp : PrgG u R x y ds fs) (hv : VrG u R z vars) (hvl : vars.length ≤ 99) (b0 : 3 ≤ b) (b1 : b ≤ 100) (hvb : vars.length + 4 * b ≤ 99) (t0 : 0 ≤ t) (t1 : t ≤ 4) (hm : m + (Pg b - 10) ≤ 999900000) (h : GS u a R m w) :
    Trip Try.prog 63 #[.pointer (some (a.add 0)), .agg #[x.val, y.val], z.val, .int .i64 t, .int .i64 b] w fun r w' => ∃ n1 n2 s, r = .agg #[.int .i64 n1, .int .i64 n2, Sl.val s] ∧ GQ ⟨ds, fs.length, vars.length⟩ u a R (m + (Pg b - 10)) (Pg b) n1 n2 s w' := by
  refine of63 _ _ _ _ _ _ _ _ ?_
  unfold vc63
  have hxn := hp.rx.n
  have hdl := hp.gd.len
  have hty := hp.gd.types
  have hPb := Pg_at (b := b) (by omega)
  have hP2 := Pg_at (b := b - 2) (by omega)
  refine ⟨fun w => ∃ u1, Sub u u1 ∧ GS u1 a R (m + 1) w, ?_, ?_⟩
  · refine gs_pick h (by omega) (by omega) (by omega) fun j w1 h _ _ _ => ⟨fun hc => ?_, fun hc => ⟨rfl, rfl, rfl, rfl, rfl, u, .refl _, h⟩⟩
    refine ⟨fun i w => GS u a R (m + 1) w ∧ 1 ≤ i ∧ i ≤ 5, fun i _ => ((ds.length : Int) + 1 - i).toNat, ⟨h, by omega, by omega⟩, ?_⟩
    clear h
    rintro i w2 ⟨h, i0, i1⟩
    dsimp only
    refine ⟨fun hi => ?_, fun hi => ⟨rfl, rfl, rfl, rfl, rfl, u, .refl _, h⟩⟩
    simp only [bls] at hi
    obtain ⟨q, hq1, hq⟩ := c_isArrow (n := i) (hp.rx.mono h.sub) hp.gd.len.2
    have hil : i - 1 < ds.length := by omega
    have hi0 : 0 ≤ i - 1 := by omega
    have hdd := hp.gd.decl _ (nth_mem (l := ds) hi0 hil)
    obtain ⟨q2, hq2⟩ := gs_canMakeV hp h hv i
    have cells : ∀ {u2 : World} {m2 : Int} {w2 : World}, Sub u u2 → GS u2 a R m2 w2 → w2.cell? ((elA x (i - 1) 3).add 0) = some (.int .i64 (nth ds (i - 1)).frm) ∧ w2.cell? ((elA x (i - 1) 3).add 1) = some (.int .i64 (nth ds (i - 1)).to_) := by
      intro u2 m2 w2 hu2 h2
      obtain ⟨fc, e1, e2, _⟩ := (hp.rx.src (hu2.trans h2.sub)).ofDeclD hi0 hil
      exact ⟨e1, e2⟩
    have hix := hp.rx.ix hi0 hil
    refine ⟨q, hq, ?_⟩
    refine go_wrg (fun _ => ⟨by omega, by omega⟩) ?_
    refine ⟨fun _ => hix, _, fun _ => (cells (.refl u) h).2, q2, fun _ => hq2, fun hc => ?_, fun hc => ?_⟩
    · refine go_wr (by omega) (by omega) ?_
      refine go_wr (by omega) (by omega) ?_
      -- the function and its argument
      have rest : ∀ {u1 w3 : World} {n1 n2 : Int} {x3 : Sl}, Sub u u1 → GS u1 a R (m + 1 + 25) w3 → EV ⟨ds, fs.length, vars.length⟩ u1 4 n1 n2 x3 →
          Trip Try.prog 31 #[.pointer (some (a.add 0)), .agg #[x.val, y.val], z.val, .int .i64 (nth ds (i - 1)).frm, .int .i64 (b - 2)] w3 fun r25 w26 =>
                  ∃ n27 : Int, ∃ n28 : Int, ∃ x29 : Sl, r25 = .agg #[.int .i64 n27, .int .i64 n28, x29.val] ∧
                  StepT Try.prog (Instr.buildSlice 28 2 #[(0, (.agg #[.int .i64 n1, .int .i64 n2, x3.val])), (1, (.agg #[.int .i64 n27, .int .i64 n28, x29.val]))]) w26 fun r30 w31 =>
                    ∃ x32 : Sl, r30 = x32.val ∧
                    Trip Try.prog 33 #[.int .i64 11, .int .i64 0, x32.val] w31 fun r33 w34 =>
                      ∃ n35 : Int, ∃ n36 : Int, ∃ x37 : Sl, r33 = .agg #[.int .i64 n35, .int .i64 n36, x37.val] ∧
                      ∃ n1 n2 s, Value.agg #[.int .i64 n35, .int .i64 n36, x37.val] = .agg #[.int .i64 n1, .int .i64 n2, Sl.val s] ∧ GQ ⟨ds, fs.length, vars.length⟩ u a R (m + (Pg b - 10)) (Pg b) n1 n2 s w34 := by
        intro u1 w3 n1 n2 x3 hu1 h he
        refine gs_gen (H (b - 2) (by omega) (by omega)) (hp.mono hu1) (hv.mono hu1) (by omega) hvl hdd.1 hdd.2.1 (by omega) h fun n3 n4 x4 w4 u4 hu4 h he4 => ?_
        refine gs_node2 h (he.mono hu4) he4 (ok_zero (by omega) (by omega)) fun x5 w5 u5 hu5 h he5 => ?_
        exact ⟨_, _, _, rfl, u5, (hu1.trans hu4).trans hu5, h.le (by omega), he5.le (by omega)⟩
      refine ⟨?_, hix, ?_, _, (cells (.refl u) h).1, ?_⟩
      · refine gs_leaf hp hv hvl (by omega) (by omega) (by omega) h fun n1 n2 x3 w3 u3 hu3 h he => ?_
        exact ⟨hix, _, (cells hu3 h).1, rest hu3 h he⟩
      · refine gs_leaf hp hv hvl (by omega) (by omega) (by omega) h fun n1 n2 x3 w3 u3 hu3 h he => ?_
        exact ⟨_, (cells hu3 h).1, rest hu3 h he⟩
      · exact gs_leaf hp hv hvl (by omega) (by omega) (by omega) h fun n1 n2 x3 w3 u3 hu3 h he => rest hu3 h he
    · refine go_wr (by omega) (by omega) ?_
      exact ⟨rfl, rfl, rfl, rfl, rfl, ⟨h, by omega, by omega⟩, by omega⟩
  rintro w1 ⟨u1, hu1, h⟩
  have hp1 := hp.mono hu1
  have hv1 := hv.mono hu1
  refine gs_consOf hp1 ⟨by omega, by omega⟩ h fun xc w2 u2 hu2 hs2 h hxc => ?_
  have hcn := hxc.n
  have hcl := (consL_sm (n := t) hty).1
  have hp2 := hp1.mono hu2
  have hv2 := hv1.mono hu2
  refine ⟨fun hc => ?_, fun hc => ⟨fun ht => ?_, fun ht => ?_⟩⟩
  · simp only [bls] at hc
    refine gs_pick h (by omega) (by omega) (by omega) fun j w3 h j0 j1 _ => ?_
    refine go_ix hxc j0 (by omega) ?_
    refine ⟨_, ((hxc.mono h.sub).int j0 (by omega)).1, ?_⟩
    have hnn := consL_num hty t _ (nth_mem (l := consL ds t) j0 (by omega))
    have hfl := conF_len3 hty (nth (consL ds t) j)
    have hsp := Pg_split (b := b - 1) (n := (conF ds (nth (consL ds t) j)).length) (by omega) (by omega)
    refine go_wr (by omega) (by omega) ?_
    refine gs_conFields hp2 ⟨by omega, by omega⟩ h fun xf w4 u4 hu4 hs4 h hxf => ⟨hs4, ?_⟩
    refine gs_genAll (fun hz => H _ (tdiv_pos (by omega) (by omega)).1 (by have := (tdiv_pos (b := b - 1) (n := (conF ds (nth (consL ds t) j)).length) (by omega) (by omega)).2; omega)) (hp2.mono hu4) (hv2.mono hu4) hvl hxf hfl (conF_nn hty _) (by omega) (by omega) (by omega) (by omega) h fun x5 w5 u5 ks hu5 h hx5 hc5 hn5 hl5 => ?_
    refine gs_nodeL h hx5 hc5 hn5 (ok_con hnn.1 hnn.2) fun he => ?_
    exact ⟨_, _, _, rfl, u5, ((hu1.trans hu2).trans hu4).trans hu5, h.le (by omega), he.le (by omega)⟩
  · refine gs_leaf hp2 hv2 hvl t0 t1 (by omega) h fun n1 n2 x3 w3 u3 hu3 h he => ?_
    exact ⟨_, _, _, rfl, u3, (hu1.trans hu2).trans hu3, h.le (by omega), he.le (by omega)⟩
  · have fin : ∀ {u3 w3 : World} {xt : Sl} {m3 : Int} {types : List Int} {op : Int}, Sub u2 u3 → GS u3 a R m3 w3 → m3 ≤ m + 4 → Read u3 xt types → (types.length = 1 ∨ types.length = 2) → (∀ t ∈ types, 0 ≤ t ∧ t ≤ 4) → (op = 1 ∨ op = 2 ∨ op = 3 ∨ op = 4 ∨ op = 5) →
        Trip Try.prog 60 #[.pointer (some (a.add 0)), .agg #[x.val, y.val], z.val, xt.val, .int .i64 (b - 1)] w3 fun r109 w110 =>
                ∃ x111 : Sl, r109 = x111.val ∧
                Trip Try.prog 33 #[.int .i64 op, .int .i64 0, x111.val] w110 fun r112 w113 =>
                  ∃ n114 : Int, ∃ n115 : Int, ∃ x116 : Sl, r112 = .agg #[.int .i64 n114, .int .i64 n115, x116.val] ∧
                  ∃ n1 n2 s, Value.agg #[.int .i64 n114, .int .i64 n115, x116.val] = .agg #[.int .i64 n1, .int .i64 n2, Sl.val s] ∧ GQ ⟨ds, fs.length, vars.length⟩ u a R (m + (Pg b - 10)) (Pg b) n1 n2 s w113 := by
      intro u3 w3 xt m3 types op hu3 h hm3 hxt htl htt hop
      have hsp := Pg_split (b := b - 1) (n := types.length) (by omega) (by omega)
      have htd := tdiv_pos (b := b - 1) (n := types.length) (by omega) (by omega)
      refine gs_genAll (fun _ => H _ htd.1 (by omega)) (hp2.mono hu3) (hv2.mono hu3) hvl hxt (by omega) htt (by omega) (by omega) (by omega) (by omega) h fun x5 w5 u5 ks hu5 h hx5 hc5 hn5 hl5 => ?_
      refine gs_nodeL h hx5 hc5 hn5 (ok_zero (by omega) (by omega)) fun he => ?_
      exact ⟨_, _, _, rfl, u5, ((hu1.trans hu2).trans hu3).trans hu5, h.le (by omega), he.le (by omega)⟩
    refine gs_pick h (by omega) (by omega) (by omega) fun j w3 h j0 j1 _ => ⟨fun hj => ?_, fun hj => ?_⟩
    · refine gs_ints h (by (repeat' (first | exact VsOf.nil | apply VsOf.cons | (apply VOf.int; first | assumption | (constructor <;> first | omega | (simp only [List.length_set, List.length_append, List.length_replicate, List.length_cons, List.length_nil, List.length_take, List.length_drop, List.length_map, List.length_singleton] at *; omega))) | exact VOf.bool | exact VOf.str))) rfl (by decide) fun x4 w4 u4 hu4 hs4 h hx4 => ?_
      refine go_wr (by omega) (by omega) ?_
      exact fin hu4 h (by omega) hx4 (.inl rfl) (by decide) (by omega)
    · refine go_wr (by omega) (by omega) ?_
      refine ⟨?_, ?_⟩
      · refine gs_ints h (by (repeat' (first | exact VsOf.nil | apply VsOf.cons | (apply VOf.int; first | assumption | (constructor <;> first | omega | (simp only [List.length_set, List.length_append, List.length_replicate, List.length_cons, List.length_nil, List.length_take, List.length_drop, List.length_map, List.length_singleton] at *; omega))) | exact VOf.bool | exact VOf.str))) rfl (by decide) fun x4 w4 u4 hu4 hs4 h hx4 => ⟨?_, ?_⟩
        · refine gs_one h hx4 (by omega) (by simp) (by simp) fun o w5 h ho => ?_
          refine gs_ints h (by (repeat' (first | exact VsOf.nil | apply VsOf.cons | (apply VOf.int; first | assumption | (constructor <;> first | omega | (simp only [List.length_set, List.length_append, List.length_replicate, List.length_cons, List.length_nil, List.length_take, List.length_drop, List.length_map, List.length_singleton] at *; omega))) | exact VOf.bool | exact VOf.str))) rfl (by decide) fun x6 w6 u6 hu6 hs6 h hx6 => ?_
          exact fin (hu4.trans hu6) h (by omega) hx6 (.inr rfl) (by decide) (by simp only [List.mem_cons, List.not_mem_nil, or_false] at ho; omega)
        · refine gs_ints h (by (repeat' (first | exact VsOf.nil | apply VsOf.cons | (apply VOf.int; first | assumption | (constructor <;> first | omega | (simp only [List.length_set, List.length_append, List.length_replicate, List.length_cons, List.length_nil, List.length_take, List.length_drop, List.length_map, List.length_singleton] at *; omega))) | exact VOf.bool | exact VOf.str))) rfl (by decide) fun x6 w6 u6 hu6 hs6 h hx6 => ?_
          refine gs_one h (hx4.mono hu6) (by omega) (by simp) (by simp) fun o w5 h ho => ?_
          exact fin (hu4.trans hu6) h (by omega) hx6 (.inr rfl) (by decide) (by simp only [List.mem_cons, List.not_mem_nil, or_false] at ho; omega)
      · refine gs_ints h (by (repeat' (first | exact VsOf.nil | apply VsOf.cons | (apply VOf.int; first | assumption | (constructor <;> first | omega | (simp only [List.length_set, List.length_append, List.length_replicate, List.length_cons, List.length_nil, List.length_take, List.length_drop, List.length_map, List.length_singleton] at *; omega))) | exact VOf.bool | exact VOf.str))) rfl (by decide) fun x6 w6 u6 hu6 hs6 h hx6 => ?_
        refine gs_ints h (by (repeat' (first | exact VsOf.nil | apply VsOf.cons | (apply VOf.int; first | assumption | (constructor <;> first | omega | (simp only [List.length_set, List.length_append, List.length_replicate, List.length_cons, List.length_nil, List.length_take, List.length_drop, List.length_map, List.length_singleton] at *; omega))) | exact VOf.bool | exact VOf.str))) rfl (by decide) fun x4 w4 u4 hu4 hs4 h hx4 => ?_
        refine gs_one h hx4 (by omega) (by simp) (by simp) fun o w5 h ho => ?_
        exact fin (hu6.trans hu4) h (by omega) (hx6.mono hu4) (.inr rfl) (by decide) (by simp only [List.mem_cons, List.not_mem_nil, or_false] at ho; omega)
theorem gen_step (b : Int) (b1 : b ≤ 30) (H : ∀ b', 0 ≤ b' → b' < b → GenC b') : GenC b := by
  intro u a R x y z ds fs vars t m w hp hv hvb hvl t0 t1 hm h
  refine of31 _ _ _ _ _ _ _ _ ?_
  unfold vc31
  have hPp := Pg_pos b
  have hty := hp.gd.types
  refine ⟨fun hc => ?_, fun hc => ?_⟩
  · refine gs_leaf hp hv hvl t0 t1 (by omega) h fun n1 n2 x3 w3 u3 hu3 h he => ?_
    exact ⟨_, _, _, rfl, u3, hu3, h.le (by omega), he.le (by omega)⟩
  simp only [bls] at hc
  have hPb := Pg_at (b := b) (by omega)
  refine gs_pick h (by omega) (by omega) (by omega) fun j w1 h j0 j1 _ => ⟨fun hj => ?_, fun hj => ?_⟩
  · refine gs_leaf hp hv hvl t0 t1 (by omega) h fun n1 n2 x3 w3 u3 hu3 h he => ?_
    exact ⟨_, _, _, rfl, u3, hu3, h.le (by omega), he.le (by omega)⟩
  refine ⟨fun _ w => GS u a R (m + 1) w, ⟨fun _ => ⟨rfl, rfl, rfl, rfl, rfl, h⟩, fun _ => ⟨rfl, rfl, rfl, rfl, rfl, h⟩⟩, ?_⟩
  clear h
  intro q w2 h
  refine ⟨fun hq => ?_, fun hq => ?_⟩
  · refine gs_anyType hp hv (by omega) h fun tt w3 u3 hu3 h tt0 tt1 => ?_
    have hd := tdiv_pos (b := b) (n := 2) (by omega) (by omega)
    have h2 : b.tdiv 2 = b / 2 := Int.tdiv_eq_ediv_of_nonneg (by omega)
    have hP2 := Pg_at (b := b.tdiv 2) (by omega)
    have hp3 := hp.mono hu3
    have hv3 := hv.mono hu3
    have Hh := H (b.tdiv 2) (by omega) (by omega)
    refine go_quo (by omega) (by omega) (by omega) ?_
    refine go_quo (by omega) (by omega) (by omega) ?_
    have rest : ∀ {u4 w4 : World} {n1 n2 : Int} {x4 xt : Sl}, Sub u3 u4 → GS u4 a R (m + 1 + 1 + Pg (b.tdiv 2)) w4 → EV ⟨ds, fs.length, vars.length⟩ u4 (Pg (b.tdiv 2)) n1 n2 x4 → Read u4 xt [tt] →
        Trip Try.prog 36 #[z.val, xt.val] w4 fun r30 w31 =>
                    ∃ x32 : Sl, r30 = x32.val ∧
                    Trip Try.prog 31 #[.pointer (some (a.add 0)), .agg #[x.val, y.val], x32.val, .int .i64 t, .int .i64 (b.tdiv 2)] w31 fun r33 w34 =>
                      ∃ n35 : Int, ∃ n36 : Int, ∃ x37 : Sl, r33 = .agg #[.int .i64 n35, .int .i64 n36, x37.val] ∧
                      StepT Try.prog (Instr.buildSlice 28 2 #[(0, (.agg #[.int .i64 n1, .int .i64 n2, x4.val])), (1, (.agg #[.int .i64 n35, .int .i64 n36, x37.val]))]) w34 fun r38 w39 =>
                        ∃ x40 : Sl, r38 = x40.val ∧
                        Trip Try.prog 33 #[.int .i64 13, .int .i64 0, x40.val] w39 fun r41 w42 =>
                          ∃ n43 : Int, ∃ n44 : Int, ∃ x45 : Sl, r41 = .agg #[.int .i64 n43, .int .i64 n44, x45.val] ∧
                          ∃ n1 n2 s, Value.agg #[.int .i64 n43, .int .i64 n44, x45.val] = .agg #[.int .i64 n1, .int .i64 n2, Sl.val s] ∧ GQ ⟨ds, fs.length, vars.length⟩ u a R (m + Pg b) (Pg b) n1 n2 s w42 := by
      intro u4 w4 n1 n2 x4 xt hu4 h he hxt
      refine gs_extendV (hv3.mono hu4) hxt (by simp; omega) h fun xv w5 u5 hu5 hs5 h hxv => ?_
      refine gs_gen Hh ((hp3.mono hu4).mono hu5) (.of hxv) (by simp; omega) (by simp; omega) t0 t1 (by omega) h fun n3 n4 x6 w6 u6 hu6 h he6 => ?_
      refine gs_let h ((he.mono hu5).mono hu6) he6 rfl rfl (by simp) fun x7 w7 u7 hu7 h he7 => ?_
      exact ⟨_, _, _, rfl, u7, (((hu3.trans hu4).trans hu5).trans hu6).trans hu7, h.le (by omega), he7.le (by omega)⟩
    refine ⟨?_, ?_⟩
    · refine gs_gen Hh hp3 hv3 (by omega) hvl tt0 tt1 (by omega) h fun n1 n2 x4 w4 u4 hu4 h he => ?_
      refine gs_ints h (by (repeat' (first | exact VsOf.nil | apply VsOf.cons | (apply VOf.int; first | assumption | (constructor <;> first | omega | (simp only [List.length_set, List.length_append, List.length_replicate, List.length_cons, List.length_nil, List.length_take, List.length_drop, List.length_map, List.length_singleton] at *; omega))) | exact VOf.bool | exact VOf.str))) rfl (by decide) fun xt w5 u5 hu5 hs5 h hxt => ⟨hs5, ?_⟩
      exact rest (hu4.trans hu5) h (he.mono hu5) hxt
    · refine gs_ints h (by (repeat' (first | exact VsOf.nil | apply VsOf.cons | (apply VOf.int; first | assumption | (constructor <;> first | omega | (simp only [List.length_set, List.length_append, List.length_replicate, List.length_cons, List.length_nil, List.length_take, List.length_drop, List.length_map, List.length_singleton] at *; omega))) | exact VOf.bool | exact VOf.str))) rfl (by decide) fun xt w5 u5 hu5 hs5 h hxt => ⟨hs5, ?_⟩
      refine gs_gen Hh (hp3.mono hu5) (hv3.mono hu5) (by omega) hvl tt0 tt1 (by omega) h fun n1 n2 x4 w4 u4 hu4 h he => ?_
      exact rest (hu5.trans hu4) h he (hxt.mono hu4)
  have other : ∀ {u3 w3 : World} {m3 : Int}, Sub u u3 → GS u3 a R m3 w3 → m3 ≤ m + 5 →
      Trip Try.prog 63 #[.pointer (some (a.add 0)), .agg #[x.val, y.val], z.val, .int .i64 t, .int .i64 b] w3 fun r115 w116 =>
                  ∃ n117 : Int, ∃ n118 : Int, ∃ x119 : Sl, r115 = .agg #[.int .i64 n117, .int .i64 n118, x119.val] ∧
                  ∃ n1 n2 s, Value.agg #[.int .i64 n117, .int .i64 n118, x119.val] = .agg #[.int .i64 n1, .int .i64 n2, Sl.val s] ∧ GQ ⟨ds, fs.length, vars.length⟩ u a R (m + Pg b) (Pg b) n1 n2 s w116 := by
    intro u3 w3 m3 hu3 h hm3
    refine use_e (c_genOther H (hp.mono hu3) (hv.mono hu3) hvl hc (by omega) hvb t0 t1 (by omega) h) fun n1 n2 s w' hq => ?_
    exact ⟨_, _, _, rfl, hq.le hu3 (by omega) (by omega)⟩
  have all : ∀ {u3 w3 : World} {xt : Sl} {m3 : Int} {types : List Int} {op num : Int}, Sub u u3 → GS u3 a R m3 w3 → m3 ≤ m + 5 → Read u3 xt types → types.length ≤ 3 → (∀ t ∈ types, 0 ≤ t ∧ t ≤ 4) → okS ⟨ds, fs.length, vars.length⟩ op num types.length →
        Trip Try.prog 60 #[.pointer (some (a.add 0)), .agg #[x.val, y.val], z.val, xt.val, .int .i64 (b - 1)] w3 fun r109 w110 =>
                ∃ x111 : Sl, r109 = x111.val ∧
                Trip Try.prog 33 #[.int .i64 op, .int .i64 num, x111.val] w110 fun r112 w113 =>
                  ∃ n114 : Int, ∃ n115 : Int, ∃ x116 : Sl, r112 = .agg #[.int .i64 n114, .int .i64 n115, x116.val] ∧
                  ∃ n1 n2 s, Value.agg #[.int .i64 n114, .int .i64 n115, x116.val] = .agg #[.int .i64 n1, .int .i64 n2, Sl.val s] ∧ GQ ⟨ds, fs.length, vars.length⟩ u a R (m + Pg b) (Pg b) n1 n2 s w113 := by
      intro u3 w3 xt m3 types op num hu3 h hm3 hxt htl htt hop
      have hsp := Pg_split (b := b - 1) (n := types.length) (by omega) (by omega)
      refine gs_genAll (fun hz => H _ (tdiv_pos (by omega) (by omega)).1 (by have := (tdiv_pos (b := b - 1) (n := types.length) (by omega) (by omega)).2; omega)) (hp.mono hu3) (hv.mono hu3) hvl hxt (by omega) htt (by omega) (by omega) (by omega) (by omega) h fun x5 w5 u5 ks hu5 h hx5 hc5 hn5 hl5 => ?_
      refine gs_nodeL h hx5 hc5 hn5 (by rw [hl5]; exact hop) fun he => ?_
      exact ⟨_, _, _, rfl, u5, hu3.trans hu5, h.le (by omega), he.le (by omega)⟩
  refine ⟨fun hj3 => ?_, fun hj3 => ?_⟩
  · refine gs_ints h (by (repeat' (first | exact VsOf.nil | apply VsOf.cons | (apply VOf.int; first | assumption | (constructor <;> first | omega | (simp only [List.length_set, List.length_append, List.length_replicate, List.length_cons, List.length_nil, List.length_take, List.length_drop, List.length_map, List.length_singleton] at *; omega))) | exact VOf.bool | exact VOf.str))) rfl (by decide) fun x4 w4 u4 hu4 hs4 h hx4 => ?_
    refine go_wr (by omega) (by omega) ?_
    refine all hu4 h (by omega) hx4 (by simp) ?_ (ok_zero (by omega) (by simp))
    intro t' ht'
    simp only [List.mem_cons, List.not_mem_nil, or_false] at ht'
    omega
  refine ⟨fun _ w => GS u a R (m + 1) w, ⟨fun _ => ⟨rfl, rfl, rfl, rfl, rfl, h⟩, fun _ => ⟨fun _ => ⟨rfl, rfl, rfl, rfl, rfl, h⟩, fun _ => ⟨rfl, rfl, rfl, rfl, rfl, h⟩⟩⟩, ?_⟩
  clear h
  intro q3 w3 h
  refine ⟨fun hq3 => ?_, fun hq3 => ?_⟩
  · refine use_e (c_genMatch H hp hv hvl hc (by omega) hvb t0 t1 (by omega) h) fun n1 n2 s w' hq => ?_
    exact ⟨_, _, _, rfl, hq.le (.refl _) (by omega) (by omega)⟩
  refine ⟨fun _ w => GS u a R (m + 1) w, ⟨fun _ => ⟨rfl, rfl, rfl, rfl, rfl, h⟩, fun _ => ⟨rfl, rfl, rfl, rfl, rfl, h⟩⟩, ?_⟩
  clear h
  intro q4 w4 h
  refine ⟨fun hq4 => ?_, fun hq4 => other (.refl _) h (by omega)⟩
  refine gs_mkw (c_callable (t := t) (hp.rx.mono h.sub) hp.gd.len.2 (hp.fsr h) (fun f hf => (sig_facts (hp.gf.2.2 f hf)).1) hp.gf.2.1) h fun xl l w5 u5 hu5 hs5 h hxl ⟨hl1, hl2⟩ => ?_
  have hln := hxl.n
  refine ⟨fun hcc => ?_, fun hcc => other hu5 h (by omega)⟩
  simp only [bls] at hcc
  refine gs_pick h (by omega) (by omega) (by omega) fun k w6 h k0 k1 _ => ?_
  refine go_ix hxl k0 (by omega) ?_
  refine ⟨_, ((hxl.mono h.sub).int k0 (by omega)).1, ?_⟩
  obtain ⟨f0, f1⟩ := hl2 _ (nth_mem (l := l) k0 (by omega))
  generalize nth l k = f at f0 f1 ⊢
  have hf0 : 0 ≤ f := by omega
  obtain ⟨g1, g2, e1, _, _, _, _, _, _, _, r1, _⟩ := ((hp.mono hu5).src h).ofFunD hf0 f1
  have hyf := (hp.mono hu5).fsr h
  have hsf := sig_facts (hp.gf.mem hf0 f1)
  have hfl := hp.gf.2.1
  refine go_ix hyf hf0 f1 ?_
  refine ⟨g1, e1, ?_⟩
  refine go_wr (by omega) (by omega) ?_
  exact all hu5 h (by omega) r1 hsf.1 (fun t ht => by have := hsf.2.1 t ht; omega) (ok_call hf0 (by omega) f1)
theorem c_gen : ∀ b : Int, b ≤ 30 → GenC b := by
  have key : ∀ n : Nat, ∀ b : Int, b ≤ n → b ≤ 30 → GenC b := by
    intro n
    induction n with
    | zero => exact fun b h1 h2 => gen_step b h2 fun b' h0 h3 => by omega
    | succ n ih => exact fun b h1 h2 => gen_step b h2 fun b' h0 h3 => ih b' (by omega) (by omega)
  exact fun b hb => key b.toNat b (by omega) hb
end
end Go.Vc
