/- Part of the proofs about the heaps and memories: a law is joined in the text whose name ends in W and the law. -/
import Derived.Test.YtgabmgfbolhbbaaGreatEK5
namespace Go.Vc
open Go Go.Proofs Go.RowKit
set_option linter.all false
def procB (ps : List ProcD) (num k : Int) : Bool := (decide (0 ≤ num) && decide (num ≤ (ps.length : Int) - 1)) && decide (((nth ps num).params.length : Int) = k)
section
variable {u v w : World} {x y xf s t : Sl} {l ws fs ns : List Int} {b m n k f e i : Int} {a : Addr} {I J K L R : Items}
theorem c_procWith {ps : List ProcD} (hy : Read v y ps) (hn : InI n) (hm : -1000000 ≤ m ∧ m ≤ 1000000000000000) (hk : -1000000 ≤ k ∧ k ≤ 1000000000) : Fn Tryz.prog 108 #[.agg #[x.val, y.val], .int .i64 n, .int .i64 m, .int .i64 k] v (.bool (procB ps n (m + k))) := by
  refine of108 _ _ _ _ _ _ _ ?_
  unfold vc108
  have hyn := hy.n
  have hyl := hy.le
  refine go_wr (by omega) (by omega) ?_
  refine ⟨_, c_inRange, ?_⟩
  have hr : (decide (0 ≤ n) && decide (n ≤ (y.n : Int) - 1)) = true → 0 ≤ n ∧ n < ps.length := fun h => by
    simp only [Bool.and_eq_true, decide_eq_true_eq] at h; omega
  refine go_ixg hy hr ?_
  refine ldg_proc_params (hy.src (.refl v)) hr ?_
  intro g hg
  refine go_wrg (fun _ => by omega) ?_
  refine ⟨?_, .refl v⟩
  congr 1
  unfold procB
  rw [hyn] at hg ⊢
  cases hq : (decide (0 ≤ n) && decide (n ≤ (ps.length : Int) - 1)) with
  | true => rw [(hg hq).n]
  | false => rfl
/-- the constructors of a type -/
def consL (ds : List DeclD) (t : Int) : List Int := if 1 ≤ t ∧ t ≤ ds.length then (List.range (nth ds (t - 1)).cons.length).map fun (k : Nat) => (firstC ds (t - 1).toNat : Int) + k else []
theorem c_consOf {ds : List DeclD} (hx : Read v x ds) (hn : InI n) (hd : ds.length ≤ 1000) (hc : ∀ d ∈ ds, d.cons.length ≤ 1000) (hb : ∀ i : Int, 0 ≤ i → i ≤ ds.length → (firstC ds i.toNat : Int) ≤ 1000000000) :
    Mk Tryz.prog 83 #[x.val, .int .i64 n] v fun r J => ∃ z, r = z.val ∧ Own v z (consL ds n) J := by
  refine of83 _ _ _ _ ?_
  unfold vc83
  have hxn := hx.n
  have hS := St.refl v
  refine St.build (α := Int) hS (by (repeat' (first | exact VsOf.nil | apply VsOf.cons | (apply VOf.int; first | assumption | (constructor <;> first | omega | (simp only [List.length_set, List.length_append, List.length_replicate, List.length_cons, List.length_nil, List.length_take, List.length_drop, List.length_map, List.length_singleton] at *; omega))) | exact VOf.bool | exact VOf.str))) rfl (by decide) ?_
  intro z0 w0 I0 hO0 hS hs
  refine ⟨_, rfl, _, c_inRange, fun hq => ?_, fun hq => ?_⟩
  · have hno : consL ds n = [] := if_neg (fun h => by
      rw [decide_eq_true h.1, decide_eq_true (show n ≤ (x.n : Int) by omega)] at hq; cases hq)
    exact ⟨I0, by simpa using hS, z0, rfl, by rw [hno]; exact hO0⟩
  · have hr : 1 ≤ n ∧ n ≤ ds.length := by simp at hq; omega
    have hyes : consL ds n = (List.range (nth ds (n - 1)).cons.length).map fun (k : Nat) => (firstC ds (n - 1).toNat : Int) + k := if_pos hr
    have h0 : 0 ≤ n - 1 := by omega
    have h1 : n - 1 < ds.length := by omega
    have hcl := hc _ (nth_mem (l := ds) h0 h1)
    have hbf := hb (n - 1) h0 (by omega)
    refine ⟨fun z i w => ∃ I, Own v z ((List.range i.toNat).map fun (k : Nat) => (firstC ds (n - 1).toNat : Int) + k) I ∧ St v w (I ++ []) ∧ 0 ≤ i ∧ i ≤ (nth ds (n - 1)).cons.length, fun _ i _ => ((nth ds (n - 1)).cons.length - i).toNat, ⟨I0, hO0, hS, by omega, by omega⟩, ?_⟩
    clear hO0 hS
    rintro z i w ⟨I, hO, hS, i0, i1⟩
    dsimp only
    have hxr := hx.mono hS.sub
    refine go_wr (by omega) (by omega) ?_
    refine go_ix hxr h0 h1 ?_
    refine ld_decl_cons (hxr.src (.refl _)) h0 h1 ?_
    intro g hg
    have hgn := hg.n
    refine ⟨fun hi => ?_, fun hi => ?_⟩
    · simp only [bls] at hi
      refine go_wr (by omega) (by omega) ?_
      refine ⟨_, c_firstCon hxr (by omega) (fun d hd2 => by have := hc d hd2; omega) h0 (by omega), ?_⟩
      refine go_wr (by omega) (by omega) ?_
      refine St.build (α := Int) hS (by (repeat' (first | exact VsOf.nil | apply VsOf.cons | (apply VOf.int; first | assumption | (constructor <;> first | omega | (simp only [List.length_set, List.length_append, List.length_replicate, List.length_cons, List.length_nil, List.length_take, List.length_drop, List.length_map, List.length_singleton] at *; omega))) | exact VOf.bool | exact VOf.str))) rfl (by decide) ?_
      intro x4 w4 I4 hO4 hS hs
      refine ⟨_, rfl, ?_⟩
      refine Own.append hO hS (Own.src hO4 hS) (by simp; omega) (by decide) ?_
      intro x5 w5 I5 hO5 hS
      refine ⟨_, rfl, ?_⟩
      refine go_wr (by omega) (by omega) ?_
      refine ⟨⟨I5, ?_, hS.to, by omega, by omega⟩, by omega⟩
      rw [show (i + 1).toNat = i.toNat + 1 from by omega, List.range_succ, List.map_append, List.map_singleton, show ((i.toNat : Nat) : Int) = i from by omega]
      exact hO5
    · simp only [bls] at hi
      rw [show i.toNat = (nth ds (n - 1)).cons.length from by omega] at hO
      exact ⟨I, by simpa using hS, z, rfl, by rw [hyes]; exact hO⟩
end
end Go.Vc

namespace Go.Vc
open Go Go.Proofs Go.RowKit
set_option linter.all false
section
variable {u v w : World} {x y xf s t : Sl} {l ws fs ns : List Int} {b m n k f e i : Int} {a : Addr} {I J K L R : Items}
/-- a constructor has so many fields, if there is such a one -/
def conLen (ds : List DeclD) (c : Int) (k : Int) : Prop := (∃ i : Int, 0 ≤ i ∧ i < ds.length ∧ conTyOk ds c i ∧ (∀ j : Int, 0 ≤ j → j < i → ¬ conTyOk ds c j) ∧ k = (nth (nth ds i).cons (c - firstC ds i.toNat)).fields.length) ∨ ((∀ i : Int, 0 ≤ i → i < ds.length → ¬ conTyOk ds c i) ∧ k = 0)
theorem c_conFields {ds : List DeclD} (hx : Read v x ds) (hn : InI n) (hd : ds.length ≤ 1000) (hc : ∀ d ∈ ds, d.cons.length ≤ 1000) (hb : ∀ i : Int, 0 ≤ i → i ≤ ds.length → (firstC ds i.toNat : Int) ≤ 1000000000) :
    Mk Tryz.prog 107 #[x.val, .int .i64 n] v fun r J => ∃ z : Sl, r = z.val ∧ conLen ds n z.n := by
  refine of107 _ _ _ _ ?_
  unfold vc107
  have hxn := hx.n
  have hS := St.refl v
  obtain ⟨t, ht, hts⟩ := c_conType (n := n) hx (by omega) (fun d h => by have := hc d h; omega) (fun i i0 i1 => by have := hb i i0 i1; omega)
  refine ⟨_, ht, fun hq => ?_, fun hq => ?_⟩
  · simp only [bls] at hq
    refine St.build (α := Int) hS (by (repeat' (first | exact VsOf.nil | apply VsOf.cons | (apply VOf.int; first | assumption | (constructor <;> first | omega | (simp only [List.length_set, List.length_append, List.length_replicate, List.length_cons, List.length_nil, List.length_take, List.length_drop, List.length_map, List.length_singleton] at *; omega))) | exact VOf.bool | exact VOf.str))) rfl (by decide) ?_
    intro z0 w0 I0 hO0 hS hs
    refine ⟨_, rfl, I0, by simpa using hS, z0, rfl, ?_⟩
    rw [hO0.n]
    rcases hts with ⟨_, h⟩ | ⟨h, _⟩
    · exact .inr ⟨h, rfl⟩
    · omega
  · simp only [bls] at hq
    rcases hts with ⟨h, _⟩ | ⟨t1, t2, t3, t4⟩
    · omega
    · have h0 : 0 ≤ t - 1 := by omega
      have h1 : t - 1 < ds.length := by omega
      have hcl := hc _ (nth_mem (l := ds) h0 h1)
      have hbf := hb (t - 1) h0 (by omega)
      have q1 := t3.1
      have q2 := t3.2
      refine go_wr (by omega) (by omega) ?_
      refine go_ix hx h0 h1 ?_
      refine ld_decl_cons (hx.src (.refl v)) h0 h1 ?_
      intro g hg
      refine go_wr (by omega) (by omega) ?_
      refine ⟨_, c_firstCon hx (by omega) (fun d h => by have := hc d h; omega) h0 (by omega), ?_⟩
      refine go_wr (by omega) (by omega) ?_
      refine go_ix hg (by omega) (by omega) ?_
      refine ld_con_fields (hg.src (.refl v)) (by omega) (by omega) ?_
      intro g2 hg2
      exact ⟨[], hS, g2, rfl, .inl ⟨t - 1, h0, h1, t3, t4, by rw [hg2.n]⟩⟩
end
end Go.Vc

namespace Go.Vc
open Go Go.Proofs Go.RowKit
set_option linter.all false

/-- the declaration whose constructor it is, or -1 -/
def conP (ds : List DeclD) (c : Int) (i : Nat) : Prop := (i : Int) < ds.length ∧ conTyOk ds c i
open Classical in
noncomputable def conI (ds : List DeclD) (c : Int) : Int := if ∃ i : Nat, conP ds c i then (leastM (conP ds c) : Int) else -1
/-- the fields of a constructor -/
noncomputable def conF (ds : List DeclD) (c : Int) : List Int := if conI ds c < 0 then [] else (nth (nth ds (conI ds c)).cons (c - firstC ds (conI ds c).toNat)).fields
/-- small declarations -/
structure SmDs (ds : List DeclD) : Prop where
  len : ds.length ≤ 4
  cons : ∀ d ∈ ds, d.cons.length ≤ 3
section
variable {ds : List DeclD} {c i j n : Int}
theorem conI_cases (ds : List DeclD) (c : Int) : (conI ds c = -1 ∧ ∀ i : Int, 0 ≤ i → i < ds.length → ¬ conTyOk ds c i) ∨ (0 ≤ conI ds c ∧ conI ds c < ds.length ∧ conTyOk ds c (conI ds c) ∧ ∀ i : Int, 0 ≤ i → i < conI ds c → ¬ conTyOk ds c i) := by
  unfold conI
  split
  · rename_i h
    have h1 := leastM_spec h
    refine .inr ⟨by omega, h1.1, h1.2, fun i i0 i1 hk => ?_⟩
    have := leastM_le (p := conP ds c) (k := i.toNat) ⟨by have := h1.1; omega, by rw [show ((i.toNat : Nat) : Int) = i from by omega]; exact hk⟩
    omega
  · rename_i h
    exact .inl ⟨rfl, fun i i0 i1 hk => h ⟨i.toNat, by omega, by rw [show ((i.toNat : Nat) : Int) = i from by omega]; exact hk⟩⟩
theorem conI_some (i0 : 0 ≤ i) (i1 : i < ds.length) (h : conTyOk ds c i) (hm : ∀ j : Int, 0 ≤ j → j < i → ¬ conTyOk ds c j) : conI ds c = i := by
  rcases conI_cases ds c with ⟨_, h2⟩ | ⟨h1, h2, h3, h4⟩
  · exact absurd h (h2 i i0 i1)
  · rcases Int.lt_trichotomy i (conI ds c) with h5 | h5 | h5
    · exact absurd h (h4 i i0 h5)
    · exact h5.symm
    · exact absurd h3 (hm _ h1 h5)
theorem conI_none (h : ∀ i : Int, 0 ≤ i → i < ds.length → ¬ conTyOk ds c i) : conI ds c = -1 := by
  rcases conI_cases ds c with ⟨h1, _⟩ | ⟨h1, h2, h3, h4⟩
  · exact h1
  · exact absurd h3 (h _ h1 h2)
theorem conLen_eq {k : Int} (h : conLen ds c k) : k = (conF ds c).length := by
  unfold conF
  rcases h with ⟨i, i0, i1, h1, h2, rfl⟩ | ⟨h1, rfl⟩
  · rw [conI_some i0 i1 h1 h2, if_neg (by omega)]
  · rw [conI_none h1, if_pos (by omega)]; rfl
theorem firstC_le (h : ∀ d ∈ ds, d.cons.length ≤ 3) : ∀ n : Nat, firstC ds n ≤ 3 * n
  | 0 => by simp [firstC]
  | n + 1 => by
    have ih := firstC_le h n
    by_cases hn : n < ds.length
    · have := firstC_succ (ds := ds) (i := n) (by omega) (by omega)
      rw [show ((n : Int) + 1).toNat = n + 1 from by omega, show ((n : Int)).toNat = n from by omega] at this
      have := h _ (nth_mem (l := ds) (i := n) (by omega) (by omega))
      omega
    · have : firstC ds (n + 1) = firstC ds n := by unfold firstC; rw [List.take_of_length_le (by omega), List.take_of_length_le (by omega)]
      omega
theorem firstC_mono {a b : Nat} (h : a ≤ b) : firstC ds a ≤ firstC ds b := by
  induction b with
  | zero => rw [show a = 0 from by omega]; exact Nat.le_refl _
  | succ b ih =>
    rcases Nat.lt_or_ge a (b + 1) with h1 | h1
    · refine Nat.le_trans (ih (by omega)) ?_
      by_cases hn : b < ds.length
      · have := firstC_succ (ds := ds) (i := b) (by omega) (by omega)
        rw [show ((b : Int) + 1).toNat = b + 1 from by omega, show ((b : Int)).toNat = b from by omega] at this
        omega
      · have : firstC ds (b + 1) = firstC ds b := by unfold firstC; rw [List.take_of_length_le (by omega), List.take_of_length_le (by omega)]
        omega
    · rw [show a = b + 1 from by omega]; exact Nat.le_refl _
theorem SmDs.fc (h : SmDs ds) (n : Nat) (hn : n ≤ ds.length) : firstC ds n ≤ 12 := by
  have := firstC_le h.cons n
  have := h.len
  omega
theorem SmDs.hb (h : SmDs ds) : ∀ i : Int, 0 ≤ i → i ≤ ds.length → (firstC ds i.toNat : Int) ≤ 1000000000 := fun i i0 i1 => by
  have := h.fc i.toNat (by omega); omega
theorem SmDs.hb' (h : SmDs ds) : ∀ i : Int, 0 ≤ i → i ≤ ds.length → (firstC ds i.toNat : Int) ≤ 1000000 * 1000000 := fun i i0 i1 => by
  have := h.fc i.toNat (by omega); omega
/-- a number of a constructor -/
theorem conI_iff : 0 ≤ conI ds c ↔ 0 ≤ c ∧ c < firstC ds ds.length := by
  constructor
  · intro h
    rcases conI_cases ds c with ⟨h1, _⟩ | ⟨h1, h2, h3, h4⟩
    · omega
    · have e := firstC_succ (ds := ds) h1 h2
      have := firstC_mono (ds := ds) (a := (conI ds c + 1).toNat) (b := ds.length) (by omega)
      obtain ⟨q1, q2⟩ := h3
      omega
  · rintro ⟨h0, h1⟩
    rcases conI_cases ds c with ⟨h2, h3⟩ | ⟨h2, _⟩
    · exfalso
      have key : ∀ n : Nat, n ≤ ds.length → (firstC ds n : Int) ≤ c := by
        intro n
        induction n with
        | zero => intro _; simp [firstC]; omega
        | succ n ih =>
          intro hn
          have h4 := ih (by omega)
          have h5 := h3 n (by omega) (by omega)
          have e := firstC_succ (ds := ds) (i := n) (by omega) (by omega)
          rw [show ((n : Int) + 1).toNat = n + 1 from by omega, show ((n : Int)).toNat = n from by omega] at e
          unfold conTyOk at h5
          rw [show ((n : Int)).toNat = n from by omega] at h5
          omega
      have := key ds.length (Nat.le_refl _)
      omega
    · exact h2
end
section
variable {u v w : World} {x y xf s t : Sl} {l ws fs ps ls : List Int} {ds : List DeclD} {b m n k f a e i : Int}
theorem typesOk.sm (h : typesOk ds) : SmDs ds := by
  refine ⟨h.1, fun d hd => ?_⟩
  obtain ⟨i, hi, rfl⟩ := List.mem_iff_getElem.1 hd
  have := (declOk_easy (h.2 i (by omega) (by omega))).2.2.1
  rwa [nth_of (i := i) (l := ds) (a := ds[i]) (by simp [hi])] at this
noncomputable def conTyV (ds : List DeclD) (c : Int) : Int := if conI ds c < 0 then -1 else conI ds c + 1
theorem c_specConType (hx : Read v x ds) (hd : SmDs ds) : Fn Tryz.prog 106 #[x.val, .int .i64 n] v (.int .i64 (conTyV ds n)) := by
  obtain ⟨r, h1, h2⟩ := c_conType (n := n) hx (by have := hd.len; omega) (fun d h => by have := hd.cons d h; omega) hd.hb'
  have : r = conTyV ds n := by
    unfold conTyV
    rcases h2 with ⟨rfl, h2⟩ | ⟨r1, r2, r3, r4⟩
    · rw [conI_none h2, if_pos (by omega)]
    · rw [conI_some (by omega) (by omega) r3 r4, if_neg (by omega)]; omega
  rw [← this]; exact h1
/-- the program's own look-up of a constructor -/
theorem c_conAt (hx : Read v x ds) (hd : SmDs ds) (hn : -1000000 ≤ n ∧ n ≤ 1000000) : ∃ z : Sl, Read v z (conF ds n) ∧ Fn Tryz.prog 138 #[x.val, .int .i64 n] v (.tuple #[.int .i64 (conTyV ds n), .agg #[z.val]]) := by
  have hxn := hx.n
  have hlen := hd.len
  have hz : ∃ z : Sl, Read v z (conF ds n) ∧ (conI ds n < 0 → z = Sl.mk none 0 0) ∧ (0 ≤ conI ds n → ∀ (xf : Sl) (w : World), Sub v w → w.cell? ((elA x (conI ds n) 3).add 2) = some xf.val → w.cell? ((elA xf (n - firstC ds (conI ds n).toNat) 1).add 0) = some z.val) := by
    rcases conI_cases ds n with ⟨h1, _⟩ | ⟨h1, h2, h3, h4⟩
    · refine ⟨Sl.mk none 0 0, ?_, fun _ => rfl, fun h => by omega⟩
      unfold conF
      rw [if_pos (by omega)]
      exact ReadB.nil
    · obtain ⟨f_cons, e1, e2, e3, i1, i2, r1⟩ := (hx.src (.refl v)).ofDeclD h1 h2
      obtain ⟨q1, q2⟩ := h3
      obtain ⟨f_fields, e4, r2⟩ := (r1.src (.refl v)).ofConD (i := n - firstC ds (conI ds n).toNat) (by omega) (by omega)
      refine ⟨f_fields, ?_, fun h => by omega, fun _ xf w hs hc => ?_⟩
      · unfold conF
        rw [if_neg (by omega)]
        exact r2
      · have := cell_sub hs e3
        rw [this] at hc
        cases f_cons; cases xf
        simp only [Sl.val, Option.some.injEq, Value.slice.injEq] at hc
        obtain ⟨rfl, rfl, rfl⟩ := hc
        exact cell_sub hs e4
  obtain ⟨z, hzr, hz0, hz1⟩ := hz
  refine ⟨z, hzr, ?_⟩
  refine of138 _ _ _ _ ?_
  unfold vc138
  refine ⟨fun c i w => Sub v w ∧ 0 ≤ i ∧ i ≤ ds.length ∧ c = n - firstC ds i.toNat ∧ ∀ j : Int, 0 ≤ j → j < i → ¬ conTyOk ds n j, fun _ i _ => (ds.length - i).toNat, ⟨.refl v, by omega, by omega, by simp [firstC], fun j j0 j1 => by omega⟩, ?_⟩
  rintro c i w ⟨hs, i0, i1, hc, h⟩
  dsimp only
  refine ⟨fun hi => ?_, fun hi => ?_⟩
  · simp only [bls] at hi
    have hil : i < ds.length := by omega
    have hfc := hd.fc i.toNat (by omega)
    obtain ⟨f_cons, e1, e2, e3, j1, j2, r1⟩ := (hx.src hs).ofDeclD i0 hil
    have hfn := r1.n
    have hcl := hd.cons _ (nth_mem (l := ds) i0 hil)
    refine go_ix hx i0 hil ?_
    refine ⟨_, _, f_cons, ⟨e1, e2, e3⟩, fun hq => ?_, fun hq => ?_⟩
    · simp only [bls] at hq
      have hk : conTyOk ds n i := ⟨by omega, by omega⟩
      have hci := conI_some i0 hil hk h
      refine go_wr (by omega) (by omega) ?_
      refine go_ix r1 (by omega) (by omega) ?_
      refine ⟨z, ?_, ?_, hs⟩
      · rw [hc, ← hci]
        exact hz1 (by omega) f_cons w hs (by rw [hci]; exact e3)
      · unfold conTyV
        rw [hci, if_neg (by omega)]
    · have hk : ¬ conTyOk ds n i := fun hk => by
        obtain ⟨q1, q2⟩ := hk
        simp only [Bool.and_eq_false_iff, decide_eq_false_iff_not] at hq
        omega
      have e := firstC_succ (ds := ds) i0 hil
      refine go_wr (by omega) (by omega) ?_
      refine go_wr (by omega) (by omega) ?_
      refine ⟨rfl, ⟨hs, by omega, by omega, by omega, fun j j0 j1 => ?_⟩, by omega⟩
      by_cases e : j = i
      · rw [e]; exact hk
      · exact h j j0 (by omega)
  · simp only [bls] at hi
    have hci := conI_none (c := n) fun j j0 j1 => h j j0 (by omega)
    refine ⟨?_, hs⟩
    rw [hz0 (by omega)]
    unfold conTyV
    rw [hci, if_pos (by omega)]
    rfl
theorem c_fieldsOf (hx : Read v x ds) (hd : SmDs ds) (hn : -1000000 ≤ n ∧ n ≤ 1000000) : ∃ z : Sl, Read v z (conF ds n) ∧ Fn Tryz.prog 125 #[x.val, .int .i64 n] v z.val := by
  obtain ⟨z, hz, h⟩ := c_conAt hx hd hn
  refine ⟨z, hz, ?_⟩
  refine of125 _ _ _ _ ?_
  unfold vc125
  exact ⟨_, z, h, rfl, .refl v⟩
theorem firstC_take {n : Nat} (h : n ≤ ds.length) : firstC (ds.take n) n = firstC ds n := by
  unfold firstC; rw [List.take_take, Nat.min_self]
theorem c_implConsOf (hx : Read v x ds) (hd : SmDs ds) (hn : InI n) : Mk Tryz.prog 124 #[x.val, .int .i64 n] v fun r J => ∃ z, r = z.val ∧ Own v z (consL ds n) J := by
  refine of124 _ _ _ _ ?_
  unfold vc124
  have hxn := hx.n
  have hlen := hd.len
  refine ⟨fun hq => ?_, fun hq => ?_⟩
  · simp only [bls] at hq
    have hno : consL ds n = [] := if_neg (fun h => by omega)
    exact ⟨[], St.refl v, ⟨none, 0, 0⟩, rfl, by rw [hno]; exact Own.nil v⟩
  · simp only [bls] at hq
    have hr : 1 ≤ n ∧ n ≤ ds.length := by omega
    have hyes : consL ds n = (List.range (nth ds (n - 1)).cons.length).map fun (k : Nat) => (firstC ds (n - 1).toNat : Int) + k := if_pos hr
    have h0 : 0 ≤ n - 1 := by omega
    have h1 : n - 1 < ds.length := by omega
    have hcl := hd.cons _ (nth_mem (l := ds) h0 h1)
    have hbf := hd.fc (n - 1).toNat (by omega)
    have hcut := hx.cut (lo := 0) (hi := n - 1) (by omega) (by omega) (by omega)
    simp only [show ((0 : Int)).toNat = 0 from rfl, List.drop_zero] at hcut
    have hcutn := hcut.n
    have hcs : Dat.sz DeclD = 3 := rfl
    rw [hcs] at hcut hcutn
    have hcc := c_conCount hcut (by rw [List.length_take]; omega) (fun d h => by have := hd.cons d (List.mem_of_mem_take h); omega)
    rw [List.length_take, show min (n - 1).toNat ds.length = (n - 1).toNat from by omega, firstC_take (by omega)] at hcc
    refine go_wr (by omega) (by omega) ?_
    refine ⟨⟨by omega, by omega, by obtain ⟨_, hr2, _⟩ := hx; have := hr2.2.1; omega⟩, ?_⟩
    refine ⟨_, hcc, ?_⟩
    refine go_wr (by omega) (by omega) ?_
    refine go_ix hx h0 h1 ?_
    refine ld_decl_cons (hx.src (.refl v)) h0 h1 ?_
    intro g hg
    have hgn := hg.n
    refine ⟨fun z i w => ∃ I, Own v z ((List.range i.toNat).map fun (k : Nat) => (firstC ds (n - 1).toNat : Int) + k) I ∧ St v w (I ++ []) ∧ 0 ≤ i ∧ i ≤ (nth ds (n - 1)).cons.length, fun _ i _ => ((nth ds (n - 1)).cons.length - i).toNat, ⟨[], Own.nil v, St.refl v, by omega, by omega⟩, ?_⟩
    rintro z i w ⟨I, hO, hS, i0, i1⟩
    dsimp only
    refine ⟨fun hi => ?_, fun hi => ?_⟩
    · simp only [bls] at hi
      refine go_wr (by omega) (by omega) ?_
      refine St.build (α := Int) hS (by (repeat' (first | exact VsOf.nil | apply VsOf.cons | (apply VOf.int; first | assumption | (constructor <;> first | omega | (simp only [List.length_set, List.length_append, List.length_replicate, List.length_cons, List.length_nil, List.length_take, List.length_drop, List.length_map, List.length_singleton] at *; omega))) | exact VOf.bool | exact VOf.str))) rfl (by decide) ?_
      intro x4 w4 I4 hO4 hS hs
      refine ⟨_, rfl, ?_⟩
      refine Own.append hO hS (Own.src hO4 hS) (by simp; omega) (by decide) ?_
      intro x5 w5 I5 hO5 hS
      refine ⟨_, rfl, ?_⟩
      refine go_wr (by omega) (by omega) ?_
      refine ⟨⟨I5, ?_, hS.to, by omega, by omega⟩, by omega⟩
      rw [show (i + 1).toNat = i.toNat + 1 from by omega, List.range_succ, List.map_append, List.map_singleton, show ((i.toNat : Nat) : Int) = i from by omega]
      exact hO5
    · simp only [bls] at hi
      rw [show i.toNat = (nth ds (n - 1)).cons.length from by omega] at hO
      exact ⟨I, by simpa using hS, z, rfl, by rw [hyes]; exact hO⟩
end
end Go.Vc

namespace Go.Vc
open Go Go.Proofs Go.RowKit
set_option linter.all false

def setsR (op : Int) : Bool := (((decide (op ≥ 0) && decide (op ≤ 11)) || decide (op = 18)) || decide (op = 19))
def opOk (op : Int) : Prop := 0 ≤ op ∧ op ≤ 24 ∧ op ≠ 7 ∧ op ≠ 8 ∧ op ≠ 12 ∧ op ≠ 13
/-- Num of an instruction fits -/
def numV (ds : List DeclD) (ss : List SigD) (at_ end_ op num : Int) (jl : Nat) : Prop :=
  (op = 0 → -999 ≤ num ∧ num ≤ 999) ∧ (op = 6 → 0 ≤ num ∧ num < firstC ds ds.length) ∧ (op = 9 ∨ op = 24 → 0 ≤ num ∧ num < ss.length) ∧ (op = 10 → 0 ≤ num ∧ num < ss.length ∧ (nth ss num).lent.length = 0) ∧
  (op = 19 → 0 ≤ num ∧ num < 3) ∧ (op = 20 ∨ op = 22 → at_ < num ∧ num < end_) ∧ (op = 21 → 0 < (consL ds num).length ∧ jl = (consL ds num).length) ∧
  (op = 1 ∨ op = 2 ∨ op = 3 ∨ op = 4 ∨ op = 5 ∨ op = 11 ∨ op = 14 ∨ op = 15 ∨ op = 16 ∨ op = 17 ∨ op = 18 ∨ op = 23 → num = 0)
noncomputable def numVB (ds : List DeclD) (ss : List SigD) (at_ end_ op num : Int) (jl : Nat) : Bool := @decide (numV ds ss at_ end_ op num jl) (Classical.propDecidable _)
noncomputable def argLo (ds : List DeclD) (ss : List SigD) (op num : Int) : Int :=
  if op = 0 ∨ op = 22 then 0 else if op = 1 ∨ op = 2 ∨ op = 3 ∨ op = 4 ∨ op = 11 then 2 else if op = 6 then (conF ds num).length else if op = 9 ∨ op = 24 then (nth ss num).params.length else if op = 10 then ((nth ss num).params.length : Int) - 1 else 1
noncomputable def argHi (ds : List DeclD) (ss : List SigD) (op num : Int) : Int := if op = 16 ∨ op = 17 then 4 else argLo ds ss op num
/-- an instruction is valid -/
def instrOk (ds : List DeclD) (ss : List SigD) (regs end_ at_ : Int) (c : InstrD) : Prop :=
  opOk c.op ∧ c.args.all (laterB 0 (regs - 1)) = true ∧ (0 ≤ c.dst ∧ c.dst < regs) ∧ (c.dst = 0 ∨ setsR c.op = true) ∧ (0 ≤ c.into ∧ c.into ≤ regs) ∧ (c.into = 0 ∨ c.op = 6) ∧ (c.op = 21 ∨ c.jumps.length = 0) ∧
  c.jumps.all (laterB (at_ + 1) (end_ - 1)) = true ∧ numV ds ss at_ end_ c.op c.num c.jumps.length ∧ argLo ds ss c.op c.num ≤ c.args.length ∧ (c.args.length : Int) ≤ argHi ds ss c.op c.num
noncomputable def instrB (ds : List DeclD) (ss : List SigD) (regs end_ at_ : Int) (c : InstrD) : Bool := @decide (instrOk ds ss regs end_ at_ c) (Classical.propDecidable _)
section
variable {u v w : World} {x y z xf s t : Sl} {l ws fs ps ls : List Int} {ds : List DeclD} {ss : List SigD} {b m n k f a e i op num regs at_ end_ : Int} {c : InstrD} {jl : Nat} {q : Bool}
theorem numVB_eq (h : q = true ↔ numV ds ss at_ end_ op num jl) : q = numVB ds ss at_ end_ op num jl := by
  unfold numVB
  cases q with
  | true => exact (@decide_eq_true _ (Classical.propDecidable _) (h.1 rfl)).symm
  | false => exact (@decide_eq_false _ (Classical.propDecidable _) (fun hh => Bool.noConfusion (h.2 hh))).symm
theorem numVB_iff : numVB ds ss at_ end_ op num jl = true ↔ numV ds ss at_ end_ op num jl := by
  unfold numVB; exact @decide_eq_true_iff _ (Classical.propDecidable _)
theorem instrB_t (h : instrOk ds ss regs end_ at_ c) : instrB ds ss regs end_ at_ c = true := by unfold instrB; exact @decide_eq_true _ (Classical.propDecidable _) h
theorem instrB_f (h : ¬ instrOk ds ss regs end_ at_ c) : instrB ds ss regs end_ at_ c = false := by unfold instrB; exact @decide_eq_false _ (Classical.propDecidable _) h
theorem instrB_eq (h : q = true ↔ instrOk ds ss regs end_ at_ c) : q = instrB ds ss regs end_ at_ c := by
  cases q with
  | true => rw [instrB_t (h.1 rfl)]
  | false => rw [instrB_f fun hh => Bool.noConfusion (h.2 hh)]
theorem laterB_gt {cn : Nat} : (decide (n > a) && decide (n < (cn : Int))) = laterB (a + 1) (cn - 1) n := by
  unfold laterB
  rw [Bool.eq_iff_iff]
  simp only [Bool.and_eq_true, decide_eq_true_eq]
  omega
theorem c_setsRegister : Fn Tryz.prog 88 #[.int .i64 n] v (.bool (setsR n)) := by
  refine of88 _ _ _ ?_
  unfold vc88
  exact ⟨rfl, .refl v⟩
theorem c_later {k1 k2 : Addr} {code : Sl} (h1 : v.cell? (k1.add 0) = some (.int .i64 at_)) (h2 : v.cell? (k2.add 4) = some code.val) :
    Fn Tryz.prog 89 #[.int .i64 n, .pointer (some (k1.add 0)), .pointer (some (k2.add 0))] v (.bool (laterB (at_ + 1) ((code.n : Int) - 1) n)) := by
  refine of89 _ _ _ _ _ ?_
  unfold vc89
  exact ⟨_, h1, code, fun _ => h2, by rw [laterB_gt], .refl v⟩
theorem c_notLater {k0 k1 k2 : Addr} {code : Sl} (h0 : v.cell? (k0.add 0) = some (.func (.func 89) #[] #[.pointer (some (k1.add 0)), .pointer (some (k2.add 0))])) (h1 : v.cell? (k1.add 0) = some (.int .i64 at_)) (h2 : v.cell? (k2.add 4) = some code.val) :
    Fn Tryz.prog 91 #[.int .i64 n, .pointer (some (k0.add 0))] v (.bool (!laterB (at_ + 1) ((code.n : Int) - 1) n)) := by
  refine of91 _ _ _ _ ?_
  unfold vc91
  refine ⟨⟨_, rfl⟩, h0, 89, [.pointer (some (k1.add 0)), .pointer (some (k2.add 0))], rfl, ?_⟩
  refine Trip.mono' (c_later (n := n) h1 h2) ?_
  rintro _ w1 ⟨rfl, hs⟩
  exact ⟨_, rfl, rfl, hs⟩
theorem c_numValid {k1 k2 : Addr} {code : Sl} (hop : opOk op) (hx : Read v x ds) (hd : SmDs ds) (hs : Read v s ss) (hz : z.n = jl) (hn : InI num) (h1 : v.cell? (k1.add 0) = some (.int .i64 at_)) (h2 : v.cell? (k2.add 4) = some code.val) :
    Fn Tryz.prog 92 #[.agg #[x.val, s.val], .agg #[.int .i64 op, .int .i64 a, .int .i64 num, .int .i64 b, y.val, z.val], .func (.func 89) #[] #[.pointer (some (k1.add 0)), .pointer (some (k2.add 0))]] v (.bool (numVB ds ss at_ code.n op num jl)) := by
  refine of92 _ _ _ _ _ _ _ _ _ _ _ _ _ ?_
  unfold vc92
  have hsn := hs.n
  have hlen := hd.len
  have hcc := c_conCount hx (by omega) (fun d h => by have := hd.cons d h; omega)
  unfold opOk at hop
  have hop' : op = 0 ∨ op = 6 ∨ (op = 9 ∨ op = 24) ∨ op = 10 ∨ op = 19 ∨ (op = 20 ∨ op = 22) ∨ op = 21 ∨ (op = 1 ∨ op = 2 ∨ op = 3 ∨ op = 4 ∨ op = 5 ∨ op = 11 ∨ op = 14 ∨ op = 15 ∨ op = 16 ∨ op = 17 ∨ op = 18 ∨ op = 23) := by omega
  rcases hop' with rfl | rfl | hop' | rfl | rfl | hop' | rfl | hop'
  · repeat (first | refine ⟨fun h => absurd (of_decide_eq_true h) (by omega), fun _ => ?_⟩ | refine ⟨fun _ => ?_, fun h => absurd (of_decide_eq_false h) (by omega)⟩)
    refine ⟨?_, .refl v⟩
    congr 1
    refine numVB_eq ?_
    simp [numV]
  · repeat (first | refine ⟨fun h => absurd (of_decide_eq_true h) (by omega), fun _ => ?_⟩ | refine ⟨fun _ => ?_, fun h => absurd (of_decide_eq_false h) (by omega)⟩)
    refine ⟨_, fun _ => hcc, ?_, .refl v⟩
    congr 1
    refine numVB_eq ?_
    simp [numV]
  · rcases hop' with rfl | rfl
    all_goals
      repeat (first | refine ⟨fun h => absurd (of_decide_eq_true h) (by omega), fun _ => ?_⟩ | refine ⟨fun _ => ?_, fun h => absurd (of_decide_eq_false h) (by omega)⟩)
      refine ⟨?_, .refl v⟩
      congr 1
      refine numVB_eq ?_
      simp [numV, hsn]
  · repeat (first | refine ⟨fun h => absurd (of_decide_eq_true h) (by omega), fun _ => ?_⟩ | refine ⟨fun _ => ?_, fun h => absurd (of_decide_eq_false h) (by omega)⟩)
    have hr : (decide (num ≥ 0) && decide (num < (s.n : Int))) = true → 0 ≤ num ∧ num < ss.length := fun h => by
      simp only [Bool.and_eq_true, decide_eq_true_eq] at h; omega
    refine go_ixg hs hr ?_
    refine ldg_sig_lent (hs.src (.refl v)) hr ?_
    intro g hg
    refine ⟨?_, .refl v⟩
    congr 1
    refine numVB_eq ?_
    constructor
    · intro h
      simp only [Bool.and_eq_true, decide_eq_true_eq] at h
      have hgn := (hg (by simp [h.1])).n
      have h3 := h.2
      have h4 := h.1.2
      have h5 := h.1.1
      simp [numV]
      exact ⟨by omega, by omega, List.eq_nil_of_length_eq_zero (by omega)⟩
    · intro h
      have h3 := h.2.2.2.1 rfl
      have hgn := (hg (by simp; omega)).n
      simp
      omega
  · repeat (first | refine ⟨fun h => absurd (of_decide_eq_true h) (by omega), fun _ => ?_⟩ | refine ⟨fun _ => ?_, fun h => absurd (of_decide_eq_false h) (by omega)⟩)
    refine ⟨?_, .refl v⟩
    congr 1
    refine numVB_eq ?_
    simp [numV]
  · rcases hop' with rfl | rfl
    all_goals
      repeat (first | refine ⟨fun h => absurd (of_decide_eq_true h) (by omega), fun _ => ?_⟩ | refine ⟨fun _ => ?_, fun h => absurd (of_decide_eq_false h) (by omega)⟩)
      refine Trip.mono' (c_later (n := num) h1 h2) ?_
      rintro _ w1 ⟨rfl, hs⟩
      refine ⟨_, rfl, ?_, hs⟩
      congr 1
      refine numVB_eq ?_
      unfold laterB
      simp [numV]
      omega
  · repeat (first | refine ⟨fun h => absurd (of_decide_eq_true h) (by omega), fun _ => ?_⟩ | refine ⟨fun _ => ?_, fun h => absurd (of_decide_eq_false h) (by omega)⟩)
    refine Trip.mono' (c_implConsOf hx hd hn) ?_
    rintro _ w1 ⟨J, hS, g, rfl, hO⟩
    have hgn := hO.n
    refine ⟨_, rfl, ?_, hS.sub⟩
    congr 1
    refine numVB_eq ?_
    simp [numV, hgn, hz]
    omega
  · rcases hop' with rfl | rfl | rfl | rfl | rfl | rfl | rfl | rfl | rfl | rfl | rfl | rfl
    all_goals
      repeat (first | refine ⟨fun h => absurd (of_decide_eq_true h) (by omega), fun _ => ?_⟩ | refine ⟨fun _ => ?_, fun h => absurd (of_decide_eq_false h) (by omega)⟩)
      refine ⟨?_, .refl v⟩
      congr 1
      refine numVB_eq ?_
      simp [numV]
theorem c_argsOf (hop : opOk op) (hx : Read v x ds) (hd : SmDs ds) (hs : Read v s ss) (hv : numV ds ss at_ end_ op num jl) :
    Fn Tryz.prog 93 #[.agg #[x.val, s.val], .agg #[.int .i64 op, .int .i64 a, .int .i64 num, .int .i64 b, y.val, z.val]] v (.tuple #[.int .i64 (argLo ds ss op num), .int .i64 (argHi ds ss op num)]) := by
  refine of93 _ _ _ _ _ _ _ _ _ _ ?_
  unfold vc93
  have hlen := hd.len
  unfold opOk at hop
  have hop' : (op = 0 ∨ op = 22) ∨ (op = 1 ∨ op = 2 ∨ op = 3 ∨ op = 4 ∨ op = 11) ∨ op = 6 ∨ (op = 9 ∨ op = 24) ∨ op = 10 ∨ (op = 16 ∨ op = 17) ∨ (op = 5 ∨ op = 14 ∨ op = 15 ∨ op = 18 ∨ op = 19 ∨ op = 20 ∨ op = 21 ∨ op = 23) := by omega
  rcases hop' with hop' | hop' | rfl | hop' | rfl | hop' | hop'
  · rcases hop' with rfl | rfl
    all_goals
      repeat (first | refine ⟨fun h => absurd (of_decide_eq_true h) (by omega), fun _ => ?_⟩ | refine ⟨fun _ => ?_, fun h => absurd (of_decide_eq_false h) (by omega)⟩)
      exact ⟨by simp [argLo, argHi], .refl v⟩
  · rcases hop' with rfl | rfl | rfl | rfl | rfl
    all_goals
      repeat (first | refine ⟨fun h => absurd (of_decide_eq_true h) (by omega), fun _ => ?_⟩ | refine ⟨fun _ => ?_, fun h => absurd (of_decide_eq_false h) (by omega)⟩)
      exact ⟨by simp [argLo, argHi], .refl v⟩
  · have h6 := hv.2.1 rfl
    have hfc := hd.fc ds.length (Nat.le_refl _)
    obtain ⟨g, hg, hf⟩ := c_fieldsOf (n := num) hx hd (by omega)
    repeat (first | refine ⟨fun h => absurd (of_decide_eq_true h) (by omega), fun _ => ?_⟩ | refine ⟨fun _ => ?_, fun h => absurd (of_decide_eq_false h) (by omega)⟩)
    exact ⟨g, hf, by simp [argLo, argHi, hg.n], .refl v⟩
  · have h9 := hv.2.2.1 (by omega)
    rcases hop' with rfl | rfl
    all_goals
      repeat (first | refine ⟨fun h => absurd (of_decide_eq_true h) (by omega), fun _ => ?_⟩ | refine ⟨fun _ => ?_, fun h => absurd (of_decide_eq_false h) (by omega)⟩)
      refine go_ix hs h9.1 h9.2 ?_
      refine ld_sig_params (hs.src (.refl v)) h9.1 h9.2 ?_
      intro g hg
      exact ⟨by simp [argLo, argHi, hg.n], .refl v⟩
  · have h9 := hv.2.2.2.1 rfl
    repeat (first | refine ⟨fun h => absurd (of_decide_eq_true h) (by omega), fun _ => ?_⟩ | refine ⟨fun _ => ?_, fun h => absurd (of_decide_eq_false h) (by omega)⟩)
    refine go_ix hs h9.1 h9.2.1 ?_
    refine ld_sig_params (hs.src (.refl v)) h9.1 h9.2.1 ?_
    intro g hg
    have hgn := hg.n
    have hgl := hg.le
    refine go_wr (by omega) (by omega) ?_
    exact ⟨by simp [argLo, argHi, hgn], .refl v⟩
  · rcases hop' with rfl | rfl
    all_goals
      repeat (first | refine ⟨fun h => absurd (of_decide_eq_true h) (by omega), fun _ => ?_⟩ | refine ⟨fun _ => ?_, fun h => absurd (of_decide_eq_false h) (by omega)⟩)
      exact ⟨by simp [argLo, argHi], .refl v⟩
  · rcases hop' with rfl | rfl | rfl | rfl | rfl | rfl | rfl | rfl
    all_goals
      repeat (first | refine ⟨fun h => absurd (of_decide_eq_true h) (by omega), fun _ => ?_⟩ | refine ⟨fun _ => ?_, fun h => absurd (of_decide_eq_false h) (by omega)⟩)
      exact ⟨by simp [argLo, argHi], .refl v⟩
theorem c_instrValid {px pl cx : Sl} {n1 : Int} (hx : Read v x ds) (hd : SmDs ds) (hs : Read v s ss) (hg : Read v y c.args) (hh : Read v z c.jumps) (hop : InI c.op) (hnum : InI c.num) (hcx : cx.n = e.toNat) (he : 0 ≤ e) :
    Fn Tryz.prog 52 #[.agg #[x.val, s.val], .agg #[px.val, pl.val, .int .i64 n1, .int .i64 regs, cx.val], .int .i64 at_, .agg #[.int .i64 c.op, .int .i64 c.dst, .int .i64 c.num, .int .i64 c.into, y.val, z.val]] v (.bool (instrB ds ss regs e at_ c)) := by
  refine of52 _ _ _ _ _ _ _ _ _ _ _ _ _ _ _ _ ?_
  unfold vc52
  have hgn := hg.n
  have hgl := hg.le
  have hhn := hh.n
  have hS := St.refl v
  refine St.box (vals := [px.val, pl.val, .int .i64 n1, .int .i64 regs, cx.val]) hS ?_
  intro a1 w2 I1 hC1 hS hs2
  refine St.box (vals := [.int .i64 at_]) hS ?_
  intro a3 w4 I3 hC3 hS hs4
  have bad : ¬ instrOk ds ss regs e at_ c → Value.bool false = .bool (instrB ds ss regs e at_ c) := fun h => by rw [instrB_f h]
  refine ⟨fun hq => ⟨?_, hS.sub⟩, fun hq => ?_⟩
  · refine bad fun h => ?_
    have h1 := h.1
    unfold opOk at h1
    simp only [bls] at hq
    omega
  have h1 : opOk c.op := by
    unfold opOk
    simp only [bls] at hq
    omega
  refine ⟨_, fun _ => Cel.load hC1 hS rfl, ?_⟩
  refine ⟨_, fun _ _ => c_setsRegister, ?_⟩
  refine ⟨_, fun _ => Cel.load hC1 hS rfl, ?_⟩
  refine ⟨fun hq => ⟨?_, hS.sub⟩, fun hq => ?_⟩
  · refine bad fun h => ?_
    obtain ⟨_, _, q1, q2, q3, q4, _⟩ := h
    simp only [bls] at hq
    rcases hq with ((((hq | hq) | hq) | hq) | hq) | hq
    · omega
    · omega
    · rcases q2 with q2 | q2
      · omega
      · rw [q2] at hq; exact absurd hq.2 (by simp)
    · omega
    · omega
    · omega
  have hq2 : (0 ≤ c.dst ∧ c.dst < regs) ∧ (c.dst = 0 ∨ setsR c.op = true) ∧ (0 ≤ c.into ∧ c.into ≤ regs) ∧ (c.into = 0 ∨ c.op = 6) := by
    simp only [bls] at hq
    obtain ⟨⟨⟨⟨⟨q1, q2⟩, q3⟩, q4⟩, q5⟩, q6⟩ := hq
    exact ⟨⟨q1, q2⟩, q3, ⟨q4, q5⟩, q6⟩
  clear hq
  refine ⟨fun i w => w4 = w ∧ 0 ≤ i ∧ i ≤ c.args.length ∧ ∀ t ∈ c.args.take i.toNat, laterB 0 (regs - 1) t = true, fun i _ => (c.args.length - i).toNat, ⟨rfl, by omega, by omega, fun t ht => by simp at ht⟩, ?_⟩
  rintro i _ ⟨rfl, i0, i1, h⟩
  dsimp only
  refine ⟨fun hi => ?_, fun hi => ?_⟩
  · simp only [bls] at hi
    have hm := nth_mem (l := c.args) i0 (by omega)
    refine go_ix hg i0 (by omega) ?_
    refine ld_int (hg.mono hS.sub) i0 (by omega) ?_
    intro c0 c1
    refine ⟨_, fun _ => Cel.load hC1 hS rfl, ?_⟩
    refine ⟨fun hq => ⟨?_, hS.sub⟩, fun hq => ?_⟩
    · refine bad fun h => ?_
      have := List.all_eq_true.1 h.2.1 _ hm
      unfold laterB at this
      simp only [bls] at hq this
      omega
    · have hp : laterB 0 (regs - 1) (nth c.args i) = true := by
        unfold laterB
        simp only [bls] at hq ⊢
        omega
      refine go_wr (by omega) (by omega) ?_
      exact ⟨rfl, rfl, rfl, rfl, rfl, rfl, rfl, rfl, ⟨rfl, by omega, by omega, all_take i0 (by omega) h hp⟩, by omega⟩
  · simp only [bls] at hi
    rw [take_all (by omega)] at h
    have hargs : c.args.all (laterB 0 (regs - 1)) = true := List.all_eq_true.2 h
    clear h hi i0 i1 i
    refine St.box (vals := [.nilFunc]) hS ?_
    intro a17 w18 I17 hC17 hS hs18
    refine Cel.store hC17 hS (by simp) ?_
    intro w19 I19 hC17 hS
    replace hC17 : Cel a17 [.func (.func 89) #[] #[.pointer (some (a3.add 0)), .pointer (some (a1.add 0))]] I19 := hC17
    replace hS : St v w19 (I19 ++ (I3 ++ (I1 ++ []))) := hS.to
    refine ⟨fun hq => ?_, fun hq => ⟨?_, hS.sub⟩⟩
    · have hj0 : c.op = 21 ∨ c.jumps.length = 0 := by simp only [bls] at hq; omega
      refine Trip.mono' (c_containsFunc (p := fun t => !laterB (at_ + 1) ((cx.n : Int) - 1) t) (hh.mono hS.sub) fun w hs n _ => c_notLater (cell_sub hs (Cel.load hC17 hS rfl)) (cell_sub hs (Cel.load hC3 hS rfl)) (cell_sub hs (Cel.load hC1 hS rfl))) ?_
      rintro _ w21 ⟨rfl, hs21⟩
      replace hS := hS.sub_w hs21
      have hce : (cx.n : Int) = e := by omega
      refine ⟨_, rfl, fun hq => ⟨?_, hS.sub⟩, fun hq => ?_⟩
      · refine bad fun h => ?_
        have h8 := List.all_eq_true.1 h.2.2.2.2.2.2.2.1
        obtain ⟨t, ht, hp⟩ := List.any_eq_true.1 hq
        have := h8 t ht
        rw [hce, this] at hp
        cases hp
      have hjumps : c.jumps.all (laterB (at_ + 1) (e - 1)) = true := by
        rw [List.all_eq_true]
        intro t ht
        rw [List.any_eq_false] at hq
        have := hq t ht
        rw [hce] at this
        simpa using this
      refine ⟨⟨_, rfl⟩, Cel.load hC17 hS rfl, _, c_numValid h1 (hx.mono hS.sub) hd (hs.mono hS.sub) hhn hnum (Cel.load hC3 hS rfl) (Cel.load hC1 hS rfl), fun hq => ⟨?_, hS.sub⟩, fun hq => ?_⟩
      · refine bad fun h => ?_
        have h9 := h.2.2.2.2.2.2.2.2.1
        rw [hce, numVB_iff.2 h9] at hq
        cases hq
      · rw [hce] at hq
        have h9 := numVB_iff.1 (show numVB ds ss at_ e c.op c.num c.jumps.length = true by simpa using hq)
        refine ⟨_, _, c_argsOf h1 (hx.mono hS.sub) hd (hs.mono hS.sub) h9, ?_, hS.sub⟩
        congr 1
        refine instrB_eq ?_
        rw [hgn]
        simp only [bls]
        constructor
        · intro h
          exact ⟨h1, hargs, hq2.1, hq2.2.1, hq2.2.2.1, hq2.2.2.2, hj0, hjumps, h9, h.1, h.2⟩
        · intro h
          exact h.2.2.2.2.2.2.2.2.2
    · refine bad fun h => ?_
      have := h.2.2.2.2.2.2.1
      simp only [bls] at hq
      omega
end
end Go.Vc

namespace Go.Vc
open Go Go.Proofs Go.RowKit
set_option linter.all false
/-- the signature of a procedure -/
def sigOf (p : ProcD) : SigD := ⟨p.params, p.lent, p.result⟩
theorem nth_sig (ps : List ProcD) (i : Int) : nth (ps.map sigOf) i = sigOf (nth ps i) := by
  unfold nth List.getD
  rw [List.getElem?_map]
  cases ps[i.toNat]? <;> rfl
theorem sets_eq {op : Int} (h : opOk op) : setsR op = setsB op := by
  unfold opOk at h
  unfold setsR setsB
  rw [Bool.eq_iff_iff]
  simp only [Bool.or_eq_true, Bool.and_eq_true, decide_eq_true_eq, Bool.not_eq_true', decide_eq_false_iff_not]
  omega
section
variable {ds : List DeclD} {ss : List SigD} {at_ end_ op num : Int} {jl : Nat}
theorem numV_int (h : op = 0) : numV ds ss at_ end_ op num jl ↔ -999 ≤ num ∧ num ≤ 999 := by subst h; simp [numV]
theorem numV_con (h : op = 6) : numV ds ss at_ end_ op num jl ↔ 0 ≤ num ∧ num < firstC ds ds.length := by subst h; simp [numV]
theorem numV_call (h : op = 9 ∨ op = 24) : numV ds ss at_ end_ op num jl ↔ 0 ≤ num ∧ num < ss.length := by rcases h with rfl | rfl <;> simp [numV]
theorem numV_close (h : op = 10) : numV ds ss at_ end_ op num jl ↔ 0 ≤ num ∧ num < ss.length ∧ (nth ss num).lent.length = 0 := by subst h; simp [numV]
theorem numV_load (h : op = 19) : numV ds ss at_ end_ op num jl ↔ 0 ≤ num ∧ num < 3 := by subst h; simp [numV]
theorem numV_jump (h : op = 20 ∨ op = 22) : numV ds ss at_ end_ op num jl ↔ at_ < num ∧ num < end_ := by rcases h with rfl | rfl <;> simp [numV]
theorem numV_switch (h : op = 21) : numV ds ss at_ end_ op num jl ↔ 0 < (consL ds num).length ∧ jl = (consL ds num).length := by subst h; simp [numV]
theorem numV_zero (h : op = 1 ∨ op = 2 ∨ op = 3 ∨ op = 4 ∨ op = 5 ∨ op = 11 ∨ op = 14 ∨ op = 15 ∨ op = 16 ∨ op = 17 ∨ op = 18 ∨ op = 23) : numV ds ss at_ end_ op num jl ↔ num = 0 := by
  rcases h with rfl | rfl | rfl | rfl | rfl | rfl | rfl | rfl | rfl | rfl | rfl | rfl <;> simp [numV]
theorem arg_0 (h : op = 0 ∨ op = 22) : argLo ds ss op num = 0 ∧ argHi ds ss op num = 0 := by rcases h with rfl | rfl <;> simp [argLo, argHi]
theorem arg_2 (h : op = 1 ∨ op = 2 ∨ op = 3 ∨ op = 4 ∨ op = 11) : argLo ds ss op num = 2 ∧ argHi ds ss op num = 2 := by rcases h with rfl | rfl | rfl | rfl | rfl <;> simp [argLo, argHi]
theorem arg_6 (h : op = 6) : argLo ds ss op num = (conF ds num).length ∧ argHi ds ss op num = (conF ds num).length := by subst h; simp [argLo, argHi]
theorem arg_9 (h : op = 9 ∨ op = 24) : argLo ds ss op num = (nth ss num).params.length ∧ argHi ds ss op num = (nth ss num).params.length := by rcases h with rfl | rfl <;> simp [argLo, argHi]
theorem arg_10 (h : op = 10) : argLo ds ss op num = ((nth ss num).params.length : Int) - 1 ∧ argHi ds ss op num = ((nth ss num).params.length : Int) - 1 := by subst h; simp [argLo, argHi]
theorem arg_16 (h : op = 16 ∨ op = 17) : argLo ds ss op num = 1 ∧ argHi ds ss op num = 4 := by rcases h with rfl | rfl <;> simp [argLo, argHi]
theorem arg_1 (h : op = 5 ∨ op = 14 ∨ op = 15 ∨ op = 18 ∨ op = 19 ∨ op = 20 ∨ op = 21 ∨ op = 23) : argLo ds ss op num = 1 ∧ argHi ds ss op num = 1 := by
  rcases h with rfl | rfl | rfl | rfl | rfl | rfl | rfl | rfl <;> simp [argLo, argHi]
end
section
variable {u v w : World} {x y z xf s t cx px pl : Sl} {l ws fs ls : List Int} {ds : List DeclD} {ss : List SigD} {ps : List ProcD} {b m n k f a e i op num regs at_ end_ n1 : Int} {c : InstrD} {code : List InstrD} {jl : Nat} {q : Bool}
theorem instrOk_iff (h1 : opOk c.op) (h2 : c.args.all (laterB 0 (regs - 1)) = true) (h3 : 0 ≤ c.dst ∧ c.dst ≤ regs - 1) (h4 : c.dst = 0 ∨ setsB c.op = true) (h5 : c.into = 0 ∨ c.op = 6) (h6 : c.op = 21 ∨ c.jumps.length = 0) :
    instrOk ds ss regs end_ at_ c ↔ (0 ≤ c.into ∧ c.into ≤ regs) ∧ c.jumps.all (laterB (at_ + 1) (end_ - 1)) = true ∧ numV ds ss at_ end_ c.op c.num c.jumps.length ∧ argLo ds ss c.op c.num ≤ c.args.length ∧ (c.args.length : Int) ≤ argHi ds ss c.op c.num := by
  unfold instrOk
  constructor
  · rintro ⟨_, _, _, _, k1, _, _, k2, k3, k4, k5⟩
    exact ⟨k1, k2, k3, k4, k5⟩
  · rintro ⟨k1, k2, k3, k4, k5⟩
    exact ⟨h1, h2, ⟨h3.1, by omega⟩, by rw [sets_eq h1]; exact h4, k1, h5, h6, k2, k3, k4, k5⟩
theorem instrOk_iff' (h1 : opOk c.op) (h2 : c.args.all (laterB 0 (regs - 1)) = true) (h3 : 0 ≤ c.dst ∧ c.dst ≤ regs - 1) (h4 : c.dst = 0 ∨ setsB c.op = true) (h5 : c.into = 0 ∨ c.op = 6) (h6 : c.op = 21 ∨ c.jumps.length = 0) (h7 : c.op ≠ 6) (h8 : c.op ≠ 21) :
    instrOk ds ss regs end_ at_ c ↔ numV ds ss at_ end_ c.op c.num c.jumps.length ∧ argLo ds ss c.op c.num ≤ c.args.length ∧ (c.args.length : Int) ≤ argHi ds ss c.op c.num := by
  rw [instrOk_iff h1 h2 h3 h4 h5 h6]
  have e : c.jumps = [] := List.eq_nil_of_length_eq_zero (by omega)
  constructor
  · rintro ⟨_, _, k⟩; exact k
  · intro k; exact ⟨⟨by omega, by omega⟩, by rw [e]; rfl, k⟩
set_option maxHeartbeats 1600000 in
theorem c_validInstr (hx : Read v x ds) (hd : SmDs ds) (hy : Read v y ps) (hcd : Read v cx code) (hcl : code.length ≤ 2000) (hr : -1000000 ≤ regs ∧ regs ≤ 1000000) (h0 : 0 ≤ at_) (h1 : at_ < code.length) :
    Fn Tryz.prog 66 #[.agg #[x.val, y.val], .agg #[px.val, pl.val, .int .i64 n1, .int .i64 regs, cx.val], .int .i64 at_] v (.bool (instrB ds (ps.map sigOf) regs code.length at_ (nth code at_))) := by
  refine of66 _ _ _ _ _ _ _ _ _ _ ?_
  unfold vc66
  have hyn := hy.n
  have hcn := hcd.n
  have hlen := hd.len
  obtain ⟨g1, g2, d1, d2, d3, d4, d5, d6, b1, b2, b3, b4, s1, s2⟩ := (hcd.src (.refl v)).ofInstrD h0 h1
  refine go_ix hcd h0 h1 ?_
  refine ⟨_, _, _, _, g1, g2, ⟨d1, d2, d3, d4, d5, d6⟩, ?_⟩
  clear d1 d2 d3 d4 d5 d6
  generalize nth code at_ = c at *
  have hg1 := s1.n
  have hg2 := s2.n
  have hgl := s1.le
  have bad : ¬ instrOk ds (ps.map sigOf) regs code.length at_ c → Value.bool false = .bool (instrB ds (ps.map sigOf) regs code.length at_ c) := fun h => by rw [instrB_f h]
  refine ⟨fun i w => v = w ∧ 0 ≤ i ∧ i ≤ c.args.length ∧ ∀ t ∈ c.args.take i.toNat, laterB 0 (regs - 1) t = true, fun i _ => (c.args.length - i).toNat, ⟨rfl, by omega, by omega, fun t ht => by simp at ht⟩, ?_⟩
  rintro i _ ⟨rfl, i0, i1, h⟩
  dsimp only
  refine ⟨fun hi => ?_, fun hi => ?_⟩
  · simp only [bls] at hi
    have hm := nth_mem (l := c.args) i0 (by omega)
    refine go_ix s1 i0 (by omega) ?_
    refine ld_int s1 i0 (by omega) ?_
    intro c0 c1
    refine go_wr (by omega) (by omega) ?_
    refine ⟨_, c_inRange, fun hq => ⟨?_, .refl v⟩, fun hq => ?_⟩
    · refine bad fun h => ?_
      have := List.all_eq_true.1 h.2.1 _ hm
      unfold laterB at this
      rw [this] at hq; cases hq
    · have hp : laterB 0 (regs - 1) (nth c.args i) = true := by unfold laterB; simpa using hq
      refine go_wr (by omega) (by omega) ?_
      exact ⟨rfl, rfl, rfl, rfl, rfl, rfl, rfl, rfl, rfl, rfl, rfl, rfl, rfl, ⟨rfl, by omega, by omega, all_take i0 (by omega) h hp⟩, by omega⟩
  simp only [bls] at hi
  rw [take_all (by omega)] at h
  have hargs : c.args.all (laterB 0 (regs - 1)) = true := List.all_eq_true.2 h
  clear h hi i0 i1 i
  refine go_wr (by omega) (by omega) ?_
  refine ⟨_, c_inRange, _, fun _ _ => c_sets, fun hq => ⟨?_, .refl v⟩, fun hq => ?_⟩
  · refine bad fun h => ?_
    obtain ⟨k0, _, q1, q2, q3, q4, q5, _⟩ := h
    rw [sets_eq k0] at q2
    simp only [bls] at hq
    rcases hq with ((hq | hq) | hq) | hq
    · omega
    · rcases q2 with q2 | q2
      · omega
      · rw [q2] at hq; exact absurd hq.2 (by simp)
    · omega
    · omega
  have hq2 : (0 ≤ c.dst ∧ c.dst ≤ regs - 1) ∧ (c.dst = 0 ∨ setsB c.op = true) ∧ (c.into = 0 ∨ c.op = 6) ∧ (c.op = 21 ∨ c.jumps.length = 0) := by
    simp only [bls] at hq
    obtain ⟨⟨⟨q1, q2⟩, q3⟩, q4⟩ := hq
    exact ⟨q1, q2, q3, by omega⟩
  clear hq
  obtain ⟨hdst, hset, hinto, hjmp⟩ := hq2
  rcases Classical.em (opOk c.op) with hok | hok
  · have I1 := fun h7 h8 => instrOk_iff' (ds := ds) (ss := ps.map sigOf) (end_ := code.length) (at_ := at_) hok hargs hdst hset hinto hjmp h7 h8
    have I2 := fun (_ : True) => instrOk_iff (ds := ds) (ss := ps.map sigOf) (end_ := code.length) (at_ := at_) hok hargs hdst hset hinto hjmp
    have hok' := hok
    unfold opOk at hok'
    have hop' : c.op = 0 ∨ (c.op = 1 ∨ c.op = 2 ∨ c.op = 3 ∨ c.op = 4 ∨ c.op = 11) ∨ (c.op = 5 ∨ c.op = 14 ∨ c.op = 15 ∨ c.op = 18 ∨ c.op = 23) ∨ c.op = 6 ∨ (c.op = 9 ∨ c.op = 24) ∨ c.op = 10 ∨ (c.op = 16 ∨ c.op = 17) ∨ c.op = 19 ∨ c.op = 20 ∨ c.op = 22 ∨ c.op = 21 := by omega
    clear hok'
    rcases hop' with hop | hop | hop | hop | hop | hop | hop | hop | hop | hop | hop
    · repeat (first | refine ⟨fun _ => ?_, fun h => absurd hop (of_decide_eq_false h)⟩ | refine ⟨fun h => absurd (of_decide_eq_true h) (by rw [hop]; decide), fun _ => ?_⟩)
      have hk := arg_0 (ds := ds) (ss := ps.map sigOf) (num := c.num) (.inl hop)
      refine ⟨_, fun _ => c_inRange, ?_, .refl v⟩
      congr 1
      refine instrB_eq ?_
      rw [I1 (by omega) (by omega), hk.1, hk.2, numV_int hop]
      simp only [Bool.and_eq_true, decide_eq_true_eq]
      omega
    · have hk := arg_2 (ds := ds) (ss := ps.map sigOf) (num := c.num) hop
      have hv := numV_zero (ds := ds) (ss := ps.map sigOf) (at_ := at_) (end_ := code.length) (op := c.op) (num := c.num) (jl := c.jumps.length) (by omega)
      rcases hop with hop | hop | hop | hop | hop
      all_goals
        repeat (first | refine ⟨fun _ => ?_, fun h => absurd hop (of_decide_eq_false h)⟩ | refine ⟨fun h => absurd (of_decide_eq_true h) (by rw [hop]; decide), fun _ => ?_⟩)
        refine ⟨?_, .refl v⟩
        congr 1
        refine instrB_eq ?_
        rw [I1 (by rw [hop]; decide) (by rw [hop]; decide), hk.1, hk.2, hv]
        simp only [Bool.and_eq_true, decide_eq_true_eq]
        omega
    · have hk := arg_1 (ds := ds) (ss := ps.map sigOf) (op := c.op) (num := c.num) (by omega)
      have hv := numV_zero (ds := ds) (ss := ps.map sigOf) (at_ := at_) (end_ := code.length) (op := c.op) (num := c.num) (jl := c.jumps.length) (by omega)
      rcases hop with hop | hop | hop | hop | hop
      all_goals
        repeat (first | refine ⟨fun _ => ?_, fun h => absurd hop (of_decide_eq_false h)⟩ | refine ⟨fun h => absurd (of_decide_eq_true h) (by rw [hop]; decide), fun _ => ?_⟩)
        refine ⟨?_, .refl v⟩
        congr 1
        refine instrB_eq ?_
        rw [I1 (by rw [hop]; decide) (by rw [hop]; decide), hk.1, hk.2, hv]
        simp only [Bool.and_eq_true, decide_eq_true_eq]
        omega
    · repeat (first | refine ⟨fun _ => ?_, fun h => absurd hop (of_decide_eq_false h)⟩ | refine ⟨fun h => absurd (of_decide_eq_true h) (by rw [hop]; decide), fun _ => ?_⟩)
      have hci := conI_iff (ds := ds) (c := c.num)
      have hk := arg_6 (ds := ds) (ss := ps.map sigOf) (num := c.num) hop
      refine ⟨_, c_specConType hx hd, fun hq => ?_, fun hq => ⟨?_, .refl v⟩⟩
      · have hp : 0 ≤ conI ds c.num := by
          unfold conTyV at hq
          split at hq
          · cases hq
          · omega
        refine Trip.mono' (c_conFields hx b3 (by omega) (fun d h => by have := hd.cons d h; omega) hd.hb) ?_
        rintro _ w1 ⟨J, hS, z, rfl, hz⟩
        have hzl := conLen_eq hz
        refine ⟨_, rfl, _, fun _ => c_inRange, ?_, hS.sub⟩
        congr 1
        refine instrB_eq ?_
        have hj : c.jumps = [] := List.eq_nil_of_length_eq_zero (by omega)
        rw [I2 trivial, hk.1, hk.2, numV_con hop, hj]
        simp only [Bool.and_eq_true, decide_eq_true_eq, List.all_nil, true_and]
        omega
      · refine bad fun h => ?_
        have h6 := (numV_con hop).1 h.2.2.2.2.2.2.2.2.1
        unfold conTyV at hq
        rw [if_neg (by omega)] at hq
        have := of_decide_eq_false hq
        omega
    · have hk := arg_9 (ds := ds) (ss := ps.map sigOf) (num := c.num) hop
      have hv := numV_call (ds := ds) (ss := ps.map sigOf) (at_ := at_) (end_ := code.length) (num := c.num) (jl := c.jumps.length) hop
      rw [nth_sig] at hk
      rw [List.length_map] at hv
      rcases hop with hop | hop
      all_goals
        repeat (first | refine ⟨fun _ => ?_, fun h => absurd hop (of_decide_eq_false h)⟩ | refine ⟨fun h => absurd (of_decide_eq_true h) (by rw [hop]; decide), fun _ => ?_⟩)
        refine ⟨_, c_procWith hy b3 (by omega) (by omega), ?_, .refl v⟩
        congr 1
        refine instrB_eq ?_
        rw [I1 (by rw [hop]; decide) (by rw [hop]; decide), hk.1, hk.2, hv]
        unfold procB sigOf
        simp only [Bool.and_eq_true, decide_eq_true_eq]
        omega
    · have hk := arg_10 (ds := ds) (ss := ps.map sigOf) (num := c.num) hop
      have hv := numV_close (ds := ds) (ss := ps.map sigOf) (at_ := at_) (end_ := code.length) (num := c.num) (jl := c.jumps.length) hop
      rw [nth_sig] at hk hv
      rw [List.length_map] at hv
      repeat (first | refine ⟨fun _ => ?_, fun h => absurd hop (of_decide_eq_false h)⟩ | refine ⟨fun h => absurd (of_decide_eq_true h) (by rw [hop]; decide), fun _ => ?_⟩)
      have hr2 : procB ps c.num ((g1.n : Int) + 1) = true → 0 ≤ c.num ∧ c.num < ps.length := fun h => by
        unfold procB at h
        simp only [Bool.and_eq_true, decide_eq_true_eq] at h; omega
      refine ⟨_, c_procWith hy b3 (by omega) (by omega), ?_⟩
      refine go_ixg hy hr2 ?_
      refine ldg_proc_lent (hy.src (.refl v)) hr2 ?_
      intro g hg
      refine ⟨?_, .refl v⟩
      congr 1
      refine instrB_eq ?_
      rw [I1 (by rw [hop]; decide) (by rw [hop]; decide), hk.1, hk.2, hv]
      cases hb : procB ps c.num ((g1.n : Int) + 1) with
      | true =>
        have hgn := (hg hb).n
        unfold procB at hb
        unfold sigOf
        simp only [Bool.and_eq_true, decide_eq_true_eq] at hb
        simp only [Bool.true_and, decide_eq_true_eq]
        omega
      | false =>
        unfold procB at hb
        unfold sigOf
        simp only [Bool.and_eq_false_iff, decide_eq_false_iff_not] at hb
        simp only [Bool.false_and, Bool.false_eq_true, false_iff]
        omega
    · have hk := arg_16 (ds := ds) (ss := ps.map sigOf) (num := c.num) hop
      have hv := numV_zero (ds := ds) (ss := ps.map sigOf) (at_ := at_) (end_ := code.length) (op := c.op) (num := c.num) (jl := c.jumps.length) (by omega)
      rcases hop with hop | hop
      all_goals
        repeat (first | refine ⟨fun _ => ?_, fun h => absurd hop (of_decide_eq_false h)⟩ | refine ⟨fun h => absurd (of_decide_eq_true h) (by rw [hop]; decide), fun _ => ?_⟩)
        refine ⟨_, c_inRange, ?_, .refl v⟩
        congr 1
        refine instrB_eq ?_
        rw [I1 (by rw [hop]; decide) (by rw [hop]; decide), hk.1, hk.2, hv]
        simp only [Bool.and_eq_true, decide_eq_true_eq]
        omega
    · have hk := arg_1 (ds := ds) (ss := ps.map sigOf) (op := c.op) (num := c.num) (by omega)
      repeat (first | refine ⟨fun _ => ?_, fun h => absurd hop (of_decide_eq_false h)⟩ | refine ⟨fun h => absurd (of_decide_eq_true h) (by rw [hop]; decide), fun _ => ?_⟩)
      refine ⟨_, fun _ => c_inRange, ?_, .refl v⟩
      congr 1
      refine instrB_eq ?_
      rw [I1 (by rw [hop]; decide) (by rw [hop]; decide), hk.1, hk.2, numV_load hop]
      simp only [Bool.and_eq_true, decide_eq_true_eq]
      omega
    · have hk := arg_1 (ds := ds) (ss := ps.map sigOf) (op := c.op) (num := c.num) (by omega)
      repeat (first | refine ⟨fun _ => ?_, fun h => absurd hop (of_decide_eq_false h)⟩ | refine ⟨fun h => absurd (of_decide_eq_true h) (by rw [hop]; decide), fun _ => ?_⟩)
      refine go_wrg (fun _ => by omega) ?_
      refine go_wrg (fun _ => by omega) ?_
      refine ⟨_, fun _ => c_inRange, ?_, .refl v⟩
      congr 1
      refine instrB_eq ?_
      rw [I1 (by rw [hop]; decide) (by rw [hop]; decide), hk.1, hk.2, numV_jump (.inl hop)]
      simp only [Bool.and_eq_true, decide_eq_true_eq]
      omega
    · have hk := arg_0 (ds := ds) (ss := ps.map sigOf) (num := c.num) (.inr hop)
      repeat (first | refine ⟨fun _ => ?_, fun h => absurd hop (of_decide_eq_false h)⟩ | refine ⟨fun h => absurd (of_decide_eq_true h) (by rw [hop]; decide), fun _ => ?_⟩)
      refine go_wrg (fun _ => by omega) ?_
      refine go_wrg (fun _ => by omega) ?_
      refine ⟨_, fun _ => c_inRange, ?_, .refl v⟩
      congr 1
      refine instrB_eq ?_
      rw [I1 (by rw [hop]; decide) (by rw [hop]; decide), hk.1, hk.2, numV_jump (.inr hop)]
      simp only [Bool.and_eq_true, decide_eq_true_eq]
      omega
    · have hk := arg_1 (ds := ds) (ss := ps.map sigOf) (op := c.op) (num := c.num) (by omega)
      repeat (first | refine ⟨fun _ => ?_, fun h => absurd hop (of_decide_eq_false h)⟩ | refine ⟨fun h => absurd (of_decide_eq_true h) (by rw [hop]; decide), fun _ => ?_⟩)
      refine Trip.mono' (c_consOf hx b3 (by omega) (fun d h => by have := hd.cons d h; omega) hd.hb) ?_
      rintro _ w1 ⟨J, hS, z, rfl, hO⟩
      have hzn := hO.n
      have hzl := hO.le
      refine ⟨_, rfl, _, fun _ => c_validJumps (s2.mono hS.sub) (by omega) (by omega) (by omega), ?_, hS.sub⟩
      congr 1
      refine instrB_eq ?_
      rw [I2 trivial, hk.1, hk.2, numV_switch hop, hcn]
      simp only [Bool.and_eq_true, decide_eq_true_eq]
      cases hja : c.jumps.all (laterB (at_ + 1) ((code.length : Int) - 1)) with
      | true =>
        simp only [true_and, and_true]
        omega
      | false => simp only [Bool.false_eq_true, false_and, and_false]
  · have hno : ¬ instrOk ds (ps.map sigOf) regs code.length at_ c := fun h => hok h.1
    unfold opOk at hok
    have hne : c.op ≠ 0 ∧ c.op ≠ 1 ∧ c.op ≠ 2 ∧ c.op ≠ 3 ∧ c.op ≠ 4 ∧ c.op ≠ 5 ∧ c.op ≠ 6 ∧ c.op ≠ 9 ∧ c.op ≠ 10 ∧ c.op ≠ 11 ∧ c.op ≠ 14 ∧ c.op ≠ 15 ∧ c.op ≠ 16 ∧ c.op ≠ 17 ∧ c.op ≠ 18 ∧ c.op ≠ 19 ∧ c.op ≠ 20 ∧ c.op ≠ 21 ∧ c.op ≠ 22 ∧ c.op ≠ 23 ∧ c.op ≠ 24 := by omega
    clear hok hdst hset hinto hjmp hgl hg1 hg2 hcn hyn hlen h0 h1 hcl hr b1 b2 b3 b4
    repeat (first | refine ⟨fun h => absurd (of_decide_eq_true h) (by omega), fun _ => ?_⟩ | refine ⟨fun _ => ?_, fun h => absurd (of_decide_eq_false h) (by omega)⟩)
    exact ⟨bad hno, .refl v⟩
end
end Go.Vc

namespace Go.Vc
open Go Go.Proofs Go.RowKit
set_option linter.all false
/-- the truth of a proposition, as a Bool -/
noncomputable def pB (p : Prop) : Bool := @decide p (Classical.propDecidable p)
theorem pB_t {p : Prop} (h : p) : pB p = true := by unfold pB; exact @decide_eq_true _ (Classical.propDecidable _) h
theorem pB_f {p : Prop} (h : ¬ p) : pB p = false := by unfold pB; exact @decide_eq_false _ (Classical.propDecidable _) h
theorem pB_eq {p : Prop} {q : Bool} (h : q = true ↔ p) : q = pB p := by
  cases q with
  | true => rw [pB_t (h.1 rfl)]
  | false => rw [pB_f fun hh => Bool.noConfusion (h.2 hh)]
theorem pB_iff {p : Prop} : pB p = true ↔ p := by unfold pB; exact @decide_eq_true_iff _ (Classical.propDecidable _)
/-- a function's signature in a program that has nothing else -/
structure FuncD where
  params : List Int
  result : Int
instance : Inhabited FuncD := ⟨⟨[], 0⟩⟩
instance : Dat FuncD where
  sz := 5
  cells B w cs c := ∃ f : Sl, cs = [f.val, intV c.result, intV 0, intV 0, .slice none 0 0] ∧ InI c.result ∧ ReadB B w f c.params
  mono := fun hs ⟨f, h0, i, r⟩ => ⟨f, h0, i, r.mono hs⟩
  len := fun ⟨f, h0, _⟩ => by rw [h0]; rfl
  one := fun ⟨f, h0, _⟩ v hv => by
    rw [h0] at hv; simp only [List.mem_cons, List.not_mem_nil, or_false] at hv
    rcases hv with rfl | rfl | rfl | rfl | rfl <;> rfl
def fnOf (p : ProcD) : FuncD := ⟨p.params, p.result⟩
theorem nth_fn (ps : List ProcD) (i : Int) : nth (ps.map fnOf) i = fnOf (nth ps i) := by
  unfold nth List.getD
  rw [List.getElem?_map]
  cases ps[i.toNat]? <;> rfl
instance : SlT Tryz.prog 83 5 72 [.slice none 0 0, intV 0, intV 0, intV 0, .slice none 0 0] := .of (by kernel_rfl) rfl (by decide)
instance : SlT Tryz.prog 104 3 56 [.slice none 0 0, .slice none 0 0, intV 0] := .of (by kernel_rfl) rfl (by decide)
theorem Src.ofFuncD {u w : World} {x : Sl} {l : List FuncD} {i : Int} (hx : Src u w x l) (h0 : 0 ≤ i) (h1 : i < l.length) : ∃ f : Sl, w.cell? ((elA x i 5).add 0) = some f.val ∧ w.cell? ((elA x i 5).add 1) = some (.int .i64 (nth l i).result) ∧ w.cell? ((elA x i 5).add 2) = some (.int .i64 0) ∧ w.cell? ((elA x i 5).add 3) = some (.int .i64 0) ∧ w.cell? ((elA x i 5).add 4) = some (.slice none 0 0) ∧ InI (nth l i).result ∧ Read u f (nth l i).params := by
  obtain ⟨r, ⟨f, rfl, i1, r1⟩, h5⟩ := hx.row h0 h1
  exact ⟨f, h5 0 _ rfl, h5 1 _ rfl, h5 2 _ rfl, h5 3 _ rfl, h5 4 _ rfl, i1, r1⟩

/-- one signature -/
def sigP (ds : List DeclD) (ps : List Int) (r : Int) : Prop := ps.length ≤ 3 ∧ ps.all (typeB ds.length) = true ∧ typeB ds.length r = true
def fnSigs (ds : List DeclD) (fs : List FuncD) : Prop := typesOk ds ∧ 1 ≤ fs.length ∧ fs.length ≤ 4 ∧ (∀ i : Int, 0 ≤ i → i < fs.length → sigP ds (nth fs i).params (nth fs i).result) ∧ (nth fs 0).params.length = 0 ∧ (nth fs 0).result = 0
def sigSigs (ds : List DeclD) (ss : List SigD) : Prop := typesOk ds ∧ 1 ≤ ss.length ∧ ss.length ≤ 4 ∧ (nth ss 0).params.length = 0 ∧ (nth ss 0).result = 0 ∧ ∀ i : Int, 0 ≤ i → i < ss.length → sigP ds (nth ss i).params (nth ss i).result ∧ lentOk (nth ss i).params (nth ss i).lent
/-- a procedure, apart from what its signature asks for -/
def codeOk (ds : List DeclD) (ss : List SigD) (p : ProcD) : Prop := 1 ≤ p.regs ∧ (p.params.length : Int) ≤ p.regs ∧ p.regs ≤ 2000 ∧ 1 ≤ p.code.length ∧ p.code.length ≤ 2000 ∧ ((nth p.code ((p.code.length : Int) - 1)).op = 23 ∨ (nth p.code ((p.code.length : Int) - 1)).op = 24) ∧
  ∀ i : Int, 0 ≤ i → i < p.code.length → instrB ds ss p.regs p.code.length i (nth p.code i) = true
def imOk (ds : List DeclD) (ps : List ProcD) : Prop := sigSigs ds (ps.map sigOf) ∧ ∀ i : Int, 0 ≤ i → i < ps.length → codeOk ds (ps.map sigOf) (nth ps i)
section
variable {u v w : World} {x y z xf s t cx px pl : Sl} {l ws fs ls : List Int} {ds : List DeclD} {ss : List SigD} {ps : List ProcD} {gs : List FuncD} {b m n k f a e i op num regs at_ end_ n1 : Int} {c : InstrD} {p : ProcD} {code : List InstrD} {jl : Nat} {q : Bool}
theorem typesB_iff : typesB ds = true ↔ typesOk ds := by unfold typesB; exact @decide_eq_true_iff _ (Classical.propDecidable _)
theorem lentB_iff {a b : List Int} : lentB a b = true ↔ lentOk a b := by unfold lentB; exact @decide_eq_true_iff _ (Classical.propDecidable _)
theorem c_sigsOfImage (hy : Read v y ps) : Mk Tryz.prog 42 #[.agg #[x.val, y.val]] v fun r J => ∃ z, r = .agg #[x.val, z.val] ∧ Own v z (ps.map fnOf) J := by
  refine of42 _ _ _ _ ?_
  unfold vc42
  have hyn := hy.n
  have hyl := hy.le
  have hS := St.refl v
  refine St.build (α := FuncD) hS (by (repeat' (first | exact VsOf.nil | apply VsOf.cons | (apply VOf.int; first | assumption | (constructor <;> first | omega | (simp only [List.length_set, List.length_append, List.length_replicate, List.length_cons, List.length_nil, List.length_take, List.length_drop, List.length_map, List.length_singleton] at *; omega))) | exact VOf.bool | exact VOf.str))) rfl (by decide) ?_
  intro z0 w0 I0 hO0 hS hs
  refine ⟨_, rfl, ?_⟩
  refine ⟨fun i z w => ∃ I, Own v z ((ps.take i.toNat).map fnOf) I ∧ St v w (I ++ []) ∧ 0 ≤ i ∧ i ≤ ps.length, fun i _ _ => (ps.length - i).toNat, ⟨I0, hO0, hS, by omega, by omega⟩, ?_⟩
  clear hO0 hS hs
  rintro i z w ⟨I, hO, hS, i0, i1⟩
  dsimp only
  refine ⟨fun hi => ?_, fun hi => ?_⟩
  · simp only [bls] at hi
    have hil : i < ps.length := by omega
    obtain ⟨f1, f2, f3, e1, e2, e3, e4, e5, j1, j2, r1, r2, r3⟩ := (hy.src hS.sub).ofProcD i0 hil
    refine go_ix hy i0 hil ?_
    refine ⟨f1, e1, ?_⟩
    refine go_ix hy i0 hil ?_
    refine ⟨_, e3, ?_⟩
    refine St.build (α := FuncD) (l := [fnOf (nth ps i)]) hS (.cons ⟨rfl, f1, rfl, j1, r1⟩ .nil) rfl (by decide) ?_
    intro x4 w4 I4 hO4 hS hs
    refine ⟨_, rfl, hs, ?_⟩
    refine Own.append hO hS (Own.src hO4 hS) (by simp; omega) (by decide) ?_
    intro x5 w5 I5 hO5 hS
    refine ⟨_, rfl, ?_⟩
    refine go_wr (by omega) (by omega) ?_
    refine ⟨rfl, rfl, rfl, rfl, rfl, ⟨I5, ?_, hS.to, by omega, by omega⟩, by omega⟩
    rw [take_nth i0 hil, List.map_append]
    exact hO5
  · simp only [bls] at hi
    rw [take_all (by omega)] at hO
    exact ⟨I, by simpa using hS, z, rfl, hO⟩
theorem c_specValidSigs (hx : Read v x ds) (hy : Read v y gs) : Fn Tryz.prog 41 #[.agg #[x.val, y.val]] v (.bool (pB (fnSigs ds gs))) := by
  refine of41 _ _ _ _ ?_
  unfold vc41
  have hxn := hx.n
  have hxl := hx.le
  have hyn := hy.n
  have bad : ¬ fnSigs ds gs → Value.bool false = .bool (pB (fnSigs ds gs)) := fun h => by rw [pB_f h]
  refine ⟨_, c_specValidTypes hx, _, fun _ => c_inRange, fun hq => ⟨?_, .refl v⟩, fun hq => ?_⟩
  · refine bad fun h => ?_
    rw [typesB_t h.1] at hq
    have h2 := h.2.1
    have h3 := h.2.2.1
    simp at hq
    omega
  simp only [Bool.or_eq_false_iff, Bool.not_eq_false', Bool.and_eq_true, decide_eq_true_eq] at hq
  have hty := typesB_iff.1 hq.1
  have hlen := hty.1
  refine ⟨fun i w => v = w ∧ 0 ≤ i ∧ i ≤ gs.length ∧ ∀ j : Int, 0 ≤ j → j < i → sigP ds (nth gs j).params (nth gs j).result, fun i _ => (gs.length - i).toNat, ⟨rfl, by omega, by omega, fun j j0 j1 => by omega⟩, ?_⟩
  rintro i _ ⟨rfl, i0, i1, h⟩
  dsimp only
  refine ⟨fun hi => ?_, fun hi => ?_⟩
  · simp only [bls] at hi
    have hil : i < gs.length := by omega
    obtain ⟨f1, e1, e2, e3, e4, e5, j1, r1⟩ := (hy.src (.refl v)).ofFuncD i0 hil
    have hfn := r1.n
    refine go_ix hy i0 hil ?_
    refine ⟨f1, _, _, _, ⟨none, 0, 0⟩, ⟨e1, e2, e3, e4, e5⟩, ?_⟩
    refine ⟨_, fun _ => c_allTypes hxn hxl r1, _, fun _ => c_inRange, fun hq => ⟨?_, .refl v⟩, fun hq => ?_⟩
    · refine bad fun h => ?_
      obtain ⟨s1, s2, s3⟩ := h.2.2.2.1 i i0 hil
      unfold typeB at s3
      rw [s2, hxn, s3] at hq
      simp at hq
      omega
    · have hs : sigP ds (nth gs i).params (nth gs i).result := by
        simp only [Bool.or_eq_false_iff, Bool.not_eq_false'] at hq
        refine ⟨by have := of_decide_eq_false hq.1.1; omega, hq.1.2, ?_⟩
        have := hq.2
        rw [hxn] at this
        exact this
      refine go_wr (by omega) (by omega) ?_
      refine ⟨rfl, rfl, ⟨rfl, by omega, by omega, fun j j0 j1 => ?_⟩, by omega⟩
      by_cases e : j = i
      · rw [e]; exact hs
      · exact h j j0 (by omega)
  · simp only [bls] at hi
    have h0 : (0 : Int) < gs.length := by omega
    obtain ⟨f1, e1, e2, e3, e4, e5, j1, r1⟩ := (hy.src (.refl v)).ofFuncD (Int.le_refl 0) h0
    have hfn := r1.n
    refine go_ix hy (Int.le_refl 0) h0 ?_
    refine ⟨f1, e1, fun _ => hy.ix (Int.le_refl 0) h0, _, fun _ => e2, ?_, .refl v⟩
    congr 1
    refine pB_eq ?_
    simp only [Bool.and_eq_true, decide_eq_true_eq]
    constructor
    · intro hq2
      exact ⟨hty, by omega, by omega, fun j j0 j1 => h j j0 (by omega), by omega, hq2.2⟩
    · intro hh
      exact ⟨by have := hh.2.2.2.2.1; omega, hh.2.2.2.2.2⟩
theorem c_implValidSigs (hx : Read v x ds) (hy : Read v y ss) : Fn Tryz.prog 87 #[x.val, y.val] v (.bool (pB (sigSigs ds ss))) := by
  refine of87 _ _ _ _ ?_
  unfold vc87
  have hxn := hx.n
  have hxl := hx.le
  have hyn := hy.n
  have bad : ¬ sigSigs ds ss → Value.bool false = .bool (pB (sigSigs ds ss)) := fun h => by rw [pB_f h]
  have hr : (((!typesB ds) || decide ((y.n : Int) < 1)) || decide ((y.n : Int) > 4)) = false → 0 ≤ (0 : Int) ∧ (0 : Int) < ss.length := fun h => by
    simp only [Bool.or_eq_false_iff, decide_eq_false_iff_not] at h; omega
  refine ⟨_, c_implValidTypes hx, ?_⟩
  refine go_ixg hy hr ?_
  refine ldg_sig_params (hy.src (.refl v)) hr ?_
  intro g hg
  refine go_ixg hy (fun h => hr (by rw [Bool.or_eq_false_iff] at h; exact h.1)) ?_
  refine ldg_sig_result (hy.src (.refl v)) (fun h => hr (by rw [Bool.or_eq_false_iff] at h; exact h.1)) ?_
  refine ⟨fun hq => ⟨?_, .refl v⟩, fun hq => ?_⟩
  · refine bad fun h => ?_
    have h2 := h.2.1
    have h3 := h.2.2.1
    have h4 := h.2.2.2.1
    have h5 := h.2.2.2.2.1
    have hgn := (hg (by rw [typesB_t h.1]; simp; omega)).n
    rw [typesB_t h.1] at hq
    simp at hq
    omega
  have hq3 : typesOk ds ∧ 1 ≤ ss.length ∧ ss.length ≤ 4 ∧ (nth ss 0).params.length = 0 ∧ (nth ss 0).result = 0 := by
    simp only [Bool.or_eq_false_iff, Bool.not_eq_false', decide_eq_false_iff_not, decide_eq_true_eq] at hq
    have hgn := (hg (by rw [hq.1.1.1.1]; simp; omega)).n
    exact ⟨typesB_iff.1 hq.1.1.1.1, by omega, by omega, by omega, hq.2⟩
  have hlen := hq3.1.1
  refine ⟨fun i w => v = w ∧ 0 ≤ i ∧ i ≤ ss.length ∧ ∀ j : Int, 0 ≤ j → j < i → sigP ds (nth ss j).params (nth ss j).result ∧ lentOk (nth ss j).params (nth ss j).lent, fun i _ => (ss.length - i).toNat, ⟨rfl, by omega, by omega, fun j j0 j1 => by omega⟩, ?_⟩
  rintro i _ ⟨rfl, i0, i1, h⟩
  dsimp only
  refine ⟨fun hi => ?_, fun hi => ?_⟩
  · simp only [bls] at hi
    have hil : i < ss.length := by omega
    obtain ⟨f1, f2, e1, e2, e3, j1, r1, r2⟩ := (hy.src (.refl v)).ofSigD i0 hil
    have hfn := r1.n
    have hfn2 := r2.n
    have hfl2 := r2.le
    refine go_ix hy i0 hil ?_
    refine ⟨f1, f2, _, ⟨e1, e2, e3⟩, ?_⟩
    refine ⟨_, fun _ => c_implAllTypes hxn r1, _, fun _ => c_isType hxn, fun hq => ⟨?_, .refl v⟩, fun hq => ?_⟩
    · refine bad fun h => ?_
      obtain ⟨⟨s1, s2, s3⟩, _⟩ := h.2.2.2.2.2 i i0 hil
      rw [s2, s3] at hq
      simp at hq
      omega
    · have hs : sigP ds (nth ss i).params (nth ss i).result := by
        simp only [Bool.or_eq_false_iff, Bool.not_eq_false'] at hq
        exact ⟨by have := of_decide_eq_false hq.1.1; omega, hq.1.2, hq.2⟩
      refine ⟨fun k w => v = w ∧ 0 ≤ k ∧ k ≤ (nth ss i).lent.length ∧ ∀ j : Int, 0 ≤ j → j < k → lent1 (nth ss i).params (nth ss i).lent j, fun k _ => ((nth ss i).lent.length - k).toNat, ⟨rfl, by omega, by omega, fun j j0 j1 => by omega⟩, ?_⟩
      rintro k _ ⟨rfl, k0, k1, hk⟩
      dsimp only
      refine ⟨fun hi => ?_, fun hi => ?_⟩
      · simp only [bls] at hi
        have hkl : k < (nth ss i).lent.length := by omega
        refine go_ix r2 k0 hkl ?_
        refine ld_int r2 k0 hkl ?_
        intro c0 c1
        have hr2 : (decide (nth (nth ss i).lent k < 0) || decide (nth (nth ss i).lent k ≥ (f1.n : Int))) = false → 0 ≤ nth (nth ss i).lent k ∧ nth (nth ss i).lent k < (nth ss i).params.length := fun h => by
          simp only [Bool.or_eq_false_iff, decide_eq_false_iff_not] at h; omega
        refine go_ixg r1 hr2 ?_
        refine ld_intg r1 hr2 ?_
        refine ⟨k - 1, fun _ _ => inK_i64 (by omega) (by omega), fun h1 _ => r2.ix (by have := of_decide_eq_true h1; omega) (by omega), nth (nth ss i).lent (k - 1), fun h1 _ => (r2.int (by have := of_decide_eq_true h1; omega) (by omega)).1, fun hq => ⟨?_, .refl v⟩, fun hq => ?_⟩
        · refine bad fun h => ?_
          obtain ⟨d1, d2, d3, d4⟩ := (h.2.2.2.2.2 i i0 hil).2 k k0 hkl
          simp only [bls] at hq
          rcases hq with ((hq | hq) | hq) | hq
          · omega
          · omega
          · exact d3 hq
          · have := d4 hq.1
            omega
        · have hd : lent1 (nth ss i).params (nth ss i).lent k := by
            simp only [Bool.or_eq_false_iff] at hq
            obtain ⟨d1, d2⟩ := hr2 (by rw [hq.1.1.1, hq.1.1.2]; rfl)
            refine ⟨d1, d2, of_decide_eq_false hq.1.2, fun hp => ?_⟩
            have h2 := hq.2
            rw [decide_eq_true (show k > 0 from hp), Bool.true_and] at h2
            have := of_decide_eq_false h2
            omega
          refine go_wr (by omega) (by omega) ?_
          refine ⟨rfl, rfl, rfl, ⟨rfl, by omega, by omega, fun j j0 j1 => ?_⟩, by omega⟩
          by_cases e : j = k
          · rw [e]; exact hd
          · exact hk j j0 (by omega)
      · simp only [bls] at hi
        refine go_wr (by omega) (by omega) ?_
        refine ⟨⟨rfl, by omega, by omega, fun j j0 j1 => ?_⟩, by omega⟩
        by_cases e : j = i
        · rw [e]; exact ⟨hs, fun m m0 m1 => hk m m0 (by omega)⟩
        · exact h j j0 (by omega)
  · simp only [bls] at hi
    exact ⟨by rw [pB_t ⟨hq3.1, hq3.2.1, hq3.2.2.1, hq3.2.2.2.1, hq3.2.2.2.2, fun j j0 j1 => h j j0 (by omega)⟩], .refl v⟩
end
end Go.Vc
