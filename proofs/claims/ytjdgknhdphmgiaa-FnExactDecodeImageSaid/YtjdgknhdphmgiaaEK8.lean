/- Part of the proofs about the heaps and memories: a law is joined in the text whose name ends in W and the law. -/
import Derived.Test.YtjdgknhdphmgiaaEK7
namespace Go.Vc
open Go Go.Proofs Go.RowKit
set_option linter.all false
abbrev TmI (n : Int) : Prop := -30000 ≤ n ∧ n ≤ 30000
def TmL (ns : List Int) : Prop := ns.length ≤ 10000 ∧ ∀ n ∈ ns, TmI n
def TmInstr (c : InstrD) : Prop := TmI c.op ∧ TmI c.dst ∧ TmI c.num ∧ TmI c.into ∧ TmL c.args ∧ TmL c.jumps
def TmDecl (d : DeclD) : Prop := TmI d.frm ∧ TmI d.to_ ∧ d.cons.length ≤ 10000 ∧ ∀ c ∈ d.cons, TmL c.fields
def TmProc (p : ProcD) : Prop := TmL p.params ∧ TmL p.lent ∧ TmI p.result ∧ TmI p.regs ∧ p.code.length ≤ 10000 ∧ ∀ c ∈ p.code, TmInstr c
section
variable {u v w : World} {x y z xf s t cx px pl xd xp : Sl} {l ws fs ls : List Int} {ds : List DeclD} {ss : List SigD} {ps : List ProcD} {gs : List FuncD} {b m n k f e i op num regs at_ end_ n1 : Int} {c : InstrD} {p : ProcD} {code : List InstrD} {jl : Nat} {q : Bool} {a : Addr} {I J K L R : Items}
theorem lent_tm {ps : List Int} (h : lentOk ps ls) (hp : ps.length ≤ 3) : TmL ls := by
  have h1 := lent_len h
  refine ⟨by omega, fun n hn => ?_⟩
  obtain ⟨i, hi, rfl⟩ := List.mem_iff_getElem.1 hn
  obtain ⟨h2, h3, _⟩ := h i (by omega) (by omega)
  rw [nth_of (i := i) (l := ls) (a := ls[i]) (by simp [hi])] at h2 h3
  exact ⟨by omega, by omega⟩
theorem types_tm {N : Nat} (hN : N ≤ 4) (hl : l.length ≤ 3) (h : l.all (typeB N) = true) : TmL l := by
  refine ⟨by omega, fun n hn => ?_⟩
  have := List.all_eq_true.1 h n hn
  unfold typeB at this
  simp only [Bool.and_eq_true, decide_eq_true_eq] at this
  exact ⟨by omega, by omega⟩
theorem type_tm {N : Nat} (hN : N ≤ 4) (h : typeB N n = true) : TmI n := by
  unfold typeB at h
  simp only [Bool.and_eq_true, decide_eq_true_eq] at h
  exact ⟨by omega, by omega⟩
theorem declOk.tm (hN : ds.length ≤ 4) (h : declOk ds i) : TmDecl (nth ds i) := by
  obtain ⟨h1, h2, h3, h4, h5, h6⟩ := declOk_easy h
  exact ⟨type_tm hN h1, type_tm hN h2, by omega, fun c hc => types_tm hN (h5 c hc).1 (h5 c hc).2⟩
theorem typesOk.tmd (h : typesOk ds) : ∀ d ∈ ds, TmDecl d := by
  intro d hd
  obtain ⟨i, hi, rfl⟩ := List.mem_iff_getElem.1 hd
  have := (h.2 i (by omega) (by omega)).tm h.1
  rwa [nth_of (i := i) (l := ds) (a := ds[i]) (by simp [hi])] at this
theorem conF_tm (h : typesOk ds) : (conF ds n).length ≤ 3 := by
  unfold conF
  split
  · simp
  · rename_i hp
    rcases conI_cases ds n with ⟨h1, _⟩ | ⟨h1, h2, ⟨q1, q2⟩, h4⟩
    · omega
    · exact ((declOk_easy (h.2 _ h1 h2)).2.2.2.2.1 _ (nth_mem (by omega) (by omega))).1
theorem consL_tm (h : typesOk ds) : (consL ds n).length ≤ 3 ∧ (0 < (consL ds n).length → 1 ≤ n ∧ n ≤ ds.length) := by
  unfold consL
  split
  · rename_i hp
    have := (declOk_easy (h.2 (n - 1) (by omega) (by omega))).2.2.1
    simp only [List.length_map, List.length_range]
    exact ⟨this, fun _ => hp⟩
  · simp
theorem instr_tm (h1 : sigSigs ds ss) (hr : regs ≤ 2000) (h0 : 0 ≤ at_) (he : end_ ≤ 2000) (h : instrOk ds ss regs end_ at_ c) : TmInstr c := by
  obtain ⟨k1, k2, k3, k4, k5, k6, k7, k8, k9, k10, k11⟩ := h
  obtain ⟨g1, g2, g3, g4, g5, g6⟩ := h1
  have hlen := g1.1
  have hj : c.jumps.length ≤ 3 := by
    rcases k7 with k7 | k7
    · have := ((numV_switch k7).1 k9).2
      have := (consL_tm (n := c.num) g1).1
      omega
    · omega
  have hsig : ∀ i : Int, 0 ≤ i → i < ss.length → (nth ss i).params.length ≤ 3 := fun i i0 i1 => (g6 i i0 i1).1.1
  have hfc := g1.sm.fc ds.length (Nat.le_refl _)
  have hcf := conF_tm (n := c.num) g1
  have hcl := consL_tm (n := c.num) g1
  have hn : TmI c.num ∧ argHi ds ss c.op c.num ≤ 10 := by
    have k1' := k1
    unfold opOk at k1'
    have hop' : c.op = 0 ∨ (c.op = 1 ∨ c.op = 2 ∨ c.op = 3 ∨ c.op = 4 ∨ c.op = 11) ∨ (c.op = 5 ∨ c.op = 14 ∨ c.op = 15 ∨ c.op = 18 ∨ c.op = 23) ∨ c.op = 6 ∨ (c.op = 9 ∨ c.op = 24) ∨ c.op = 10 ∨ (c.op = 16 ∨ c.op = 17) ∨ c.op = 19 ∨ c.op = 20 ∨ c.op = 22 ∨ c.op = 21 := by omega
    rcases hop' with hop | hop | hop | hop | hop | hop | hop | hop | hop | hop | hop
    · have hk := (arg_0 (ds := ds) (ss := ss) (num := c.num) (.inl hop)).2
      have hv := (numV_int hop).1 k9
      exact ⟨⟨by omega, by omega⟩, by omega⟩
    · have hk := (arg_2 (ds := ds) (ss := ss) (num := c.num) hop).2
      have hv := (numV_zero (op := c.op) (by omega)).1 k9
      exact ⟨⟨by omega, by omega⟩, by omega⟩
    · have hk := (arg_1 (ds := ds) (ss := ss) (op := c.op) (num := c.num) (by omega)).2
      have hv := (numV_zero (op := c.op) (by omega)).1 k9
      exact ⟨⟨by omega, by omega⟩, by omega⟩
    · have hk := (arg_6 (ds := ds) (ss := ss) (num := c.num) hop).2
      have hv := (numV_con hop).1 k9
      exact ⟨⟨by omega, by omega⟩, by omega⟩
    · have hk := (arg_9 (ds := ds) (ss := ss) (num := c.num) hop).2
      have hv := (numV_call hop).1 k9
      have := hsig _ hv.1 hv.2
      exact ⟨⟨by omega, by omega⟩, by omega⟩
    · have hk := (arg_10 (ds := ds) (ss := ss) (num := c.num) hop).2
      have hv := (numV_close hop).1 k9
      have := hsig _ hv.1 hv.2.1
      exact ⟨⟨by omega, by omega⟩, by omega⟩
    · have hk := (arg_16 (ds := ds) (ss := ss) (num := c.num) hop).2
      have hv := (numV_zero (op := c.op) (by omega)).1 k9
      exact ⟨⟨by omega, by omega⟩, by omega⟩
    · have hk := (arg_1 (ds := ds) (ss := ss) (op := c.op) (num := c.num) (by omega)).2
      have hv := (numV_load hop).1 k9
      exact ⟨⟨by omega, by omega⟩, by omega⟩
    · have hk := (arg_1 (ds := ds) (ss := ss) (op := c.op) (num := c.num) (by omega)).2
      have hv := (numV_jump (.inl hop)).1 k9
      exact ⟨⟨by omega, by omega⟩, by omega⟩
    · have hk := (arg_0 (ds := ds) (ss := ss) (num := c.num) (.inr hop)).2
      have hv := (numV_jump (.inr hop)).1 k9
      exact ⟨⟨by omega, by omega⟩, by omega⟩
    · have hk := (arg_1 (ds := ds) (ss := ss) (op := c.op) (num := c.num) (by omega)).2
      have hv := (numV_switch hop).1 k9
      have := hcl.2 hv.1
      exact ⟨⟨by omega, by omega⟩, by omega⟩
  unfold opOk at k1
  have sm : ∀ {a b : Int} {l : List Int}, 0 ≤ a → b ≤ 2000 → l.length ≤ 10 → l.all (laterB a b) = true → TmL l := by
    intro a b l ha hb hl h
    refine ⟨by omega, fun n hn => ?_⟩
    have := List.all_eq_true.1 h n hn
    unfold laterB at this
    simp only [Bool.and_eq_true, decide_eq_true_eq] at this
    exact ⟨by omega, by omega⟩
  exact ⟨⟨by omega, by omega⟩, ⟨by omega, by omega⟩, hn.1, ⟨by omega, by omega⟩, sm (by omega) (by omega) (by omega) k2, sm (by omega) (by omega) (by omega) k8⟩
theorem imOk.tm (h : imOk ds ps) : (∀ d ∈ ds, TmDecl d) ∧ (∀ p ∈ ps, TmProc p) ∧ ds.length ≤ 4 ∧ ps.length ≤ 4 := by
  obtain ⟨h1, h2⟩ := h
  have hl := h1.2.2.1
  rw [List.length_map] at hl
  refine ⟨h1.1.tmd, fun p hp => ?_, h1.1.1, hl⟩
  obtain ⟨i, hi, rfl⟩ := List.mem_iff_getElem.1 hp
  have e := nth_of (i := i) (l := ps) (a := ps[i]) (by simp [hi])
  obtain ⟨s1, s2⟩ := h1.2.2.2.2.2 i (by omega) (by rw [List.length_map]; omega)
  obtain ⟨c1, c2, c3, c4, c5, c6, c7⟩ := h2 i (by omega) (by omega)
  rw [nth_sig, e] at s1 s2
  rw [e] at c1 c2 c3 c4 c5 c6 c7
  unfold sigOf at s1 s2
  refine ⟨types_tm h1.1.1 s1.1 s1.2.1, lent_tm s2 s1.1, type_tm h1.1.1 s1.2.2, ⟨by omega, by omega⟩, by omega, fun c hc => ?_⟩
  obtain ⟨j, hj, rfl⟩ := List.mem_iff_getElem.1 hc
  have h3 := c7 j (by omega) (by omega)
  rw [nth_of (i := j) (l := ps[i].code) (a := ps[i].code[j]) (by simp [hj])] at h3
  refine instr_tm h1 c3 (Int.natCast_nonneg j) (by omega) (?_ : instrOk ds (ps.map sigOf) ps[i].regs ps[i].code.length j ps[i].code[j])
  unfold instrB at h3
  exact @of_decide_eq_true _ (Classical.propDecidable _) h3
end
/-! ### reading a list from the front: what is right is read (CR), and what was read was there (DR) -/
def CR {α : Type} (e : α → List Int) (S : α → Prop) (M : List Int) (b : Bool) (x : α) (M' : List Int) (b' : Bool) : Prop :=
  (b' = false → b = false) ∧ M'.length ≤ M.length ∧ ∀ (m : α) (rest : List Int), S m → b = false → M = e m ++ rest → b' = false ∧ x = m ∧ M' = rest
def DR {α : Type} (e : α → List Int) (M : List Int) (x : α) (M' : List Int) (b' : Bool) : Prop := b' = false → M = e x ++ M'
def CP {α : Type} (e : α → List Int) (S : α → Prop) (M : List Int) (b : Bool) (xs : List α) (M' : List Int) (b' : Bool) : Prop :=
  (b' = false → b = false) ∧ M'.length ≤ M.length ∧ ∀ (m : List α) (rest : List Int), (∀ x ∈ m, S x) → xs.length ≤ m.length → b = false → M = m.flatMap e ++ rest → b' = false ∧ xs = m.take xs.length ∧ M' = (m.drop xs.length).flatMap e ++ rest
def CM (M : List Int) (b : Bool) (n : Int) (M' : List Int) (b' : Bool) : Prop :=
  (b' = false → b = false) ∧ M'.length ≤ M.length ∧ ∀ (n0 : Int) (rest : List Int), 0 ≤ n0 → n0 ≤ 30000 → b = false → M = encN n0 ++ rest → 2 * n0 ≤ rest.length → b' = false ∧ n = n0 ∧ M' = rest
def encS {α : Type} (e : α → List Int) (xs : List α) : List Int := encN xs.length ++ xs.flatMap e
def TmS {α : Type} (S : α → Prop) (xs : List α) : Prop := xs.length ≤ 10000 ∧ ∀ x ∈ xs, S x
section
variable {α β : Type} {e : α → List Int} {e2 : β → List Int} {S : α → Prop} {S2 : β → Prop} {M M1 M2 M3 : List Int} {b b1 b2 b3 : Bool} {x : α} {y : β} {xs : List α} {n : Int}
theorem CR.seq (h : CR e S M b x M1 b1) (k : CR e2 S2 M1 b1 y M2 b2) : CR (fun p : α × β => e p.1 ++ e2 p.2) (fun p => S p.1 ∧ S2 p.2) M b (x, y) M2 b2 := by
  refine ⟨fun h2 => h.1 (k.1 h2), Nat.le_trans k.2.1 h.2.1, fun m rest hS hb hM => ?_⟩
  obtain ⟨h1, h2, h3⟩ := h.2.2 m.1 (e2 m.2 ++ rest) hS.1 hb (by rw [hM, List.append_assoc])
  obtain ⟨k1, k2, k3⟩ := k.2.2 m.2 rest hS.2 h1 h3
  exact ⟨k1, by rw [h2, k2], k3⟩
theorem DR.seq (h : DR e M x M1 b1) (k : DR e2 M1 y M2 b2) (hk : b2 = false → b1 = false) : DR (fun p : α × β => e p.1 ++ e2 p.2) M (x, y) M2 b2 := by
  intro hb
  rw [h (hk hb), k hb, List.append_assoc]
theorem CR.map (f : α → β) (g : β → α) (hfg : ∀ b, f (g b) = b) (he : ∀ b, e2 b = e (g b)) (hS : ∀ b, S2 b → S (g b)) (h : CR e S M b x M1 b1) : CR e2 S2 M b (f x) M1 b1 := by
  refine ⟨h.1, h.2.1, fun m rest hm hb hM => ?_⟩
  obtain ⟨h1, h2, h3⟩ := h.2.2 (g m) rest (hS m hm) hb (by rw [hM, he])
  exact ⟨h1, by rw [h2, hfg], h3⟩
theorem DR.map (f : α → β) (he : e2 (f x) = e x) (h : DR e M x M1 b1) : DR e2 M (f x) M1 b1 := by
  intro hb
  rw [he]; exact h hb
theorem CP.nil : CP e S M b [] M b := ⟨id, Nat.le_refl _, fun m rest _ _ hb hM => ⟨hb, by simp, by simpa using hM⟩⟩
theorem CP.snoc (h : CP e S M b xs M1 b1) (k : CR e S M1 b1 x M2 b2) : CP e S M b (xs ++ [x]) M2 b2 := by
  refine ⟨fun h2 => h.1 (k.1 h2), Nat.le_trans k.2.1 h.2.1, fun m rest hS hl hb hM => ?_⟩
  simp only [List.length_append, List.length_singleton] at hl ⊢
  obtain ⟨h1, h2, h3⟩ := h.2.2 m rest hS (by omega) hb hM
  have hlt : xs.length < m.length := by omega
  have hd : m.drop xs.length = m[xs.length] :: m.drop (xs.length + 1) := List.drop_eq_getElem_cons hlt
  rw [hd, List.flatMap_cons, List.append_assoc] at h3
  obtain ⟨k1, k2, k3⟩ := k.2.2 _ _ (hS _ (List.getElem_mem hlt)) h1 h3
  refine ⟨k1, ?_, k3⟩
  rw [List.take_succ_eq_append_getElem hlt, ← h2, k2]
theorem flat_two (he : ∀ x, 2 ≤ (e x).length) : ∀ xs : List α, 2 * xs.length ≤ (xs.flatMap e).length
  | [] => by simp
  | a :: r => by have h1 := flat_two he r; have h2 := he a; rw [List.flatMap_cons, List.length_append, List.length_cons]; omega
theorem CR.list (h : CM M b n M1 b1) (k : CP e S M1 b1 xs M2 b2) (hn : (xs.length : Int) = n) (he : ∀ x, 2 ≤ (e x).length) : CR (encS e) (TmS S) M b xs M2 b2 := by
  refine ⟨fun h2 => h.1 (k.1 h2), Nat.le_trans k.2.1 h.2.1, fun m rest hS hb hM => ?_⟩
  have h2 := flat_two he m
  obtain ⟨h3, h4, h5⟩ := h.2.2 m.length (m.flatMap e ++ rest) (by omega) (by have := hS.1; omega) hb (by rw [hM]; simp [encS]) (by rw [List.length_append]; omega)
  have hl : xs.length = m.length := by omega
  obtain ⟨k1, k2, k3⟩ := k.2.2 m rest hS.2 (by omega) h3 h5
  refine ⟨k1, ?_, ?_⟩
  · rw [k2, hl, List.take_length]
  · rw [k3, hl, List.drop_length]; simp
theorem DR.list (h : DR encN M n M1 b1) (k : b2 = false → M1 = xs.flatMap e ++ M2) (hk : b2 = false → b1 = false) (hn : (xs.length : Int) = n) : DR (encS e) M xs M2 b2 := by
  intro hb
  rw [h (hk hb), k hb, ← hn]
  simp [encS]
end
theorem encN_dec {n : Int} (h : TmI n) : encN n = [(n + 32768) / 256, (n + 32768) % 256] ∧ 0 ≤ (n + 32768) / 256 ∧ (n + 32768) / 256 ≤ 255 ∧ 0 ≤ (n + 32768) % 256 ∧ (n + 32768) % 256 ≤ 255 ∧ (n + 32768) / 256 * 256 + (n + 32768) % 256 - 32768 = n := by
  unfold encN
  rw [Int.tdiv_eq_ediv_of_nonneg (by omega), Int.tmod_eq_emod_of_nonneg (by omega)]
  refine ⟨rfl, ?_⟩
  omega
theorem encN_of {a b : Int} (a0 : 0 ≤ a) (a1 : a ≤ 255) (b0 : 0 ≤ b) (b1 : b ≤ 255) : encN (a * 256 + b - 32768) = [a, b] := by
  unfold encN
  rw [Int.tdiv_eq_ediv_of_nonneg (by omega), Int.tmod_eq_emod_of_nonneg (by omega)]
  congr 1
  · omega
  · congr 1; omega
theorem drop_two {L : List Int} {p : Nat} (h : p + 2 ≤ L.length) : L.drop p = nth L p :: nth L ((p : Int) + 1) :: L.drop (p + 2) := by
  have e1 : nth L p = L[p] := nth_of (by simp)
  have e2 : nth L ((p : Int) + 1) = L[p + 1] := nth_of (by rw [show ((p : Int) + 1).toNat = p + 1 from by omega]; simp)
  rw [List.drop_eq_getElem_cons (by omega), List.drop_eq_getElem_cons (i := p + 1) (by omega), e1, e2]
end Go.Vc

namespace Go.Vc
open Go Go.Proofs Go.RowKit
set_option linter.all false
/-- the reader of the reference: at p of L -/
def Srd (a : Addr) (x : Sl) (L : List Int) (p : Nat) (b : Bool) (I : Items) : Prop := Cel a [x.val, .int .i64 (p : Int), .bool b] I ∧ p ≤ L.length
section
variable {u v w : World} {x y z : Sl} {L : List Int} {p : Nat} {b : Bool} {a : Addr} {I J K R : Items}
theorem c_srcNumber (hC : Srd a x L p b I) (hS : St u w (I ++ R)) (hx : Read u x L) :
    Trip Try.prog 96 #[.pointer (some (a.add 0))] w fun r w' => ∃ n p' b' I', r = .int .i64 n ∧ Srd a x L p' b' I' ∧ St u w' (I' ++ R) ∧ SmI n ∧ CR encN TmI (L.drop p) b n (L.drop p') b' ∧ DR encN (L.drop p) n (L.drop p') b' := by
  refine of96 _ _ _ ?_
  unfold vc96
  obtain ⟨hC, hp⟩ := hC
  have hxn := hx.n
  have hxl := hx.le
  refine ⟨b, Cel.load hC hS rfl, _, fun _ => Cel.load hC hS rfl, ?_⟩
  refine go_wrg (fun _ => by omega) ?_
  refine ⟨x, fun _ => Cel.load hC hS rfl, fun hq => ?_, fun hq => ?_⟩
  · refine Cel.store hC hS (by simp) ?_
    intro w1 I1 hC hS
    replace hC : Cel a [x.val, .int .i64 (p : Int), .bool true] I1 := hC
    refine ⟨0, p, true, I1, rfl, ⟨hC, hp⟩, hS, ⟨by omega, by omega⟩, ⟨fun h => (by cases h), Nat.le_refl _, fun m rest hm hb hM => ?_⟩, fun h => (by cases h)⟩
    exfalso
    have hl : (L.drop p).length = (encN m ++ rest).length := by rw [hM]
    rw [List.length_drop, List.length_append, encN_len] at hl
    subst hb
    simp only [Bool.false_or, decide_eq_true_eq] at hq
    omega
  · simp only [Bool.or_eq_false_iff, decide_eq_false_iff_not] at hq
    obtain ⟨rfl, hq⟩ := hq
    have hl2 : p + 2 ≤ L.length := by omega
    have hd := drop_two hl2
    refine ⟨x, Cel.load hC hS rfl, _, Cel.load hC hS rfl, ?_⟩
    refine go_ix hx (by omega) (by omega) ?_
    refine ld_int (hx.mono hS.sub) (by omega) (by omega) ?_
    intro a0 a1
    refine ⟨x, Cel.load hC hS rfl, _, Cel.load hC hS rfl, ?_⟩
    refine go_wr (by omega) (by omega) ?_
    refine go_ix hx (by omega) (by omega) ?_
    refine ld_int (hx.mono hS.sub) (by omega) (by omega) ?_
    intro b0 b1
    refine ⟨_, Cel.load hC hS rfl, ?_⟩
    refine go_wr (by omega) (by omega) ?_
    refine Cel.store hC hS (by simp) ?_
    intro w1 I1 hC hS
    replace hC : Cel a [x.val, .int .i64 ((p : Int) + 2), .bool false] I1 := hC
    refine ⟨_, c_inRange, _, fun _ => c_inRange, fun hq2 => ?_, fun hq2 => ?_⟩
    · refine Cel.store hC hS (by simp) ?_
      intro w2 I2 hC hS
      replace hC : Cel a [x.val, .int .i64 ((p + 2 : Nat) : Int), .bool true] I2 := hC
      refine ⟨0, p + 2, true, I2, rfl, ⟨hC, hl2⟩, hS, ⟨by omega, by omega⟩, ⟨fun h => (by cases h), by simp only [List.length_drop]; omega, fun m rest hm _ hM => ?_⟩, fun h => (by cases h)⟩
      exfalso
      obtain ⟨e1, e2, e3, e4, e5, _⟩ := encN_dec hm
      rw [hd, e1] at hM
      simp only [List.cons_append, List.nil_append, List.cons.injEq] at hM
      rw [hM.1, hM.2.1, decide_eq_true e2, decide_eq_true e3, decide_eq_true e4, decide_eq_true e5] at hq2
      cases hq2
    · have hr : (0 ≤ nth L p ∧ nth L p ≤ 255) ∧ 0 ≤ nth L ((p : Int) + 1) ∧ nth L ((p : Int) + 1) ≤ 255 := by
        simp only [Bool.or_eq_false_iff, Bool.not_eq_false', Bool.and_eq_true, decide_eq_true_eq] at hq2
        exact hq2
      have hen := encN_of hr.1.1 hr.1.2 hr.2.1 hr.2.2
      refine go_wr (by omega) (by omega) ?_
      refine go_wr (by omega) (by omega) ?_
      refine go_wr (by omega) (by omega) ?_
      refine ⟨_, p + 2, false, I1, rfl, ⟨hC, hl2⟩, hS, ⟨by omega, by omega⟩, ⟨fun _ => rfl, by simp only [List.length_drop]; omega, fun m rest hm _ hM => ?_⟩, fun _ => ?_⟩
      · obtain ⟨e1, e2, e3, e4, e5, e6⟩ := encN_dec hm
        rw [hd, e1] at hM
        simp only [List.cons_append, List.nil_append, List.cons.injEq] at hM
        exact ⟨rfl, by rw [hM.1, hM.2.1]; exact e6, hM.2.2⟩
      · rw [hd, hen]; rfl
theorem c_srcMany (hC : Srd a x L p b I) (hS : St u w (I ++ R)) (hx : Read u x L) :
    Trip Try.prog 64 #[.pointer (some (a.add 0))] w fun r w' => ∃ n p' b' I', r = .int .i64 n ∧ Srd a x L p' b' I' ∧ St u w' (I' ++ R) ∧ 0 ≤ n ∧ n ≤ 1099511627776 ∧ CM (L.drop p) b n (L.drop p') b' ∧ DR encN (L.drop p) n (L.drop p') b' := by
  refine of64 _ _ _ ?_
  unfold vc64
  have hxn := hx.n
  have hxl := hx.le
  refine Trip.mono' (c_srcNumber hC hS hx) ?_
  rintro _ w1 ⟨n, p1, b1, I1, rfl, ⟨hC, hp⟩, hS, hn, hc, hd⟩
  refine ⟨n, rfl, b1, Cel.load hC hS rfl, ?_⟩
  by_cases hbn : (b1 || decide (n < 0)) = true
  · refine ⟨0, fun h => (by rw [hbn] at h; cases h), x, fun _ => Cel.load hC hS rfl, _, fun _ => Cel.load hC hS rfl, ?_⟩
    refine go_wrg (fun _ => by omega) ?_
    refine ⟨fun _ => ?_, fun hq => by rw [hbn] at hq; cases hq⟩
    refine Cel.store hC hS (by simp) ?_
    intro w2 I2 hC hS
    replace hC : Cel a [x.val, .int .i64 (p1 : Int), .bool true] I2 := hC
    refine ⟨0, p1, true, I2, rfl, ⟨hC, hp⟩, hS, by omega, by omega, ⟨fun h => (by cases h), hc.2.1, fun n0 rest h0 h1 hb hM h2 => ?_⟩, fun h => (by cases h)⟩
    obtain ⟨k1, k2, k3⟩ := hc.2.2 n0 rest ⟨by omega, h1⟩ hb hM
    rw [k1, k2, decide_eq_false (by omega)] at hbn
    cases hbn
  · have hbn : (b1 || decide (n < 0)) = false := by simpa using hbn
    simp only [Bool.or_eq_false_iff, decide_eq_false_iff_not] at hbn
    obtain ⟨rfl, hn0⟩ := hbn
    obtain ⟨i1, i2⟩ := hn
    refine go_wrg (fun _ => by omega) ?_
    refine ⟨x, fun _ => Cel.load hC hS rfl, _, fun _ => Cel.load hC hS rfl, ?_⟩
    refine go_wrg (fun _ => by omega) ?_
    refine ⟨fun hq => ?_, fun hq => ?_⟩
    · refine Cel.store hC hS (by simp) ?_
      intro w2 I2 hC hS
      replace hC : Cel a [x.val, .int .i64 (p1 : Int), .bool true] I2 := hC
      refine ⟨0, p1, true, I2, rfl, ⟨hC, hp⟩, hS, by omega, by omega, ⟨fun h => (by cases h), hc.2.1, fun n0 rest h0 h1 hb hM h2 => ?_⟩, fun h => (by cases h)⟩
      exfalso
      obtain ⟨k1, k2, k3⟩ := hc.2.2 n0 rest ⟨by omega, h1⟩ hb hM
      have hl : (L.drop p1).length = rest.length := by rw [k3]
      rw [List.length_drop] at hl
      rw [decide_eq_false hn0] at hq
      simp only [Bool.false_or, decide_eq_true_eq] at hq
      omega
    · rw [decide_eq_false hn0] at hq
      simp only [Bool.false_or, decide_eq_false_iff_not] at hq
      refine ⟨n, p1, false, I1, rfl, ⟨hC, hp⟩, hS, by omega, by omega, ⟨hc.1, hc.2.1, fun n0 rest h0 h1 hb hM h2 => ?_⟩, hd⟩
      exact hc.2.2 n0 rest ⟨by omega, h1⟩ hb hM
theorem Srd.le (h : Srd a x L p b I) : p ≤ L.length := h.2
theorem encN_two (n : Int) : 2 ≤ (encN n).length := Nat.le_refl 2
/-- a list of numbers -/
theorem c_srcNumbers (hC : Srd a x L p b I) (hS : St u w (I ++ R)) (hx : Read u x L) :
    Trip Try.prog 97 #[.pointer (some (a.add 0))] w fun r w' => ∃ z ns p' b' I' J, r = z.val ∧ Srd a x L p' b' I' ∧ OwnI z ns J ∧ St u w' (I' ++ (J ++ R)) ∧ CR (encS encN) (TmS TmI) (L.drop p) b ns (L.drop p') b' ∧ DR (encS encN) (L.drop p) ns (L.drop p') b' := by
  refine of97 _ _ _ ?_
  unfold vc97
  refine St.build (α := Int) hS (by (repeat' (first | exact VsOf.nil | apply VsOf.cons | (apply VOf.int; first | assumption | (constructor <;> first | omega | (simp only [List.length_set, List.length_append, List.length_replicate, List.length_cons, List.length_nil, List.length_take, List.length_drop, List.length_map, List.length_singleton] at *; omega))) | exact VOf.bool | exact VOf.str))) rfl (by decide) ?_
  intro z0 w0 J0 hZ hS hs
  refine ⟨_, rfl, ?_⟩
  replace hS : St u w0 (I ++ (J0 ++ R)) := hS.perm (by
    classical
    exact List.perm_iff_count.2 fun a => by simp only [List.count_append]; omega)
  refine Trip.mono' (c_srcMany hC hS hx) ?_
  rintro _ w1 ⟨n, p1, b1, I1, rfl, hC, hS, n0, n1, hc, hd⟩
  refine ⟨n, rfl, ?_⟩
  refine ⟨fun z i w => ∃ (ns : List Int) (p2 : Nat) (b2 : Bool) (I2 J : Items), Srd a x L p2 b2 I2 ∧ OwnI z ns J ∧ St u w (I2 ++ (J ++ R)) ∧ (ns.length : Int) = i ∧ i ≤ n ∧ CP encN TmI (L.drop p1) b1 ns (L.drop p2) b2 ∧ (b2 = false → L.drop p1 = ns.flatMap encN ++ L.drop p2), fun _ i _ => (n - i).toNat, ⟨[], p1, b1, I1, J0, hC, hZ.toI, hS, rfl, n0, .nil, fun _ => rfl⟩, ?_⟩
  clear hC hS hZ hs
  rintro z i w ⟨ns, p2, b2, I2, J, hC, hZ, hS, hl, hi1, hcp, hdp⟩
  dsimp only
  refine ⟨fun hi => ?_, fun hi => ?_⟩
  · simp only [decide_eq_true_eq, decide_eq_false_iff_not, Bool.and_eq_true, Bool.and_eq_false_iff, Bool.or_eq_true, Bool.or_eq_false_iff, Bool.not_eq_true', Bool.not_eq_false', Bool.not_true, Bool.not_false, Bool.false_eq_true, Bool.true_eq_false, Int.not_lt, Int.not_le, ge_iff_le, gt_iff_lt, Bool.not_eq_eq_eq_not, Bool.true_or, Bool.or_true, Bool.false_or, Bool.or_false, Bool.true_and, Bool.and_true, false_or, or_false, true_and, and_true, Decidable.not_not] at hi
    refine Trip.mono' (c_srcNumber hC hS hx) ?_
    rintro _ w3 ⟨k, p3, b3, I3, rfl, hC, hS, hk, hck, hdk⟩
    refine ⟨k, rfl, ?_⟩
    refine St.build (α := Int) (l := [k]) hS (.cons (.int ⟨by omega, by omega⟩) .nil) rfl (by decide) ?_
    intro x4 w4 J4 hX hS hs
    refine ⟨_, rfl, ?_⟩
    replace hS : St u w4 (J ++ (J4 ++ (I3 ++ R))) := hS.perm (by
      classical
      exact List.perm_iff_count.2 fun a => by simp only [List.count_append]; omega)
    refine Own.append (hZ u) hS (Own.src hX hS) (by simp; omega) (by decide) ?_
    intro x5 w5 J5 hZ5 hS
    refine ⟨_, rfl, ?_⟩
    refine go_wr (by omega) (by omega) ?_
    refine ⟨⟨ns ++ [k], p3, b3, I3, J5, hC, hZ5.toI, (show St u w5 (J5 ++ (I3 ++ R)) from hS.to).perm (by
      classical
      exact List.perm_iff_count.2 fun a => by simp only [List.count_append]; omega), by simp; omega, by omega, hcp.snoc hck, fun hb => ?_⟩, by omega⟩
    rw [hdp (hck.1 hb), hdk hb, List.flatMap_append]
    simp
  · simp only [decide_eq_true_eq, decide_eq_false_iff_not, Bool.and_eq_true, Bool.and_eq_false_iff, Bool.or_eq_true, Bool.or_eq_false_iff, Bool.not_eq_true', Bool.not_eq_false', Bool.not_true, Bool.not_false, Bool.false_eq_true, Bool.true_eq_false, Int.not_lt, Int.not_le, ge_iff_le, gt_iff_lt, Bool.not_eq_eq_eq_not, Bool.true_or, Bool.or_true, Bool.false_or, Bool.or_false, Bool.true_and, Bool.and_true, false_or, or_false, true_and, and_true, Decidable.not_not] at hi
    have hn : (ns.length : Int) = n := by omega
    exact ⟨z, ns, p2, b2, I2, J, rfl, hC, hZ, hS, CR.list hc hcp hn encN_two, DR.list hd hdp hcp.1 hn⟩
end
end Go.Vc

namespace Go.Vc
open Go Go.Proofs Go.RowKit
set_option linter.all false
def TmC (c : ConD) : Prop := TmL c.fields
def TmIm (m : ImD) : Prop := (m.decls.length ≤ 10000 ∧ ∀ d ∈ m.decls, TmDecl d) ∧ (m.procs.length ≤ 10000 ∧ ∀ p ∈ m.procs, TmProc p)
theorem encC_two (c : ConD) : 2 ≤ (encC c).length := by unfold encC; rw [encL_len]; omega
theorem encI_two (c : InstrD) : 2 ≤ (encI c).length := by unfold encI; simp only [List.length_append, encN_len]; omega
theorem encD_two (c : DeclD) : 2 ≤ (encD c).length := by unfold encD; simp only [List.length_append, encN_len]; omega
theorem encP_two (c : ProcD) : 2 ≤ (encP c).length := by unfold encP; simp only [List.length_append, encN_len]; omega
section
variable {M M1 M2 M3 M4 M5 M6 : List Int} {b b1 b2 b3 b4 b5 b6 : Bool} {n1 n2 n3 n4 : Int} {l1 l2 : List Int} {cs : List ConD} {code : List InstrD} {ds : List DeclD} {ps : List ProcD}
theorem CR.con (h : CR (encS encN) (TmS TmI) M b l1 M1 b1) : CR encC TmC M b ⟨l1⟩ M1 b1 := h.map (fun l => (⟨l⟩ : ConD)) (fun c => c.fields) (fun _ => rfl) (fun _ => rfl) (fun _ h => h)
theorem DR.con (h : DR (encS encN) M l1 M1 b1) : DR encC M ⟨l1⟩ M1 b1 := h.map (e2 := encC) (fun l => (⟨l⟩ : ConD)) rfl
theorem CR.decl (h1 : CR encN TmI M b n1 M1 b1) (h2 : CR encN TmI M1 b1 n2 M2 b2) (h3 : CR (encS encC) (TmS TmC) M2 b2 cs M3 b3) : CR encD TmDecl M b ⟨n1, n2, cs⟩ M3 b3 :=
  ((h1.seq h2).seq h3).map (fun p => (⟨p.1.1, p.1.2, p.2⟩ : DeclD)) (fun d => ((d.frm, d.to_), d.cons)) (fun _ => rfl) (fun d => by simp [encD, encS, List.append_assoc]) (fun d h => ⟨⟨h.1, h.2.1⟩, h.2.2⟩)
theorem DR.decl (h1 : DR encN M n1 M1 b1) (h2 : DR encN M1 n2 M2 b2) (h3 : DR (encS encC) M2 cs M3 b3) (k2 : b2 = false → b1 = false) (k3 : b3 = false → b2 = false) : DR encD M ⟨n1, n2, cs⟩ M3 b3 := by
  intro hb
  rw [h1 (k2 (k3 hb)), h2 (k3 hb), h3 hb]
  simp [encD, encS, List.append_assoc]
theorem CR.instr (h1 : CR encN TmI M b n1 M1 b1) (h2 : CR encN TmI M1 b1 n2 M2 b2) (h3 : CR encN TmI M2 b2 n3 M3 b3) (h4 : CR encN TmI M3 b3 n4 M4 b4) (h5 : CR (encS encN) (TmS TmI) M4 b4 l1 M5 b5) (h6 : CR (encS encN) (TmS TmI) M5 b5 l2 M6 b6) : CR encI TmInstr M b ⟨n1, n2, n3, n4, l1, l2⟩ M6 b6 :=
  (((((h1.seq h2).seq h3).seq h4).seq h5).seq h6).map (e2 := encI) (S2 := TmInstr) (fun p => (⟨p.1.1.1.1.1, p.1.1.1.1.2, p.1.1.1.2, p.1.1.2, p.1.2, p.2⟩ : InstrD)) (fun c => (((((c.op, c.dst), c.num), c.into), c.args), c.jumps)) (fun _ => rfl) (fun d => rfl) (fun c h => ⟨⟨⟨⟨⟨h.1, h.2.1⟩, h.2.2.1⟩, h.2.2.2.1⟩, h.2.2.2.2.1⟩, h.2.2.2.2.2⟩)
theorem DR.instr (h1 : DR encN M n1 M1 b1) (h2 : DR encN M1 n2 M2 b2) (h3 : DR encN M2 n3 M3 b3) (h4 : DR encN M3 n4 M4 b4) (h5 : DR (encS encN) M4 l1 M5 b5) (h6 : DR (encS encN) M5 l2 M6 b6) (k2 : b2 = false → b1 = false) (k3 : b3 = false → b2 = false) (k4 : b4 = false → b3 = false) (k5 : b5 = false → b4 = false) (k6 : b6 = false → b5 = false) : DR encI M ⟨n1, n2, n3, n4, l1, l2⟩ M6 b6 := by
  intro hb
  rw [h1 (k2 (k3 (k4 (k5 (k6 hb))))), h2 (k3 (k4 (k5 (k6 hb)))), h3 (k4 (k5 (k6 hb))), h4 (k5 (k6 hb)), h5 (k6 hb), h6 hb]
  simp [encI, encL, encS, List.append_assoc]
theorem CR.proc (h1 : CR (encS encN) (TmS TmI) M b l1 M1 b1) (h2 : CR (encS encN) (TmS TmI) M1 b1 l2 M2 b2) (h3 : CR encN TmI M2 b2 n1 M3 b3) (h4 : CR encN TmI M3 b3 n2 M4 b4) (h5 : CR (encS encI) (TmS TmInstr) M4 b4 code M5 b5) : CR encP TmProc M b ⟨l1, l2, n1, n2, code⟩ M5 b5 :=
  ((((h1.seq h2).seq h3).seq h4).seq h5).map (fun p => (⟨p.1.1.1.1, p.1.1.1.2, p.1.1.2, p.1.2, p.2⟩ : ProcD)) (fun c => ((((c.params, c.lent), c.result), c.regs), c.code)) (fun _ => rfl) (fun d => by simp [encP, encL, encS, List.append_assoc]) (fun c h => ⟨⟨⟨⟨h.1, h.2.1⟩, h.2.2.1⟩, h.2.2.2.1⟩, h.2.2.2.2⟩)
theorem DR.proc (h1 : DR (encS encN) M l1 M1 b1) (h2 : DR (encS encN) M1 l2 M2 b2) (h3 : DR encN M2 n1 M3 b3) (h4 : DR encN M3 n2 M4 b4) (h5 : DR (encS encI) M4 code M5 b5) (k2 : b2 = false → b1 = false) (k3 : b3 = false → b2 = false) (k4 : b4 = false → b3 = false) (k5 : b5 = false → b4 = false) : DR encP M ⟨l1, l2, n1, n2, code⟩ M5 b5 := by
  intro hb
  rw [h1 (k2 (k3 (k4 (k5 hb)))), h2 (k3 (k4 (k5 hb))), h3 (k4 (k5 hb)), h4 (k5 hb), h5 hb]
  simp [encP, encL, encS, List.append_assoc]
theorem CR.im (h1 : CR (encS encD) (TmS TmDecl) M b ds M1 b1) (h2 : CR (encS encP) (TmS TmProc) M1 b1 ps M2 b2) : CR (fun m : ImD => encM m.decls m.procs) TmIm M b ⟨ds, ps⟩ M2 b2 :=
  (h1.seq h2).map (fun p => (⟨p.1, p.2⟩ : ImD)) (fun m => (m.decls, m.procs)) (fun _ => rfl) (fun d => by simp [encM, encS, List.append_assoc]) (fun c h => h)
theorem DR.im (h1 : DR (encS encD) M ds M1 b1) (h2 : DR (encS encP) M1 ps M2 b2) (k2 : b2 = false → b1 = false) : DR (fun m : ImD => encM m.decls m.procs) M ⟨ds, ps⟩ M2 b2 := by
  intro hb
  rw [h1 (k2 hb), h2 hb]
  simp [encM, encS, List.append_assoc]
end
section
variable {u v w : World} {x y z : Sl} {L : List Int} {p : Nat} {b : Bool} {a : Addr} {I J K R : Items}
theorem SmI.in_ {n : Int} (h : SmI n) : InI n := ⟨by omega, by omega⟩
theorem c_srcInstr (hC : Srd a x L p b I) (hS : St u w (I ++ R)) (hx : Read u x L) :
    Trip Try.prog 98 #[.pointer (some (a.add 0))] w fun r w' => ∃ (c : InstrD) (f g : Sl) (p' : Nat) (b' : Bool) (I' A B : Items), r = .agg #[.int .i64 c.op, .int .i64 c.dst, .int .i64 c.num, .int .i64 c.into, f.val, g.val] ∧ Srd a x L p' b' I' ∧ OwnI f c.args A ∧ OwnI g c.jumps B ∧ St u w' (I' ++ (A ++ (B ++ R))) ∧ (InI c.op ∧ InI c.dst ∧ InI c.num ∧ InI c.into) ∧ CR encI TmInstr (L.drop p) b c (L.drop p') b' ∧ DR encI (L.drop p) c (L.drop p') b' := by
  refine of98 _ _ _ ?_
  unfold vc98
  refine Trip.mono' (c_srcNumber hC hS hx) ?_
  rintro _ w1 ⟨n1, p1, b1, I1, rfl, hC, hS, s1, h1, d1⟩
  refine ⟨_, rfl, ?_⟩
  refine Trip.mono' (c_srcNumber hC hS hx) ?_
  rintro _ w2 ⟨n2, p2, b2, I2, rfl, hC, hS, s2, h2, d2⟩
  refine ⟨_, rfl, ?_⟩
  refine Trip.mono' (c_srcNumber hC hS hx) ?_
  rintro _ w3 ⟨n3, p3, b3, I3, rfl, hC, hS, s3, h3, d3⟩
  refine ⟨_, rfl, ?_⟩
  refine Trip.mono' (c_srcNumber hC hS hx) ?_
  rintro _ w4 ⟨n4, p4, b4, I4, rfl, hC, hS, s4, h4, d4⟩
  refine ⟨_, rfl, ?_⟩
  refine Trip.mono' (c_srcNumbers hC hS hx) ?_
  rintro _ w5 ⟨f, l1, p5, b5, I5, A, rfl, hC, hF, hS, h5, d5⟩
  refine ⟨_, rfl, ?_⟩
  refine Trip.mono' (c_srcNumbers hC hS hx) ?_
  rintro _ w6 ⟨g, l2, p6, b6, I6, B, rfl, hC, hG, hS, h6, d6⟩
  refine ⟨_, rfl, ?_⟩
  exact ⟨⟨n1, n2, n3, n4, l1, l2⟩, f, g, p6, b6, I6, A, B, rfl, hC, hF, hG, hS.perm (by
      classical
      exact List.perm_iff_count.2 fun a => by simp only [List.count_append]; omega), ⟨s1.in_, s2.in_, s3.in_, s4.in_⟩, CR.instr h1 h2 h3 h4 h5 h6, DR.instr d1 d2 d3 d4 d5 d6 h2.1 h3.1 h4.1 h5.1 h6.1⟩
theorem c_srcProc (hC : Srd a x L p b I) (hS : St u w (I ++ R)) (hx : Read u x L) :
    Trip Try.prog 65 #[.pointer (some (a.add 0))] w fun r w' => ∃ (c : ProcD) (f g h : Sl) (p' : Nat) (b' : Bool) (I' A B C : Items), r = .agg #[f.val, g.val, .int .i64 c.result, .int .i64 c.regs, h.val] ∧ Srd a x L p' b' I' ∧ OwnI f c.params A ∧ OwnI g c.lent B ∧ OwnD h c.code C ∧ St u w' (I' ++ (A ++ (B ++ (C ++ R)))) ∧ (InI c.result ∧ InI c.regs) ∧ CR encP TmProc (L.drop p) b c (L.drop p') b' ∧ DR encP (L.drop p) c (L.drop p') b' := by
  refine of65 _ _ _ ?_
  unfold vc65
  refine Trip.mono' (c_srcNumbers hC hS hx) ?_
  rintro _ w1 ⟨f, l1, p1, b1, I1, A, rfl, hC, hF, hS, h1, d1⟩
  refine ⟨_, rfl, ?_⟩
  refine Trip.mono' (c_srcNumbers hC hS hx) ?_
  rintro _ w2 ⟨g, l2, p2, b2, I2, B, rfl, hC, hG, hS, h2, d2⟩
  refine ⟨_, rfl, ?_⟩
  refine Trip.mono' (c_srcNumber hC hS hx) ?_
  rintro _ w3 ⟨n1, p3, b3, I3, rfl, hC, hS, s3, h3, d3⟩
  refine ⟨_, rfl, ?_⟩
  refine Trip.mono' (c_srcNumber hC hS hx) ?_
  rintro _ w4 ⟨n2, p4, b4, I4, rfl, hC, hS, s4, h4, d4⟩
  refine ⟨_, rfl, ?_⟩
  refine St.build (α := InstrD) hS (by (repeat' (first | exact VsOf.nil | apply VsOf.cons | (apply VOf.int; first | assumption | (constructor <;> first | omega | (simp only [List.length_set, List.length_append, List.length_replicate, List.length_cons, List.length_nil, List.length_take, List.length_drop, List.length_map, List.length_singleton] at *; omega))) | exact VOf.bool | exact VOf.str))) rfl (by decide) ?_
  intro h0 w5 C0 hH hS hs
  refine ⟨_, rfl, ?_⟩
  replace hS : St u w5 (I4 ++ (C0 ++ (B ++ (A ++ R)))) := hS.perm (by
      classical
      exact List.perm_iff_count.2 fun a => by simp only [List.count_append]; omega)
  refine Trip.mono' (c_srcMany hC hS hx) ?_
  rintro _ w6 ⟨n, p5, b5, I5, rfl, hC, hS, n0, n1', hm, dm⟩
  refine ⟨n, rfl, ?_⟩
  refine ⟨fun h i w => ∃ (xs : List InstrD) (p2 : Nat) (b2 : Bool) (I2 J : Items), Srd a x L p2 b2 I2 ∧ OwnD h xs J ∧ St u w (I2 ++ (J ++ (B ++ (A ++ R)))) ∧ (xs.length : Int) = i ∧ i ≤ n ∧ CP encI TmInstr (L.drop p5) b5 xs (L.drop p2) b2 ∧ (b2 = false → L.drop p5 = xs.flatMap encI ++ L.drop p2), fun _ i _ => (n - i).toNat, ⟨[], p5, b5, I5, C0, hC, .ofEmpty hH, hS, rfl, n0, .nil, fun _ => rfl⟩, ?_⟩
  clear hC hS hH hs
  rintro h i w ⟨xs, p6, b6, I6, J, hC, hH, hS, hl, hi1, hcp, hdp⟩
  dsimp only
  refine ⟨fun hi => ?_, fun hi => ?_⟩
  · simp only [decide_eq_true_eq, decide_eq_false_iff_not, Bool.and_eq_true, Bool.and_eq_false_iff, Bool.or_eq_true, Bool.or_eq_false_iff, Bool.not_eq_true', Bool.not_eq_false', Bool.not_true, Bool.not_false, Bool.false_eq_true, Bool.true_eq_false, Int.not_lt, Int.not_le, ge_iff_le, gt_iff_lt, Bool.not_eq_eq_eq_not, Bool.true_or, Bool.or_true, Bool.false_or, Bool.or_false, Bool.true_and, Bool.and_true, false_or, or_false, true_and, and_true, Decidable.not_not] at hi
    refine Trip.mono' (c_srcInstr hC hS hx) ?_
    rintro _ w7 ⟨c, fa, fj, p7, b7, I7, KA, KJ, rfl, hC, hA, hJ, hS, ⟨q1, q2, q3, q4⟩, hck, hdk⟩
    refine ⟨_, _, _, _, fa, fj, rfl, ?_⟩
    refine OwnD.add (a := c) (J := KA ++ KJ) (R := I7 ++ (B ++ (A ++ R))) hH (hS.perm (by
      classical
      exact List.perm_iff_count.2 fun a => by simp only [List.count_append]; omega)) rfl ⟨fa, fj, KA, KJ, rfl, q1, q2, q3, q4, hA, hJ, rfl⟩ (by decide) (by omega) (by decide) ?_
    intro h' w8 C8 hH hS
    refine go_wr (by omega) (by omega) ?_
    refine ⟨rfl, rfl, rfl, rfl, rfl, ⟨xs ++ [c], p7, b7, I7, C8, hC, hH, hS.perm (by
      classical
      exact List.perm_iff_count.2 fun a => by simp only [List.count_append]; omega), by simp; omega, by omega, hcp.snoc hck, fun hb => ?_⟩, by omega⟩
    rw [hdp (hck.1 hb), hdk hb, List.flatMap_append]
    simp
  · simp only [decide_eq_true_eq, decide_eq_false_iff_not, Bool.and_eq_true, Bool.and_eq_false_iff, Bool.or_eq_true, Bool.or_eq_false_iff, Bool.not_eq_true', Bool.not_eq_false', Bool.not_true, Bool.not_false, Bool.false_eq_true, Bool.true_eq_false, Int.not_lt, Int.not_le, ge_iff_le, gt_iff_lt, Bool.not_eq_eq_eq_not, Bool.true_or, Bool.or_true, Bool.false_or, Bool.or_false, Bool.true_and, Bool.and_true, false_or, or_false, true_and, and_true, Decidable.not_not] at hi
    have hn : (xs.length : Int) = n := by omega
    have h5 := CR.list hm hcp hn encI_two
    have d5 := DR.list dm hdp hcp.1 hn
    exact ⟨⟨l1, l2, n1, n2, xs⟩, f, g, h, p6, b6, I6, A, B, J, rfl, hC, hF, hG, hH, hS.perm (by
      classical
      exact List.perm_iff_count.2 fun a => by simp only [List.count_append]; omega), ⟨s3.in_, s4.in_⟩, CR.proc h1 h2 h3 h4 h5, DR.proc d1 d2 d3 d4 d5 h2.1 h3.1 h4.1 h5.1⟩
theorem c_srcDecls (hC : Srd a x L p b I) (hS : St u w (I ++ R)) (hx : Read u x L) :
    Trip Try.prog 63 #[.pointer (some (a.add 0))] w fun r w' => ∃ (ds : List DeclD) (h : Sl) (p' : Nat) (b' : Bool) (I' C : Items), r = h.val ∧ Srd a x L p' b' I' ∧ OwnD h ds C ∧ St u w' (I' ++ (C ++ R)) ∧ CR (encS encD) (TmS TmDecl) (L.drop p) b ds (L.drop p') b' ∧ DR (encS encD) (L.drop p) ds (L.drop p') b' := by
  refine of63 _ _ _ ?_
  unfold vc63
  refine St.build (α := DeclD) hS (by (repeat' (first | exact VsOf.nil | apply VsOf.cons | (apply VOf.int; first | assumption | (constructor <;> first | omega | (simp only [List.length_set, List.length_append, List.length_replicate, List.length_cons, List.length_nil, List.length_take, List.length_drop, List.length_map, List.length_singleton] at *; omega))) | exact VOf.bool | exact VOf.str))) rfl (by decide) ?_
  intro h0 w5 C0 hH hS hs
  refine ⟨_, rfl, ?_⟩
  replace hS : St u w5 (I ++ (C0 ++ R)) := hS.perm (by
      classical
      exact List.perm_iff_count.2 fun a => by simp only [List.count_append]; omega)
  refine Trip.mono' (c_srcMany hC hS hx) ?_
  rintro _ w6 ⟨n, p5, b5, I5, rfl, hC, hS, n0, n1', hm, dm⟩
  refine ⟨n, rfl, ?_⟩
  refine ⟨fun h i w => ∃ (xs : List DeclD) (p2 : Nat) (b2 : Bool) (I2 J : Items), Srd a x L p2 b2 I2 ∧ OwnD h xs J ∧ St u w (I2 ++ (J ++ R)) ∧ (xs.length : Int) = i ∧ i ≤ n ∧ CP encD TmDecl (L.drop p5) b5 xs (L.drop p2) b2 ∧ (b2 = false → L.drop p5 = xs.flatMap encD ++ L.drop p2), fun _ i _ => (n - i).toNat, ⟨[], p5, b5, I5, C0, hC, .ofEmpty hH, hS, rfl, n0, .nil, fun _ => rfl⟩, ?_⟩
  clear hC hS hH hs
  rintro h i w ⟨xs, p6, b6, I6, J, hC, hH, hS, hl, hi1, hcp, hdp⟩
  dsimp only
  refine ⟨fun hi => ?_, fun hi => ?_⟩
  · simp only [decide_eq_true_eq, decide_eq_false_iff_not, Bool.and_eq_true, Bool.and_eq_false_iff, Bool.or_eq_true, Bool.or_eq_false_iff, Bool.not_eq_true', Bool.not_eq_false', Bool.not_true, Bool.not_false, Bool.false_eq_true, Bool.true_eq_false, Int.not_lt, Int.not_le, ge_iff_le, gt_iff_lt, Bool.not_eq_eq_eq_not, Bool.true_or, Bool.or_true, Bool.false_or, Bool.or_false, Bool.true_and, Bool.and_true, false_or, or_false, true_and, and_true, Decidable.not_not] at hi
    refine Trip.mono' (c_srcNumber hC hS hx) ?_
    rintro _ w1 ⟨n1, p1, b1, I1, rfl, hC, hS, s1, h1, d1⟩
    refine ⟨_, rfl, ?_⟩
    refine Trip.mono' (c_srcNumber hC hS hx) ?_
    rintro _ w2 ⟨n2, p2, b2, I2, rfl, hC, hS, s2, h2, d2⟩
    refine ⟨_, rfl, ?_⟩
    refine St.build (α := ConD) hS (by (repeat' (first | exact VsOf.nil | apply VsOf.cons | (apply VOf.int; first | assumption | (constructor <;> first | omega | (simp only [List.length_set, List.length_append, List.length_replicate, List.length_cons, List.length_nil, List.length_take, List.length_drop, List.length_map, List.length_singleton] at *; omega))) | exact VOf.bool | exact VOf.str))) rfl (by decide) ?_
    intro z0 w3 Z0 hZ hS hs
    refine ⟨_, rfl, ?_⟩
    replace hS : St u w3 (I2 ++ (Z0 ++ (J ++ R))) := hS.perm (by
      classical
      exact List.perm_iff_count.2 fun a => by simp only [List.count_append]; omega)
    refine Trip.mono' (c_srcMany hC hS hx) ?_
    rintro _ w4 ⟨k, p3, b3, I3, rfl, hC, hS, k0, k1', km, ek⟩
    refine ⟨k, rfl, ?_⟩
    refine ⟨fun z i w => ∃ (ys : List ConD) (p4 : Nat) (b4 : Bool) (I4 Z : Items), Srd a x L p4 b4 I4 ∧ OwnD z ys Z ∧ St u w (I4 ++ (Z ++ (J ++ R))) ∧ (ys.length : Int) = i ∧ i ≤ k ∧ CP encC TmC (L.drop p3) b3 ys (L.drop p4) b4 ∧ (b4 = false → L.drop p3 = ys.flatMap encC ++ L.drop p4), fun _ i _ => (k - i).toNat, ⟨[], p3, b3, I3, Z0, hC, .ofEmpty hZ, hS, rfl, k0, .nil, fun _ => rfl⟩, ?_⟩
    clear hC hS hZ hs
    rintro z j w ⟨ys, p4, b4, I4, Z, hC, hZ, hS, hj, hj1, hcq, hdq⟩
    dsimp only
    refine ⟨fun hi => ?_, fun hi => ?_⟩
    · simp only [decide_eq_true_eq, decide_eq_false_iff_not, Bool.and_eq_true, Bool.and_eq_false_iff, Bool.or_eq_true, Bool.or_eq_false_iff, Bool.not_eq_true', Bool.not_eq_false', Bool.not_true, Bool.not_false, Bool.false_eq_true, Bool.true_eq_false, Int.not_lt, Int.not_le, ge_iff_le, gt_iff_lt, Bool.not_eq_eq_eq_not, Bool.true_or, Bool.or_true, Bool.false_or, Bool.or_false, Bool.true_and, Bool.and_true, false_or, or_false, true_and, and_true, Decidable.not_not] at hi
      refine Trip.mono' (c_srcNumbers hC hS hx) ?_
      rintro _ w7 ⟨f, l1, p7, b7, I7, KA, rfl, hC, hF, hS, hck, hdk⟩
      refine ⟨_, rfl, ?_⟩
      refine OwnD.add (a := (⟨l1⟩ : ConD)) (J := KA) (R := I7 ++ (J ++ R)) hZ (hS.perm (by
      classical
      exact List.perm_iff_count.2 fun a => by simp only [List.count_append]; omega)) rfl ⟨f, KA, rfl, hF, rfl⟩ (by decide) (by omega) (by decide) ?_
      intro h' w8 C8 hZ hS
      refine go_wr (by omega) (by omega) ?_
      refine ⟨⟨ys ++ [⟨l1⟩], p7, b7, I7, C8, hC, hZ, hS.perm (by
      classical
      exact List.perm_iff_count.2 fun a => by simp only [List.count_append]; omega), by simp; omega, by omega, hcq.snoc hck.con, fun hb => ?_⟩, by omega⟩
      rw [hdq (hck.1 hb), hdk.con hb, List.flatMap_append]
      simp
    · simp only [decide_eq_true_eq, decide_eq_false_iff_not, Bool.and_eq_true, Bool.and_eq_false_iff, Bool.or_eq_true, Bool.or_eq_false_iff, Bool.not_eq_true', Bool.not_eq_false', Bool.not_true, Bool.not_false, Bool.false_eq_true, Bool.true_eq_false, Int.not_lt, Int.not_le, ge_iff_le, gt_iff_lt, Bool.not_eq_eq_eq_not, Bool.true_or, Bool.or_true, Bool.false_or, Bool.or_false, Bool.true_and, Bool.and_true, false_or, or_false, true_and, and_true, Decidable.not_not] at hi
      have hn : (ys.length : Int) = k := by omega
      have h3 := CR.list km hcq hn encC_two
      have d3 := DR.list ek hdq hcq.1 hn
      have hck := CR.decl h1 h2 h3
      have hdk := DR.decl d1 d2 d3 h2.1 h3.1
      refine OwnD.add (a := (⟨n1, n2, ys⟩ : DeclD)) (J := Z) (R := I4 ++ R) hH (hS.perm (by
      classical
      exact List.perm_iff_count.2 fun a => by simp only [List.count_append]; omega)) rfl ⟨z, Z, rfl, s1.in_, s2.in_, hZ, rfl⟩ (by decide) (by omega) (by decide) ?_
      intro h' w8 C8 hH hS
      refine go_wr (by omega) (by omega) ?_
      refine ⟨⟨xs ++ [⟨n1, n2, ys⟩], p4, b4, I4, C8, hC, hH, hS.perm (by
      classical
      exact List.perm_iff_count.2 fun a => by simp only [List.count_append]; omega), by simp; omega, by omega, hcp.snoc hck, fun hb => ?_⟩, by omega⟩
      rw [hdp (hck.1 hb), hdk hb, List.flatMap_append]
      simp
  · simp only [decide_eq_true_eq, decide_eq_false_iff_not, Bool.and_eq_true, Bool.and_eq_false_iff, Bool.or_eq_true, Bool.or_eq_false_iff, Bool.not_eq_true', Bool.not_eq_false', Bool.not_true, Bool.not_false, Bool.false_eq_true, Bool.true_eq_false, Int.not_lt, Int.not_le, ge_iff_le, gt_iff_lt, Bool.not_eq_eq_eq_not, Bool.true_or, Bool.or_true, Bool.false_or, Bool.or_false, Bool.true_and, Bool.and_true, false_or, or_false, true_and, and_true, Decidable.not_not] at hi
    have hn : (xs.length : Int) = n := by omega
    exact ⟨xs, h, p6, b6, I6, J, rfl, hC, hH, hS, CR.list hm hcp hn encD_two, DR.list dm hdp hcp.1 hn⟩
theorem c_srcImage (hC : Srd a x L p b I) (hS : St u w (I ++ R)) (hx : Read u x L) :
    Trip Try.prog 36 #[.pointer (some (a.add 0))] w fun r w' => ∃ (m : ImD) (f h : Sl) (p' : Nat) (b' : Bool) (I' A C : Items), r = .agg #[f.val, h.val] ∧ Srd a x L p' b' I' ∧ OwnD f m.decls A ∧ OwnD h m.procs C ∧ St u w' (I' ++ (A ++ (C ++ R))) ∧ CR (fun m : ImD => encM m.decls m.procs) TmIm (L.drop p) b m (L.drop p') b' ∧ DR (fun m : ImD => encM m.decls m.procs) (L.drop p) m (L.drop p') b' := by
  refine of36 _ _ _ ?_
  unfold vc36
  refine Trip.mono' (c_srcDecls hC hS hx) ?_
  rintro _ w1 ⟨ds, f, p1, b1, I1, A, rfl, hC, hF, hS, h1, d1⟩
  refine ⟨_, rfl, ?_⟩
  refine St.build (α := ProcD) hS (by (repeat' (first | exact VsOf.nil | apply VsOf.cons | (apply VOf.int; first | assumption | (constructor <;> first | omega | (simp only [List.length_set, List.length_append, List.length_replicate, List.length_cons, List.length_nil, List.length_take, List.length_drop, List.length_map, List.length_singleton] at *; omega))) | exact VOf.bool | exact VOf.str))) rfl (by decide) ?_
  intro h0 w5 C0 hH hS hs
  refine ⟨_, rfl, ?_⟩
  replace hS : St u w5 (I1 ++ (C0 ++ (A ++ R))) := hS.perm (by
      classical
      exact List.perm_iff_count.2 fun a => by simp only [List.count_append]; omega)
  refine Trip.mono' (c_srcMany hC hS hx) ?_
  rintro _ w6 ⟨n, p5, b5, I5, rfl, hC, hS, n0, n1', hm, dm⟩
  refine ⟨n, rfl, ?_⟩
  refine ⟨fun h i w => ∃ (xs : List ProcD) (p2 : Nat) (b2 : Bool) (I2 J : Items), Srd a x L p2 b2 I2 ∧ OwnD h xs J ∧ St u w (I2 ++ (J ++ (A ++ R))) ∧ (xs.length : Int) = i ∧ i ≤ n ∧ CP encP TmProc (L.drop p5) b5 xs (L.drop p2) b2 ∧ (b2 = false → L.drop p5 = xs.flatMap encP ++ L.drop p2), fun _ i _ => (n - i).toNat, ⟨[], p5, b5, I5, C0, hC, .ofEmpty hH, hS, rfl, n0, .nil, fun _ => rfl⟩, ?_⟩
  clear hC hS hH hs
  rintro h i w ⟨xs, p6, b6, I6, J, hC, hH, hS, hl, hi1, hcp, hdp⟩
  dsimp only
  refine ⟨fun hi => ?_, fun hi => ?_⟩
  · simp only [decide_eq_true_eq, decide_eq_false_iff_not, Bool.and_eq_true, Bool.and_eq_false_iff, Bool.or_eq_true, Bool.or_eq_false_iff, Bool.not_eq_true', Bool.not_eq_false', Bool.not_true, Bool.not_false, Bool.false_eq_true, Bool.true_eq_false, Int.not_lt, Int.not_le, ge_iff_le, gt_iff_lt, Bool.not_eq_eq_eq_not, Bool.true_or, Bool.or_true, Bool.false_or, Bool.or_false, Bool.true_and, Bool.and_true, false_or, or_false, true_and, and_true, Decidable.not_not] at hi
    refine Trip.mono' (c_srcProc hC hS hx) ?_
    rintro _ w7 ⟨c, f1, f2, f3, p7, b7, I7, K1, K2, K3, rfl, hC, hA, hB, hD, hS, ⟨q1, q2⟩, hck, hdk⟩
    refine ⟨f1, f2, _, _, f3, rfl, ?_⟩
    refine OwnD.add (a := c) (J := K1 ++ (K2 ++ K3)) (R := I7 ++ (A ++ R)) hH (hS.perm (by
      classical
      exact List.perm_iff_count.2 fun a => by simp only [List.count_append]; omega)) rfl ⟨f1, f2, f3, K1, K2, K3, rfl, q1, q2, hA, hB, hD, rfl⟩ (by decide) (by omega) (by decide) ?_
    intro h' w8 C8 hH hS
    refine go_wr (by omega) (by omega) ?_
    refine ⟨rfl, rfl, ⟨xs ++ [c], p7, b7, I7, C8, hC, hH, hS.perm (by
      classical
      exact List.perm_iff_count.2 fun a => by simp only [List.count_append]; omega), by simp; omega, by omega, hcp.snoc hck, fun hb => ?_⟩, by omega⟩
    rw [hdp (hck.1 hb), hdk hb, List.flatMap_append]
    simp
  · simp only [decide_eq_true_eq, decide_eq_false_iff_not, Bool.and_eq_true, Bool.and_eq_false_iff, Bool.or_eq_true, Bool.or_eq_false_iff, Bool.not_eq_true', Bool.not_eq_false', Bool.not_true, Bool.not_false, Bool.false_eq_true, Bool.true_eq_false, Int.not_lt, Int.not_le, ge_iff_le, gt_iff_lt, Bool.not_eq_eq_eq_not, Bool.true_or, Bool.or_true, Bool.false_or, Bool.or_false, Bool.true_and, Bool.and_true, false_or, or_false, true_and, and_true, Decidable.not_not] at hi
    have hn : (xs.length : Int) = n := by omega
    have h2 := CR.list hm hcp hn encP_two
    have d2 := DR.list dm hdp hcp.1 hn
    exact ⟨⟨ds, xs⟩, f, h, p6, b6, I6, A, J, rfl, hC, hF, hH, hS.perm (by
      classical
      exact List.perm_iff_count.2 fun a => by simp only [List.count_append]; omega), CR.im h1 h2, DR.im d1 d2 h2.1⟩
end
end Go.Vc

namespace Go.Vc
open Go Go.Proofs Go.RowKit
set_option linter.all false
/-- the program's reader: the list M is left -/
def Brd (a : Addr) (u : World) (M : List Int) (b : Bool) (I : Items) : Prop := ∃ z : Sl, Cel a [z.val, .bool b] I ∧ Read u z M
section
variable {u v w : World} {x y z : Sl} {l ws L M : List Int} {p : Nat} {b : Bool} {a : Addr} {n : Int} {I J K R : Items}
theorem c_slicesEqual (hx : Read v x l) (hy : Read v y ws) : Fn Try.prog 38 #[x.val, y.val] v (.bool (decide (l = ws))) := by
  refine of38 _ _ _ _ ?_
  unfold vc38
  have hn := hx.n
  have hl := hx.le
  have hyn := hy.n
  refine ⟨fun hc => ?_, fun hc => ?_⟩
  · simp only [decide_eq_true_eq, decide_eq_false_iff_not, Bool.and_eq_true, Bool.and_eq_false_iff, Bool.or_eq_true, Bool.or_eq_false_iff, Bool.not_eq_true', Bool.not_eq_false', Bool.not_true, Bool.not_false, Bool.false_eq_true, Bool.true_eq_false, Int.not_lt, Int.not_le, ge_iff_le, gt_iff_lt, Bool.not_eq_eq_eq_not, Bool.true_or, Bool.or_true, Bool.false_or, Bool.or_false, Bool.true_and, Bool.and_true, false_or, or_false, true_and, and_true, Decidable.not_not] at hc
    exact ⟨val_false (fun e => by rw [e] at hn; omega), .refl v⟩
  simp only [decide_eq_true_eq, decide_eq_false_iff_not, Bool.and_eq_true, Bool.and_eq_false_iff, Bool.or_eq_true, Bool.or_eq_false_iff, Bool.not_eq_true', Bool.not_eq_false', Bool.not_true, Bool.not_false, Bool.false_eq_true, Bool.true_eq_false, Int.not_lt, Int.not_le, ge_iff_le, gt_iff_lt, Bool.not_eq_eq_eq_not, Bool.true_or, Bool.or_true, Bool.false_or, Bool.or_false, Bool.true_and, Bool.and_true, false_or, or_false, true_and, and_true, Decidable.not_not] at hc
  refine ⟨fun i w => Sub v w ∧ 0 ≤ i ∧ i ≤ l.length ∧ l.take i.toNat = ws.take i.toNat, fun i _ => (l.length - i).toNat, ⟨.refl v, by omega, by omega, by simp⟩, ?_⟩
  rintro i w ⟨hs, h0, h1, h2⟩
  dsimp only
  refine ⟨fun hi => ?_, fun hi => ?_⟩
  · simp only [decide_eq_true_eq, decide_eq_false_iff_not, Bool.and_eq_true, Bool.and_eq_false_iff, Bool.or_eq_true, Bool.or_eq_false_iff, Bool.not_eq_true', Bool.not_eq_false', Bool.not_true, Bool.not_false, Bool.false_eq_true, Bool.true_eq_false, Int.not_lt, Int.not_le, ge_iff_le, gt_iff_lt, Bool.not_eq_eq_eq_not, Bool.true_or, Bool.or_true, Bool.false_or, Bool.or_false, Bool.true_and, Bool.and_true, false_or, or_false, true_and, and_true, Decidable.not_not] at hi
    refine go_ix hx h0 (by omega) ?_
    refine ld_int (hx.mono hs) h0 (by omega) ?_
    intro _ _
    refine go_ix hy h0 (by omega) ?_
    refine ld_int (hy.mono hs) h0 (by omega) ?_
    intro _ _
    refine ⟨fun hq => ?_, fun hq => ?_⟩
    · simp only [decide_eq_true_eq, decide_eq_false_iff_not, Bool.and_eq_true, Bool.and_eq_false_iff, Bool.or_eq_true, Bool.or_eq_false_iff, Bool.not_eq_true', Bool.not_eq_false', Bool.not_true, Bool.not_false, Bool.false_eq_true, Bool.true_eq_false, Int.not_lt, Int.not_le, ge_iff_le, gt_iff_lt, Bool.not_eq_eq_eq_not, Bool.true_or, Bool.or_true, Bool.false_or, Bool.or_false, Bool.true_and, Bool.and_true, false_or, or_false, true_and, and_true, Decidable.not_not] at hq
      exact ⟨val_false (fun e => hq (by rw [e])), hs⟩
    · simp only [decide_eq_true_eq, decide_eq_false_iff_not, Bool.and_eq_true, Bool.and_eq_false_iff, Bool.or_eq_true, Bool.or_eq_false_iff, Bool.not_eq_true', Bool.not_eq_false', Bool.not_true, Bool.not_false, Bool.false_eq_true, Bool.true_eq_false, Int.not_lt, Int.not_le, ge_iff_le, gt_iff_lt, Bool.not_eq_eq_eq_not, Bool.true_or, Bool.or_true, Bool.false_or, Bool.or_false, Bool.true_and, Bool.and_true, false_or, or_false, true_and, and_true, Decidable.not_not] at hq
      refine go_wr (by omega) (by omega) ?_
      refine ⟨⟨hs, by omega, by omega, ?_⟩, by omega⟩
      rw [take_nth h0 (by omega), take_nth h0 (by omega), h2, hq]
  · simp only [decide_eq_true_eq, decide_eq_false_iff_not, Bool.and_eq_true, Bool.and_eq_false_iff, Bool.or_eq_true, Bool.or_eq_false_iff, Bool.not_eq_true', Bool.not_eq_false', Bool.not_true, Bool.not_false, Bool.false_eq_true, Bool.true_eq_false, Int.not_lt, Int.not_le, ge_iff_le, gt_iff_lt, Bool.not_eq_eq_eq_not, Bool.true_or, Bool.or_true, Bool.false_or, Bool.or_false, Bool.true_and, Bool.and_true, false_or, or_false, true_and, and_true, Decidable.not_not] at hi
    rw [take_all (by omega), take_all (by omega)] at h2
    exact ⟨val_true h2, hs⟩
theorem wrap_in {n r : Int} (h : IntKind.wrap .i64 n = r) : InI r := by
  rw [IntKind.wrap_i64] at h
  constructor <;> omega
theorem c_brNumber (hC : Brd a u M b I) (hS : St u w (I ++ R)) :
    Trip Try.prog 67 #[.pointer (some (a.add 0))] w fun r w' => ∃ n M' b' I', r = .int .i64 n ∧ Brd a u M' b' I' ∧ St u w' (I' ++ R) ∧ InI n ∧ CR encN TmI M b n M' b' ∧ (b' = false → 2 ≤ M.length) := by
  refine of67 _ _ _ ?_
  unfold vc67
  obtain ⟨z, hC, hz⟩ := hC
  have hzn := hz.n
  refine ⟨b, Cel.load hC hS rfl, z, fun _ => Cel.load hC hS rfl, fun hq => ?_, fun hq => ?_⟩
  · refine Cel.store hC hS (by simp) ?_
    intro w1 I1 hC hS
    replace hC : Cel a [z.val, .bool true] I1 := hC
    refine ⟨0, M, true, I1, rfl, ⟨z, hC, hz⟩, hS, zero_in, ⟨fun h => (by cases h), Nat.le_refl _, fun m rest hm hb hM => ?_⟩, fun h => (by cases h)⟩
    exfalso
    have hl : M.length = (encN m ++ rest).length := by rw [hM]
    rw [List.length_append, encN_len] at hl
    subst hb
    simp only [Bool.false_or, decide_eq_true_eq] at hq
    omega
  · simp only [Bool.or_eq_false_iff, decide_eq_false_iff_not] at hq
    obtain ⟨rfl, hq⟩ := hq
    have hl2 : 0 + 2 ≤ M.length := by omega
    have hd := drop_two hl2
    simp only [List.drop_zero, Nat.zero_add] at hd
    refine ⟨z, Cel.load hC hS rfl, ?_⟩
    refine go_ix hz (Int.le_refl 0) (by omega) ?_
    refine ld_int (hz.mono hS.sub) (Int.le_refl 0) (by omega) ?_
    intro a0 a1
    refine go_wrap fun n6 h6 => ?_
    refine ⟨z, Cel.load hC hS rfl, ?_⟩
    refine go_ix hz (by omega) (by omega) ?_
    refine ld_int (hz.mono hS.sub) (by omega) (by omega) ?_
    intro b0 b1
    refine go_wrap fun n9 h9 => ?_
    refine go_wrap fun n10 h10 => ?_
    refine ⟨z, Cel.load hC hS rfl, ⟨by omega, by omega⟩, ?_⟩
    refine Cel.store hC hS (by simp) ?_
    intro w1 I1 hC hS
    replace hC : Cel a [(z.cut 2 (z.n : Int) 1).val, .bool false] I1 := hC
    have hcut := hz.cut (lo := 2) (hi := (z.n : Int)) (by omega) (by omega) (by omega)
    rw [show ((z.n : Int)).toNat = M.length from by omega, List.take_length, show ((2 : Int)).toNat = 2 from rfl, show Dat.sz Int = 1 from rfl] at hcut
    refine ⟨n10, M.drop 2, false, I1, rfl, ⟨_, hC, hcut⟩, hS, wrap_in h10, ⟨fun _ => rfl, by simp only [List.length_drop]; omega, fun m rest hm _ hM => ?_⟩, fun _ => by omega⟩
    obtain ⟨e1, e2, e3, e4, e5, e6⟩ := encN_dec hm
    rw [hd, e1] at hM
    simp only [List.cons_append, List.nil_append, List.cons.injEq] at hM
    obtain ⟨q1, q2, q3⟩ := hM
    refine ⟨rfl, ?_, q3⟩
    have hx0 : nth M ((0 : Nat) : Int) = nth M 0 := rfl
    have hx1 : nth M (((0 : Nat) : Int) + 1) = nth M 1 := rfl
    rw [hx0] at q1
    rw [hx1] at q2
    rw [q1] at h6
    rw [wrap_i64 (by omega) (by omega)] at h6
    rw [q2, ← h6] at h9
    rw [wrap_i64 (by omega) (by omega)] at h9
    rw [← h9] at h10
    rw [wrap_i64 (by omega) (by omega)] at h10
    omega
theorem c_brLength (hC : Brd a u M b I) (hS : St u w (I ++ R)) :
    Trip Try.prog 66 #[.pointer (some (a.add 0))] w fun r w' => ∃ n M' b' I', r = .int .i64 n ∧ Brd a u M' b' I' ∧ St u w' (I' ++ R) ∧ 0 ≤ n ∧ n ≤ 1099511627776 ∧ CM M b n M' b' ∧ (b' = false → 2 ≤ M.length) := by
  refine of66 _ _ _ ?_
  unfold vc66
  refine Trip.mono' (c_brNumber hC hS) ?_
  rintro _ w1 ⟨n, M1, b1, I1, rfl, ⟨z, hC, hz⟩, hS, hn, hc, h2⟩
  have hzn := hz.n
  have hzl := hz.le
  have htd : Int.tdiv (z.n : Int) 2 = (z.n : Int) / 2 := Int.tdiv_eq_ediv_of_nonneg (by omega)
  refine ⟨n, rfl, z, fun _ => Cel.load hC hS rfl, Int.tdiv (z.n : Int) 2, fun _ => ⟨by decide, inK_i64 (by omega) (by omega)⟩, fun hq => ?_, fun hq => ?_⟩
  · refine Cel.store hC hS (by simp) ?_
    intro w2 I2 hC hS
    replace hC : Cel a [z.val, .bool true] I2 := hC
    refine ⟨0, M1, true, I2, rfl, ⟨z, hC, hz⟩, hS, by omega, by omega, ⟨fun h => (by cases h), hc.2.1, fun n0 rest h0 h1 hb hM h3 => ?_⟩, fun h => (by cases h)⟩
    exfalso
    obtain ⟨k1, k2, k3⟩ := hc.2.2 n0 rest ⟨by omega, h1⟩ hb hM
    rw [htd] at hq
    simp only [decide_eq_true_eq, decide_eq_false_iff_not, Bool.and_eq_true, Bool.and_eq_false_iff, Bool.or_eq_true, Bool.or_eq_false_iff, Bool.not_eq_true', Bool.not_eq_false', Bool.not_true, Bool.not_false, Bool.false_eq_true, Bool.true_eq_false, Int.not_lt, Int.not_le, ge_iff_le, gt_iff_lt, Bool.not_eq_eq_eq_not, Bool.true_or, Bool.or_true, Bool.false_or, Bool.or_false, Bool.true_and, Bool.and_true, false_or, or_false, true_and, and_true, Decidable.not_not] at hq
    rw [k3] at hzn
    omega
  · rw [htd] at hq
    simp only [decide_eq_true_eq, decide_eq_false_iff_not, Bool.and_eq_true, Bool.and_eq_false_iff, Bool.or_eq_true, Bool.or_eq_false_iff, Bool.not_eq_true', Bool.not_eq_false', Bool.not_true, Bool.not_false, Bool.false_eq_true, Bool.true_eq_false, Int.not_lt, Int.not_le, ge_iff_le, gt_iff_lt, Bool.not_eq_eq_eq_not, Bool.true_or, Bool.or_true, Bool.false_or, Bool.or_false, Bool.true_and, Bool.and_true, false_or, or_false, true_and, and_true, Decidable.not_not] at hq
    refine ⟨n, M1, b1, I1, rfl, ⟨z, hC, hz⟩, hS, by omega, by omega, ⟨hc.1, hc.2.1, fun n0 rest h0 h1 hb hM h3 => ?_⟩, h2⟩
    exact hc.2.2 n0 rest ⟨by omega, h1⟩ hb hM
theorem c_brList (hC : Brd a u M b I) (hS : St u w (I ++ R)) :
    Trip Try.prog 68 #[.pointer (some (a.add 0))] w fun r w' => ∃ z ns M' b' I' J, r = z.val ∧ Brd a u M' b' I' ∧ OwnI z ns J ∧ St u w' (I' ++ (J ++ R)) ∧ CR (encS encN) (TmS TmI) M b ns M' b' := by
  refine of68 _ _ _ ?_
  unfold vc68
  refine Trip.mono' (c_brLength hC hS) ?_
  rintro _ w1 ⟨n, M1, b1, I1, rfl, hC, hS, n0, n1, hc, _⟩
  refine ⟨n, rfl, ?_⟩
  refine St.makeInts hS n0 n1 (by decide) ?_
  intro y w2 J2 hY hS hs
  have hyn := hY.n
  rw [List.length_replicate] at hyn
  refine ⟨_, rfl, ?_⟩
  refine ⟨fun i w => ∃ (ns : List Int) (M2 : List Int) (b2 : Bool) (I2 J : Items), Brd a u M2 b2 I2 ∧ OwnI y (ns ++ List.replicate (n - i).toNat 0) J ∧ St u w (I2 ++ (J ++ R)) ∧ (ns.length : Int) = i ∧ i ≤ n ∧ CP encN TmI M1 b1 ns M2 b2, fun i _ => (n - i).toNat, ⟨[], M1, b1, I1, J2, hC, (by simpa using hY.toI), hS.perm (by
      classical
      exact List.perm_iff_count.2 fun a => by simp only [List.count_append]; omega), rfl, n0, .nil⟩, ?_⟩
  clear hC hS hY hs
  rintro i w ⟨ns, M2, b2, I2, J, hC, hZ, hS, hl, hi1, hcp⟩
  dsimp only
  refine ⟨fun hi => ?_, fun hi => ?_⟩
  · simp only [decide_eq_true_eq, decide_eq_false_iff_not, Bool.and_eq_true, Bool.and_eq_false_iff, Bool.or_eq_true, Bool.or_eq_false_iff, Bool.not_eq_true', Bool.not_eq_false', Bool.not_true, Bool.not_false, Bool.false_eq_true, Bool.true_eq_false, Int.not_lt, Int.not_le, ge_iff_le, gt_iff_lt, Bool.not_eq_eq_eq_not, Bool.true_or, Bool.or_true, Bool.false_or, Bool.or_false, Bool.true_and, Bool.and_true, false_or, or_false, true_and, and_true, Decidable.not_not] at hi
    refine Trip.mono' (c_brNumber hC hS) ?_
    rintro _ w3 ⟨k, M3, b3, I3, rfl, hC, hS, hk, hck, _⟩
    have hlt : i < (ns ++ List.replicate (n - i).toNat (0 : Int)).length := by simp; omega
    refine ⟨k, rfl, (hZ u).ix (by omega) hlt, ?_⟩
    replace hS : St u w3 (J ++ (I3 ++ R)) := hS.perm (by
      classical
      exact List.perm_iff_count.2 fun a => by simp only [List.count_append]; omega)
    refine st_int (hZ u) hS (by omega) hlt hk ?_
    intro w4 J4 hZ4 hS
    refine go_wr (by omega) (by omega) ?_
    have e : (ns ++ List.replicate (n - i).toNat (0 : Int)).set i.toNat k = (ns ++ [k]) ++ List.replicate (n - (i + 1)).toNat 0 := by
      rw [show (n - i).toNat = (n - (i + 1)).toNat + 1 from by omega, List.replicate_succ, List.append_assoc]
      exact set_mid _ _ _ _ hl.symm
    rw [e] at hZ4
    exact ⟨⟨ns ++ [k], M3, b3, I3, J4, hC, hZ4.toI, (show St u w4 (J4 ++ (I3 ++ R)) from hS).perm (by
      classical
      exact List.perm_iff_count.2 fun a => by simp only [List.count_append]; omega), by simp; omega, by omega, hcp.snoc hck⟩, by omega⟩
  · simp only [decide_eq_true_eq, decide_eq_false_iff_not, Bool.and_eq_true, Bool.and_eq_false_iff, Bool.or_eq_true, Bool.or_eq_false_iff, Bool.not_eq_true', Bool.not_eq_false', Bool.not_true, Bool.not_false, Bool.false_eq_true, Bool.true_eq_false, Int.not_lt, Int.not_le, ge_iff_le, gt_iff_lt, Bool.not_eq_eq_eq_not, Bool.true_or, Bool.or_true, Bool.false_or, Bool.or_false, Bool.true_and, Bool.and_true, false_or, or_false, true_and, and_true, Decidable.not_not] at hi
    have hn : (ns.length : Int) = n := by omega
    rw [show (n - i).toNat = 0 from by omega, List.replicate_zero, List.append_nil] at hZ
    exact ⟨y, ns, M2, b2, I2, J, rfl, hC, hZ, hS, CR.list hc hcp hn encN_two⟩
theorem c_brImage (hC : Brd a u M b I) (hS : St u w (I ++ R)) :
    Trip Try.prog 37 #[.pointer (some (a.add 0))] w fun r w' => ∃ (m : ImD) (f h : Sl) (M' : List Int) (b' : Bool) (I' A C : Items), r = .agg #[f.val, h.val] ∧ Brd a u M' b' I' ∧ OwnD f m.decls A ∧ OwnD h m.procs C ∧ St u w' (I' ++ (A ++ (C ++ R))) ∧ CR (fun m : ImD => encM m.decls m.procs) TmIm M b m M' b' ∧ (b' = false → 2 ≤ M.length) := by
  refine of37 _ _ _ ?_
  unfold vc37
  refine Trip.mono' (c_brLength hC hS) ?_
  rintro _ w6 ⟨n, M5, b5, I5, rfl, hC, hS, n0, n1', hm, hm2⟩
  refine ⟨n, rfl, ?_⟩
  refine ⟨fun i h w => ∃ (xs : List DeclD) (M2 : List Int) (b2 : Bool) (I2 J : Items), Brd a u M2 b2 I2 ∧ OwnD h xs J ∧ St u w (I2 ++ (J ++ R)) ∧ (xs.length : Int) = i ∧ i ≤ n ∧ CP encD TmDecl M5 b5 xs M2 b2, fun i _ _ => (n - i).toNat, ⟨[], M5, b5, I5, [], hC, .nil, by simpa using hS, rfl, n0, .nil⟩, ?_⟩
  clear hC hS
  rintro i h w ⟨xs, M6, b6, I6, J, hC, hH, hS, hl, hi1, hcp⟩
  dsimp only
  refine ⟨fun hi => ?_, fun hi => ?_⟩
  · simp only [decide_eq_true_eq, decide_eq_false_iff_not, Bool.and_eq_true, Bool.and_eq_false_iff, Bool.or_eq_true, Bool.or_eq_false_iff, Bool.not_eq_true', Bool.not_eq_false', Bool.not_true, Bool.not_false, Bool.false_eq_true, Bool.true_eq_false, Int.not_lt, Int.not_le, ge_iff_le, gt_iff_lt, Bool.not_eq_eq_eq_not, Bool.true_or, Bool.or_true, Bool.false_or, Bool.or_false, Bool.true_and, Bool.and_true, false_or, or_false, true_and, and_true, Decidable.not_not] at hi
    refine Trip.mono' (c_brNumber hC hS) ?_
    rintro _ w1 ⟨n1, M1, b1, I1, rfl, hC, hS, s1, h1, _⟩
    refine ⟨_, rfl, ?_⟩
    refine Trip.mono' (c_brNumber hC hS) ?_
    rintro _ w2 ⟨n2, M2, b2, I2, rfl, hC, hS, s2, h2, _⟩
    refine ⟨_, rfl, ?_⟩
    refine Trip.mono' (c_brLength hC hS) ?_
    rintro _ w4 ⟨k, M3, b3, I3, rfl, hC, hS, k0, k1', km, _⟩
    refine ⟨k, rfl, ?_⟩
    refine ⟨fun i z w => ∃ (ys : List ConD) (M4 : List Int) (b4 : Bool) (I4 Z : Items), Brd a u M4 b4 I4 ∧ OwnD z ys Z ∧ St u w (I4 ++ (Z ++ (J ++ R))) ∧ (ys.length : Int) = i ∧ i ≤ k ∧ CP encC TmC M3 b3 ys M4 b4, fun i _ _ => (k - i).toNat, ⟨[], M3, b3, I3, [], hC, .nil, by simpa using hS, rfl, k0, .nil⟩, ?_⟩
    clear hC hS
    rintro j z w ⟨ys, M4, b4, I4, Z, hC, hZ, hS, hj, hj1, hcq⟩
    dsimp only
    refine ⟨fun hi => ?_, fun hi => ?_⟩
    · simp only [decide_eq_true_eq, decide_eq_false_iff_not, Bool.and_eq_true, Bool.and_eq_false_iff, Bool.or_eq_true, Bool.or_eq_false_iff, Bool.not_eq_true', Bool.not_eq_false', Bool.not_true, Bool.not_false, Bool.false_eq_true, Bool.true_eq_false, Int.not_lt, Int.not_le, ge_iff_le, gt_iff_lt, Bool.not_eq_eq_eq_not, Bool.true_or, Bool.or_true, Bool.false_or, Bool.or_false, Bool.true_and, Bool.and_true, false_or, or_false, true_and, and_true, Decidable.not_not] at hi
      refine Trip.mono' (c_brList hC hS) ?_
      rintro _ w7 ⟨f, l1, M7, b7, I7, KA, rfl, hC, hF, hS, hck⟩
      refine ⟨_, rfl, ?_⟩
      refine OwnD.add (a := (⟨l1⟩ : ConD)) (J := KA) (R := I7 ++ (J ++ R)) hZ (hS.perm (by
      classical
      exact List.perm_iff_count.2 fun a => by simp only [List.count_append]; omega)) rfl ⟨f, KA, rfl, hF, rfl⟩ (by decide) (by omega) (by decide) ?_
      intro h' w8 C8 hZ hS
      refine go_wr (by omega) (by omega) ?_
      exact ⟨rfl, rfl, rfl, rfl, rfl, rfl, ⟨ys ++ [⟨l1⟩], M7, b7, I7, C8, hC, hZ, hS.perm (by
      classical
      exact List.perm_iff_count.2 fun a => by simp only [List.count_append]; omega), by simp; omega, by omega, hcq.snoc hck.con⟩, by omega⟩
    · simp only [decide_eq_true_eq, decide_eq_false_iff_not, Bool.and_eq_true, Bool.and_eq_false_iff, Bool.or_eq_true, Bool.or_eq_false_iff, Bool.not_eq_true', Bool.not_eq_false', Bool.not_true, Bool.not_false, Bool.false_eq_true, Bool.true_eq_false, Int.not_lt, Int.not_le, ge_iff_le, gt_iff_lt, Bool.not_eq_eq_eq_not, Bool.true_or, Bool.or_true, Bool.false_or, Bool.or_false, Bool.true_and, Bool.and_true, false_or, or_false, true_and, and_true, Decidable.not_not] at hi
      have hn : (ys.length : Int) = k := by omega
      have hck := CR.decl h1 h2 (CR.list km hcq hn encC_two)
      refine OwnD.add (a := (⟨n1, n2, ys⟩ : DeclD)) (J := Z) (R := I4 ++ R) hH (hS.perm (by
      classical
      exact List.perm_iff_count.2 fun a => by simp only [List.count_append]; omega)) rfl ⟨z, Z, rfl, s1, s2, hZ, rfl⟩ (by decide) (by omega) (by decide) ?_
      intro h' w8 C8 hH hS
      refine go_wr (by omega) (by omega) ?_
      exact ⟨rfl, rfl, rfl, ⟨xs ++ [⟨n1, n2, ys⟩], M4, b4, I4, C8, hC, hH, hS.perm (by
      classical
      exact List.perm_iff_count.2 fun a => by simp only [List.count_append]; omega), by simp; omega, by omega, hcp.snoc hck⟩, by omega⟩
  simp only [decide_eq_true_eq, decide_eq_false_iff_not, Bool.and_eq_true, Bool.and_eq_false_iff, Bool.or_eq_true, Bool.or_eq_false_iff, Bool.not_eq_true', Bool.not_eq_false', Bool.not_true, Bool.not_false, Bool.false_eq_true, Bool.true_eq_false, Int.not_lt, Int.not_le, ge_iff_le, gt_iff_lt, Bool.not_eq_eq_eq_not, Bool.true_or, Bool.or_true, Bool.false_or, Bool.or_false, Bool.true_and, Bool.and_true, false_or, or_false, true_and, and_true, Decidable.not_not] at hi
  have hdn : (xs.length : Int) = n := by omega
  have hD := CR.list hm hcp hdn encD_two
  refine Trip.mono' (c_brLength hC hS) ?_
  rintro _ w7 ⟨n', M7, b7, I7, rfl, hC, hS, n0', n1'', hm', _⟩
  refine ⟨n', rfl, ?_⟩
  refine ⟨fun i s w => ∃ (ps : List ProcD) (M2 : List Int) (b2 : Bool) (I2 C : Items), Brd a u M2 b2 I2 ∧ OwnD s ps C ∧ St u w (I2 ++ (C ++ (J ++ R))) ∧ (ps.length : Int) = i ∧ i ≤ n' ∧ CP encP TmProc M7 b7 ps M2 b2, fun i _ _ => (n' - i).toNat, ⟨[], M7, b7, I7, [], hC, .nil, by simpa using hS, rfl, n0', .nil⟩, ?_⟩
  clear hC hS hi
  rintro i' s w ⟨ps, M8, b8, I8, C, hC, hP, hS, hpl, hpi, hcp'⟩
  dsimp only
  refine ⟨fun hi => ?_, fun hi => ?_⟩
  · simp only [decide_eq_true_eq, decide_eq_false_iff_not, Bool.and_eq_true, Bool.and_eq_false_iff, Bool.or_eq_true, Bool.or_eq_false_iff, Bool.not_eq_true', Bool.not_eq_false', Bool.not_true, Bool.not_false, Bool.false_eq_true, Bool.true_eq_false, Int.not_lt, Int.not_le, ge_iff_le, gt_iff_lt, Bool.not_eq_eq_eq_not, Bool.true_or, Bool.or_true, Bool.false_or, Bool.or_false, Bool.true_and, Bool.and_true, false_or, or_false, true_and, and_true, Decidable.not_not] at hi
    refine Trip.mono' (c_brList hC hS) ?_
    rintro _ w1 ⟨f1, l1, M1, b1, I1, K1, rfl, hC, hF1, hS, h1⟩
    refine ⟨_, rfl, ?_⟩
    refine Trip.mono' (c_brList hC hS) ?_
    rintro _ w2 ⟨f2, l2, M2, b2, I2, K2, rfl, hC, hF2, hS, h2⟩
    refine ⟨_, rfl, ?_⟩
    refine Trip.mono' (c_brNumber hC hS) ?_
    rintro _ w3 ⟨n1, M3, b3, I3, rfl, hC, hS, s3, h3, _⟩
    refine ⟨_, rfl, ?_⟩
    refine Trip.mono' (c_brNumber hC hS) ?_
    rintro _ w4 ⟨n2, M4, b4, I4, rfl, hC, hS, s4, h4, _⟩
    refine ⟨_, rfl, ?_⟩
    refine Trip.mono' (c_brLength hC hS) ?_
    rintro _ w5 ⟨k, M9, b9, I9, rfl, hC, hS, k0, k1', km, _⟩
    refine ⟨k, rfl, ?_⟩
    refine ⟨fun i z w => ∃ (ys : List InstrD) (M4 : List Int) (b4 : Bool) (I4 Z : Items), Brd a u M4 b4 I4 ∧ OwnD z ys Z ∧ St u w (I4 ++ (Z ++ (K2 ++ (K1 ++ (C ++ (J ++ R)))))) ∧ (ys.length : Int) = i ∧ i ≤ k ∧ CP encI TmInstr M9 b9 ys M4 b4, fun i _ _ => (k - i).toNat, ⟨[], M9, b9, I9, [], hC, .nil, by simpa using hS, rfl, k0, .nil⟩, ?_⟩
    clear hC hS
    rintro j z w ⟨ys, N0, c0, I4, Z, hC, hZ, hS, hj, hj1, hcq⟩
    dsimp only
    refine ⟨fun hi => ?_, fun hi => ?_⟩
    · simp only [decide_eq_true_eq, decide_eq_false_iff_not, Bool.and_eq_true, Bool.and_eq_false_iff, Bool.or_eq_true, Bool.or_eq_false_iff, Bool.not_eq_true', Bool.not_eq_false', Bool.not_true, Bool.not_false, Bool.false_eq_true, Bool.true_eq_false, Int.not_lt, Int.not_le, ge_iff_le, gt_iff_lt, Bool.not_eq_eq_eq_not, Bool.true_or, Bool.or_true, Bool.false_or, Bool.or_false, Bool.true_and, Bool.and_true, false_or, or_false, true_and, and_true, Decidable.not_not] at hi
      refine Trip.mono' (c_brNumber hC hS) ?_
      rintro _ v1 ⟨m1, N1, c1, T1, rfl, hC, hS, t1, g1, _⟩
      refine ⟨_, rfl, ?_⟩
      refine Trip.mono' (c_brNumber hC hS) ?_
      rintro _ v2 ⟨m2, N2, c2, T2, rfl, hC, hS, t2, g2, _⟩
      refine ⟨_, rfl, ?_⟩
      refine Trip.mono' (c_brNumber hC hS) ?_
      rintro _ v3 ⟨m3, N3, c3, T3, rfl, hC, hS, t3, g3, _⟩
      refine ⟨_, rfl, ?_⟩
      refine Trip.mono' (c_brNumber hC hS) ?_
      rintro _ v4 ⟨m4, N4, c4, T4, rfl, hC, hS, t4, g4, _⟩
      refine ⟨_, rfl, ?_⟩
      refine Trip.mono' (c_brList hC hS) ?_
      rintro _ v5 ⟨fa, la, N5, c5, T5, KA, rfl, hC, hA, hS, g5⟩
      refine ⟨_, rfl, ?_⟩
      refine Trip.mono' (c_brList hC hS) ?_
      rintro _ v6 ⟨fj, lj, N6, c6, T6, KJ, rfl, hC, hJ, hS, g6⟩
      refine ⟨_, rfl, ?_⟩
      have hck := CR.instr g1 g2 g3 g4 g5 g6
      refine OwnD.add (a := (⟨m1, m2, m3, m4, la, lj⟩ : InstrD)) (J := KA ++ KJ) (R := T6 ++ (K2 ++ (K1 ++ (C ++ (J ++ R))))) hZ (hS.perm (by
      classical
      exact List.perm_iff_count.2 fun a => by simp only [List.count_append]; omega)) rfl ⟨fa, fj, KA, KJ, rfl, t1, t2, t3, t4, hA, hJ, rfl⟩ (by decide) (by omega) (by decide) ?_
      intro h' w8 C8 hZ hS
      refine go_wr (by omega) (by omega) ?_
      exact ⟨rfl, rfl, rfl, rfl, rfl, rfl, rfl, rfl, ⟨ys ++ [⟨m1, m2, m3, m4, la, lj⟩], N6, c6, T6, C8, hC, hZ, hS.perm (by
      classical
      exact List.perm_iff_count.2 fun a => by simp only [List.count_append]; omega), by simp; omega, by omega, hcq.snoc hck⟩, by omega⟩
    · simp only [decide_eq_true_eq, decide_eq_false_iff_not, Bool.and_eq_true, Bool.and_eq_false_iff, Bool.or_eq_true, Bool.or_eq_false_iff, Bool.not_eq_true', Bool.not_eq_false', Bool.not_true, Bool.not_false, Bool.false_eq_true, Bool.true_eq_false, Int.not_lt, Int.not_le, ge_iff_le, gt_iff_lt, Bool.not_eq_eq_eq_not, Bool.true_or, Bool.or_true, Bool.false_or, Bool.or_false, Bool.true_and, Bool.and_true, false_or, or_false, true_and, and_true, Decidable.not_not] at hi
      have hn : (ys.length : Int) = k := by omega
      have hck := CR.proc h1 h2 h3 h4 (CR.list km hcq hn encI_two)
      refine OwnD.add (a := (⟨l1, l2, n1, n2, ys⟩ : ProcD)) (J := K1 ++ (K2 ++ Z)) (R := I4 ++ (J ++ R)) hP (hS.perm (by
      classical
      exact List.perm_iff_count.2 fun a => by simp only [List.count_append]; omega)) rfl ⟨f1, f2, z, K1, K2, Z, rfl, s3, s4, hF1, hF2, hZ, rfl⟩ (by decide) (by omega) (by decide) ?_
      intro h' w8 C8 hP hS
      refine go_wr (by omega) (by omega) ?_
      exact ⟨rfl, rfl, rfl, ⟨ps ++ [⟨l1, l2, n1, n2, ys⟩], N0, c0, I4, C8, hC, hP, hS.perm (by
      classical
      exact List.perm_iff_count.2 fun a => by simp only [List.count_append]; omega), by simp; omega, by omega, hcp'.snoc hck⟩, by omega⟩
  · simp only [decide_eq_true_eq, decide_eq_false_iff_not, Bool.and_eq_true, Bool.and_eq_false_iff, Bool.or_eq_true, Bool.or_eq_false_iff, Bool.not_eq_true', Bool.not_eq_false', Bool.not_true, Bool.not_false, Bool.false_eq_true, Bool.true_eq_false, Int.not_lt, Int.not_le, ge_iff_le, gt_iff_lt, Bool.not_eq_eq_eq_not, Bool.true_or, Bool.or_true, Bool.false_or, Bool.or_false, Bool.true_and, Bool.and_true, false_or, or_false, true_and, and_true, Decidable.not_not] at hi
    have hn : (ps.length : Int) = n' := by omega
    have hP2 := CR.list hm' hcp' hn encP_two
    exact ⟨⟨xs, ps⟩, h, s, M8, b8, I8, J, C, rfl, hC, hH, hP, hS.perm (by
      classical
      exact List.perm_iff_count.2 fun a => by simp only [List.count_append]; omega), CR.im hD hP2, fun hb => hm2 (hcp.1 (hP2.1 hb))⟩
end
/-- the image that has these bytes -/
def decP (L : List Int) (m : ImD) : Prop := imOk m.decls m.procs ∧ encM m.decls m.procs = L
open Classical in
noncomputable def decIm (L : List Int) : ImD := if h : ∃ m, decP L m then Classical.choose h else ⟨[], []⟩
section
variable {u v w : World} {x y z : Sl} {l ws L M : List Int} {m : ImD} {b : Bool} {a : Addr} {n : Int} {I J K R : Items}
theorem imOk.tmIm (h : imOk m.decls m.procs) : TmIm m := by
  obtain ⟨h1, h2, h3, h4⟩ := h.tm
  exact ⟨⟨by omega, h1⟩, by omega, h2⟩
theorem decIm_some (h : decP L m) (hu : ∀ m', decP L m' → m = m') : decIm L = m := by
  unfold decIm
  rw [dif_pos ⟨m, h⟩]
  exact (hu _ (Classical.choose_spec (⟨m, h⟩ : ∃ m, decP L m))).symm
theorem decIm_none (h : ¬ ∃ m, decP L m) : decIm L = ⟨[], []⟩ := by
  unfold decIm
  rw [dif_neg h]
theorem c_specDecodeImage (hx : Read v x L) : Mk Try.prog 18 #[x.val] v fun r J => ∃ t s A B, r = .tuple #[.agg #[t.val, s.val], .bool (pB (∃ m, decP L m))] ∧ OwnD t (decIm L).decls A ∧ OwnD s (decIm L).procs B ∧ J = A ++ B := by
  refine of18 _ _ _ ?_
  unfold vc18
  have hxn := hx.n
  refine St.box (vals := [x.val, .int .i64 ((0 : Nat) : Int), .bool false]) (.refl v) ?_
  intro a1 w2 I1 hC hS hs2
  refine Trip.mono' (c_srcImage (p := 0) ⟨hC, Nat.zero_le _⟩ hS hx) ?_
  rintro _ w4 ⟨m, f, h, p, b, I2, A, C, rfl, ⟨hC, hp⟩, hF, hH, hS, hc, hd⟩
  rw [List.drop_zero] at hc hd
  have hc2 : ∀ m', decP L m' → b = false ∧ m = m' ∧ L.drop p = [] := fun m' h => hc.2.2 m' [] h.1.tmIm rfl (by show L = encM m'.decls m'.procs ++ []; rw [h.2, List.append_nil])
  have hSA : St v w4 (A ++ (C ++ (I2 ++ []))) := hS.perm (by
      classical
      exact List.perm_iff_count.2 fun a => by simp only [List.count_append]; omega)
  have hSC : St v w4 (C ++ (A ++ (I2 ++ []))) := hS.perm (by
      classical
      exact List.perm_iff_count.2 fun a => by simp only [List.count_append]; omega)
  refine ⟨f, h, rfl, b, Cel.load hC hS rfl, _, fun _ => Cel.load hC hS rfl, _, fun _ => c_validImage (hF.read hSA) (hH.read hSC), fun hq => ?_, fun hq => ?_⟩
  · have hno : ¬ ∃ m, decP L m := by
      rintro ⟨m', hm'⟩
      obtain ⟨k1, rfl, k3⟩ := hc2 m' hm'
      have hl : (L.drop p).length = 0 := by rw [k3]; rfl
      rw [List.length_drop] at hl
      rw [k1, pB_t hm'.1, decide_eq_true (show (p : Int) = (x.n : Int) by omega)] at hq
      cases hq
    rw [pB_f hno, decIm_none hno]
    exact ⟨[], by simpa using hS.right.right.right, ⟨none, 0, 0⟩, ⟨none, 0, 0⟩, [], [], rfl, OwnD.nil, OwnD.nil, rfl⟩
  · simp only [Bool.or_eq_false_iff, Bool.not_eq_false'] at hq
    obtain ⟨⟨rfl, hq2⟩, hq3⟩ := hq
    have hpl := of_decide_eq_true hq2
    have hdec : decP L m := ⟨pB_iff.1 hq3, by
      have := hd rfl
      rw [List.drop_of_length_le (by omega), List.append_nil] at this
      exact this.symm⟩
    have e := decIm_some hdec fun m' hm' => (hc2 m' hm').2.1
    rw [pB_t ⟨m, hdec⟩, e]
    exact ⟨A ++ C, (show St v w4 (A ++ (C ++ [])) from hS.to).perm (by simp), f, h, A, C, rfl, hF, hH, rfl⟩
theorem c_implDecodeImage (hx : Read v x L) : Mk Try.prog 20 #[x.val] v fun r J => ∃ t s A B, r = .tuple #[.agg #[t.val, s.val], .bool (pB (∃ m, decP L m))] ∧ OwnD t (decIm L).decls A ∧ OwnD s (decIm L).procs B ∧ J = A ++ B := by
  refine of20 _ _ _ ?_
  unfold vc20
  refine St.box (vals := [(Sl.mk none 0 0).val, .bool false]) (.refl v) ?_
  intro a1 w2 I1 hC hS hs2
  refine Cel.store hC hS (by simp) ?_
  intro w3 I3 hC hS
  replace hC : Cel a1 [x.val, .bool false] I3 := hC
  refine Trip.mono' (c_brImage ⟨x, hC, hx⟩ hS) ?_
  rintro _ w5 ⟨m, f, h, M, b, I2, A, C, rfl, ⟨z, hC, hz⟩, hF, hH, hS, hc, h2⟩
  have hzn := hz.n
  have hc2 : ∀ m', decP L m' → b = false ∧ m = m' ∧ M = [] := fun m' h => hc.2.2 m' [] h.1.tmIm rfl (by show L = encM m'.decls m'.procs ++ []; rw [h.2, List.append_nil])
  have hSA : St v w5 (A ++ (C ++ (I2 ++ []))) := hS.perm (by
      classical
      exact List.perm_iff_count.2 fun a => by simp only [List.count_append]; omega)
  have hSC : St v w5 (C ++ (A ++ (I2 ++ []))) := hS.perm (by
      classical
      exact List.perm_iff_count.2 fun a => by simp only [List.count_append]; omega)
  have bad : ∀ w J, St v w J → (¬ ∃ m, decP L m) → ∃ J, St v w J ∧ ∃ t s A B, Value.tuple #[.agg #[.slice none 0 0, .slice none 0 0], .bool false] = .tuple #[.agg #[Sl.val t, Sl.val s], .bool (pB (∃ m, decP L m))] ∧ OwnD t (decIm L).decls A ∧ OwnD s (decIm L).procs B ∧ J = A ++ B := by
    intro w J hJ hno
    rw [pB_f hno, decIm_none hno]
    exact ⟨[], (show St v w (J ++ []) by simpa using hJ).right, ⟨none, 0, 0⟩, ⟨none, 0, 0⟩, [], [], rfl, OwnD.nil, OwnD.nil, rfl⟩
  refine ⟨f, h, rfl, b, Cel.load hC hS rfl, z, fun _ => Cel.load hC hS rfl, fun hq => ?_, fun hq => ?_⟩
  · simp only [Bool.or_eq_false_iff, decide_eq_false_iff_not] at hq
    obtain ⟨rfl, hq⟩ := hq
    have hL2 := h2 rfl
    refine Mk.usew (c_implEncodeImage (hF.read hSA) (hH.read hSC)) hSA ?_
    rintro _ w6 K ⟨y, rfl, hY⟩ hS6 hsub
    replace hS6 : St v w6 (K ++ (A ++ (C ++ (I2 ++ [])))) := hS6
    refine ⟨y, rfl, _, c_slicesEqual (hY.ofInts.read hS6) (hx.mono hS6.sub), fun hq => ?_, fun hq => ?_⟩
    · refine bad w6 _ hS6 ?_
      rintro ⟨m', hm'⟩
      obtain ⟨k1, rfl, k3⟩ := hc2 m' hm'
      have : encIm m.decls m.procs = L := by unfold encIm; rw [if_pos hm'.1]; exact hm'.2
      rw [decide_eq_true this] at hq
      cases hq
    · have he : encIm m.decls m.procs = L := of_decide_eq_true (by simpa using hq)
      have hok : imOk m.decls m.procs := Classical.byContradiction fun hn => by
        unfold encIm at he
        rw [if_neg hn] at he
        rw [← he] at hL2
        simp at hL2
      have hdec : decP L m := ⟨hok, by unfold encIm at he; rwa [if_pos hok] at he⟩
      have e := decIm_some hdec fun m' hm' => (hc2 m' hm').2.1
      rw [pB_t ⟨m, hdec⟩, e]
      exact ⟨A ++ C, (show St v w6 (A ++ (C ++ [])) from hS6.to).perm (by simp), f, h, A, C, rfl, hF, hH, rfl⟩
  · refine bad w5 _ hS ?_
    rintro ⟨m', hm'⟩
    obtain ⟨k1, _, k3⟩ := hc2 m' hm'
    rw [k3, List.length_nil] at hzn
    rw [k1, decide_eq_false (by omega)] at hq
    cases hq
theorem decIm_end : endIm (decIm L) ≤ 1000000000000 := by
  unfold decIm
  split
  · rename_i h
    obtain ⟨s1, s2, s3, s4⟩ := (Classical.choose_spec h).1.sm
    have h1 := rooms_le (B := 200000000) (Classical.choose h).decls fun d hd => roomD_sm (s1 d hd)
    have h2 := rooms_le (B := 4000000000) (Classical.choose h).procs fun p hp => roomP_sm (s2 p hp)
    unfold endIm
    omega
  · simp [endIm, rooms]
end
theorem l_ExactDecodeImage {v : World} {xf : Sl} {L : List Int} (hf : ReadB BM v xf L) :
    Trip Try.prog 5 #[xf.val] v fun r v' => r = .bool true ∧ Sub v v' := by
  refine of5 _ _ _ ?_
  unfold vc5
  have hfn := hf.n
  refine ⟨fun hc => ⟨rfl, .refl v⟩, fun hc0 => ?_⟩
  simp only [decide_eq_true_eq, decide_eq_false_iff_not, Bool.and_eq_true, Bool.and_eq_false_iff, Bool.or_eq_true, Bool.or_eq_false_iff, Bool.not_eq_true', Bool.not_eq_false', Bool.not_true, Bool.not_false, Bool.false_eq_true, Bool.true_eq_false, Int.not_lt, Int.not_le, ge_iff_le, gt_iff_lt, Bool.not_eq_eq_eq_not, Bool.true_or, Bool.or_true, Bool.false_or, Bool.or_false, Bool.true_and, Bool.and_true, false_or, or_false, true_and, and_true, Decidable.not_not] at hc0
  have hfl : L.length ≤ 1048576 := by omega
  replace hf : Read v xf L := hf.toInts (by show L.length ≤ 1099511627776; omega)
  have hendR : endIm (decIm L) ≤ 1000000000000 := decIm_end
  have hendR2 := endIm_pos (decIm L)
  refine Mk.use (c_toIntSI hf) (.refl v) ?_
  rintro _ w1 J3 ⟨x2, rfl, h4⟩ hS hsub
  replace hS : St v w1 (J3 ++ []) := hS.perm (by
    classical
    exact List.perm_iff_count.2 fun a => by (try simp only [List.count_append, List.count_nil]) <;> omega)
  refine ⟨_, rfl, ?_⟩
  replace hS : St v w1 ((J3 ++ []) ++ ([])) := hS.perm (by
    classical
    exact List.perm_iff_count.2 fun a => by (try simp only [List.count_append, List.count_nil]) <;> omega)
  obtain ⟨u5, hsu5, hS, hJ⟩ := hS.freeze (J3 ++ [])
  have r6 : Read u5 x2 (L) := OwnI.read1 (u := v) h4 (hJ.to : St v u5 (J3 ++ [])).left
  clear hJ
  refine Mk.use (c_specDecodeImage (L := L) r6 ) hS ?_
  rintro _ w13 _ ⟨x7, x8, J11, J12, rfl, h9, h10, rfl⟩ hS hsub
  replace hS : St u5 w13 (J11 ++ (J12 ++ [])) := hS.perm (by
    classical
    exact List.perm_iff_count.2 fun a => by (try simp only [List.count_append, List.count_nil]) <;> omega)
  replace hS : St u5 w13 ((J11 ++ (J12 ++ [])) ++ ([])) := hS.perm (by
    classical
    exact List.perm_iff_count.2 fun a => by (try simp only [List.count_append, List.count_nil]) <;> omega)
  obtain ⟨u14, hsu14, hS, hJ⟩ := hS.freeze (J11 ++ (J12 ++ []))
  have r15 : Read u14 x7 ((decIm L).decls) := OwnD.read1 h9 (hJ.to : St u5 u14 (J11 ++ [])).left
  have r16 : Read u14 x8 ((decIm L).procs) := OwnD.read1 h10 (hJ.to : St u5 u14 (J12 ++ [])).left
  clear hJ
  have hvu : Sub v u14 := hsu5.trans hsu14
  replace hf := hf.mono hvu
  refine ⟨_, _, _, rfl, ?_⟩
  refine Mk.use (c_toIntSI hf) hS ?_
  rintro _ w17 J19 ⟨x18, rfl, h20⟩ hS hsub
  replace hS : St u14 w17 (J19 ++ []) := hS.perm (by
    classical
    exact List.perm_iff_count.2 fun a => by (try simp only [List.count_append, List.count_nil]) <;> omega)
  refine ⟨_, rfl, ?_⟩
  refine Mk.usew (c_implDecodeImage (L := L) (OwnI.read h20 hS) ) hS ?_
  rintro _ w27 _ ⟨x21, x22, J25, J26, rfl, h23, h24, rfl⟩ hS hsub
  replace hS : St u14 w27 (J25 ++ (J26 ++ (J19 ++ []))) := hS.perm (by
    classical
    exact List.perm_iff_count.2 fun a => by (try simp only [List.count_append, List.count_nil]) <;> omega)
  refine ⟨_, _, _, rfl, _, c_eqImageM (m := (decIm L)) (m' := (decIm L)) (OwnD.read h23 hS) (OwnD.read h24 hS) (r15.mono hS.sub) (r16.mono hS.sub), fun hc => ?_, fun _ => ?_⟩
  · simp at hc
  refine Mk.use (c_toIntSI hf) hS ?_
  rintro _ w28 J30 ⟨x29, rfl, h31⟩ hS hsub
  replace hS : St u14 w28 (J30 ++ (J25 ++ (J26 ++ (J19 ++ [])))) := hS.perm (by
    classical
    exact List.perm_iff_count.2 fun a => by (try simp only [List.count_append, List.count_nil]) <;> omega)
  refine ⟨_, rfl, _, c_eqIntS (l := L) (ws := L) (OwnI.read h20 hS) (OwnI.read h31 hS), fun hc => ?_, fun _ => ?_⟩
  · simp at hc
  replace hS : St u14 w28 (J25 ++ (J26 ++ (J19 ++ []))) := hS.to
  replace hS : St u14 w28 (J19 ++ (J25 ++ (J26 ++ []))) := hS.perm (by
    classical
    exact List.perm_iff_count.2 fun a => by (try simp only [List.count_append, List.count_nil]) <;> omega)
  refine Trip.mono' (c_markIntSI (l := L) h20 hS (by omega) (by omega)) ?_
  rintro _ w34 ⟨J32, rfl, h33, hS⟩
  refine ⟨_, rfl, _, fun _ => c_eqImageM (m := (decIm L)) (m' := (decIm L)) (OwnD.read h23 hS) (OwnD.read h24 hS) (r15.mono hS.sub) (r16.mono hS.sub), fun hc => ?_, fun _ => ?_⟩
  · simp at hc
    omega
  replace hS : St u14 w34 (J25 ++ (J26 ++ [])) := hS.to
  replace hS : St u14 w34 (J25 ++ (J26 ++ [])) := hS.perm (by
    classical
    exact List.perm_iff_count.2 fun a => by (try simp only [List.count_append, List.count_nil]) <;> omega)
  refine Trip.mono' (c_markImageM (m := (decIm L)) h23 h24 hS (by omega)) ?_
  rintro _ w39 ⟨J35, J36, rfl, h37, h38, hS⟩
  refine ⟨_, rfl, _, c_heldImageM (m := (decIm L)) (OwnD.read h37 hS) (OwnD.read h38 hS) (by omega), fun hc => ?_, fun _ => ⟨fun hc => ?_, fun _ => ?_⟩⟩
  · simp only [decide_eq_true_eq, decide_eq_false_iff_not, Bool.and_eq_true, Bool.and_eq_false_iff, Bool.or_eq_true, Bool.or_eq_false_iff, Bool.not_eq_true', Bool.not_eq_false', Bool.not_true, Bool.not_false, Bool.false_eq_true, Bool.true_eq_false, Int.not_lt, Int.not_le, ge_iff_le, gt_iff_lt, Bool.not_eq_eq_eq_not, Bool.true_or, Bool.or_true, Bool.false_or, Bool.or_false, Bool.true_and, Bool.and_true, false_or, or_false, true_and, and_true, Decidable.not_not] at hc; omega
  · simp at hc
  refine Mk.use (c_toIntSI hf) hS ?_
  rintro _ w40 J42 ⟨x41, rfl, h43⟩ hS hsub
  replace hS : St u14 w40 (J42 ++ (J35 ++ (J36 ++ []))) := hS.perm (by
    classical
    exact List.perm_iff_count.2 fun a => by (try simp only [List.count_append, List.count_nil]) <;> omega)
  refine ⟨_, rfl, ?_⟩
  refine Mk.usew (c_implDecodeImage (L := L) (OwnI.read h43 hS) ) hS ?_
  rintro _ w50 _ ⟨x44, x45, J48, J49, rfl, h46, h47, rfl⟩ hS hsub
  replace hS : St u14 w50 (J48 ++ (J49 ++ (J42 ++ (J35 ++ (J36 ++ []))))) := hS.perm (by
    classical
    exact List.perm_iff_count.2 fun a => by (try simp only [List.count_append, List.count_nil]) <;> omega)
  refine ⟨_, _, _, rfl, _, c_eqImageM (m := (decIm L)) (m' := (decIm L)) (OwnD.read h46 hS) (OwnD.read h47 hS) (r15.mono hS.sub) (r16.mono hS.sub), fun hc => ?_, fun _ => ?_⟩
  · simp at hc
  refine ⟨_, c_heldImageM (m := (decIm L)) (OwnD.read h37 hS) (OwnD.read h38 hS) (by omega), fun hc => ?_, fun _ => ⟨fun hc => ?_, fun _ => ⟨rfl, hvu.trans hS.sub⟩⟩⟩
  · simp only [decide_eq_true_eq, decide_eq_false_iff_not, Bool.and_eq_true, Bool.and_eq_false_iff, Bool.or_eq_true, Bool.or_eq_false_iff, Bool.not_eq_true', Bool.not_eq_false', Bool.not_true, Bool.not_false, Bool.false_eq_true, Bool.true_eq_false, Int.not_lt, Int.not_le, ge_iff_le, gt_iff_lt, Bool.not_eq_eq_eq_not, Bool.true_or, Bool.or_true, Bool.false_or, Bool.or_false, Bool.true_and, Bool.and_true, false_or, or_false, true_and, and_true, Decidable.not_not] at hc; omega
  · simp at hc
end Go.Vc
