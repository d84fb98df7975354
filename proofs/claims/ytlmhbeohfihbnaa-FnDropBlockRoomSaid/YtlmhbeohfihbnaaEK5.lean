/- Part of the proofs about the heaps and memories: a law is joined in the text whose name ends in W and the law. -/
import Derived.Test.YtlmhbeohfihbnaaEK4
import Derived.Test.YtlmhbeohfihbnaaEE4
import Derived.Test.YtlmhbeohfihbnaaEGz
namespace Go.Vc
open Go
set_option linter.all false

structure MemD where
  words : List Int
  free : List Int

def szA (ws : List Int) (a : Int) : Int := nth ws (a + 1) % 4
def nxtA (ws : List Int) (a : Int) : Int := a + 2 + szA ws a
def posA (ws : List Int) : Nat → Int
  | 0 => 0
  | n + 1 => nxtA ws (posA ws n)
def okA (ws : List Int) (a : Int) : Prop := a + 2 ≤ ws.length ∧ 0 ≤ nth ws a ∧ 0 ≤ nth ws (a + 1) ∧ nxtA ws a ≤ ws.length
def okTo (ws : List Int) (n : Nat) : Prop := ∀ i, i < n → okA ws (posA ws i)
/-- n blocks, without gaps -/
def nB (ws : List Int) (n : Nat) : Prop := okTo ws n ∧ posA ws n = ws.length
def adr (ws : List Int) (n : Nat) : List Int := (List.range n).map (posA ws)

def idxI (ad : List Int) (x : Int) : Int := if x ∈ ad then (ad.idxOf x : Int) else -1
def mapW (ad : List Int) (w : Int) : Int := if 1000 ≤ w then 1000 + idxI ad (w - 1000) else w
def fieldsA (ws : List Int) (a : Int) : List Int := (List.range (szA ws a).toNat).map fun (k : Nat) => nth ws (a + 2 + k)
def cellA (ws ad : List Int) (a : Int) : CellD := if nth ws a = 0 then free0 else ⟨nth ws a, nth ws (a + 1) / 4, (fieldsA ws a).map (mapW ad)⟩
def cellsL (ws ad : List Int) : List CellD := ad.map (cellA ws ad)
def fOk (ws ad : List Int) (a : Int) : Prop := ∀ f ∈ fieldsA ws a, (1000 ≤ f → f - 1000 ∈ ad) ∧ (nth ws a = 0 → f = 0)
def cOk (ws ad : List Int) : Prop := ∀ a ∈ ad, fOk ws ad a
def freeA (ws ad : List Int) (k : Int) : List Int := ad.filter fun a => decide (nth ws a = 0) && decide (szA ws a = k)
def Chain (ws : List Int) : Int → List Int → Prop
  | h, [] => h = 0
  | h, a :: l => h = a + 1 ∧ Chain ws (nth ws (a + 1) / 4) l
def ChainTo (ws : List Int) : Int → List Int → Int → Prop
  | h, [], e => h = e
  | h, a :: l, e => h = a + 1 ∧ ChainTo ws (nth ws (a + 1) / 4) l e
def chainOk (ws : List Int) (h : Int) (list : List Int) : Prop := ∃ l, Chain ws h l ∧ l.Nodup ∧ (∀ a ∈ l, a ∈ list) ∧ l.length = list.length
structure VM (m : MemD) (n : Nat) : Prop where
  blocks : nB m.words n
  four : m.free.length = 4
  fields : cOk m.words (adr m.words n)
  heap : vheap (trimL (cellsL m.words (adr m.words n)))
  chains : ∀ k : Int, 0 ≤ k → k < 4 → chainOk m.words (nth m.free k) (freeA m.words (adr m.words n) k)
def vmem (m : MemD) : Prop := ∃ n, VM m n
noncomputable def vmemB (m : MemD) : Bool := @decide (vmem m) (Classical.propDecidable _)
theorem vmemB_iff {m : MemD} : vmemB m = true ↔ vmem m := by unfold vmemB; exact @decide_eq_true_iff _ (Classical.propDecidable _)
theorem vmemB_f {m : MemD} (h : ¬ vmem m) : vmemB m = false := Bool.eq_false_iff.2 fun e => h (vmemB_iff.1 e)
/-- how many blocks there are -/
noncomputable def nOf (ws : List Int) : Nat := leastM (nB ws)
noncomputable def adrs (ws : List Int) : List Int := adr ws (nOf ws)
noncomputable def hasB (ws : List Int) : Bool := @decide (∃ n, nB ws n) (Classical.propDecidable _)

section
variable {ws ad l s : List Int} {n m i j : Nat} {a b h e x k : Int}

theorem szA_b (ws : List Int) (a : Int) : 0 ≤ szA ws a ∧ szA ws a < 4 := by unfold szA; omega
theorem posA_succ : posA ws (n + 1) = posA ws n + 2 + szA ws (posA ws n) := rfl
theorem posA_le (d : Nat) : posA ws i + 2 * d ≤ posA ws (i + d) := by
  induction d with
  | zero => simp
  | succ d ih => rw [← Nat.add_assoc, posA_succ]; have := szA_b ws (posA ws (i + d)); omega
theorem posA_nn (ws : List Int) (n : Nat) : 2 * (n : Int) ≤ posA ws n := by
  have := posA_le (ws := ws) (i := 0) n
  simpa [posA] using this
theorem posA_nxt (h : i < j) : nxtA ws (posA ws i) ≤ posA ws j := by
  have := posA_le (ws := ws) (i := i + 1) (j - (i + 1))
  rw [show i + 1 + (j - (i + 1)) = j from by omega] at this
  have e : posA ws (i + 1) = nxtA ws (posA ws i) := rfl
  omega
theorem posA_lt (h : i < j) : posA ws i + 2 ≤ posA ws j := by
  have := posA_nxt (ws := ws) h
  have := szA_b ws (posA ws i)
  unfold nxtA at *; omega
theorem posA_inj (h : posA ws i = posA ws j) : i = j := by
  rcases Nat.lt_trichotomy i j with h1 | h1 | h1
  · have := posA_lt (ws := ws) h1; omega
  · exact h1
  · have := posA_lt (ws := ws) h1; omega
theorem nB.unique (h1 : nB ws n) (h2 : nB ws m) : n = m := posA_inj (h1.2.trans h2.2.symm)
theorem nB.le (h : nB ws n) : 2 * (n : Int) ≤ ws.length := by have := posA_nn ws n; have := h.2; omega
theorem stuck (h : okTo ws i) (h1 : posA ws i < ws.length) (h2 : ¬ okA ws (posA ws i)) : ¬ ∃ n, nB ws n := by
  rintro ⟨n, h3, h4⟩
  rcases Nat.lt_or_ge i n with h5 | h5
  · exact h2 (h3 i h5)
  · have := posA_le (ws := ws) (i := n) (i - n)
    rw [show n + (i - n) = i from by omega] at this
    omega
theorem nOf_eq (h : nB ws n) : nOf ws = n := (leastM_spec (p := nB ws) ⟨n, h⟩).unique h
theorem adrs_eq (h : nB ws n) : adrs ws = adr ws n := by unfold adrs; rw [nOf_eq h]
theorem hasB_t (h : nB ws n) : hasB ws = true := by unfold hasB; exact @decide_eq_true _ (Classical.propDecidable _) ⟨n, h⟩
theorem hasB_f (h : ¬ ∃ n, nB ws n) : hasB ws = false := by unfold hasB; exact @decide_eq_false _ (Classical.propDecidable _) h
theorem hasB_iff : hasB ws = true ↔ ∃ n, nB ws n := by unfold hasB; exact @decide_eq_true_iff _ (Classical.propDecidable _)

theorem adr_len : (adr ws n).length = n := by simp [adr]
theorem adr_succ : adr ws (n + 1) = adr ws n ++ [posA ws n] := by simp [adr, List.range_succ]
theorem mem_adr : a ∈ adr ws n ↔ ∃ i, i < n ∧ a = posA ws i := by
  unfold adr
  rw [List.mem_map]
  constructor
  · rintro ⟨i, h1, h2⟩; exact ⟨i, by simpa using h1, h2.symm⟩
  · rintro ⟨i, h1, h2⟩; exact ⟨i, by simpa using h1, h2.symm⟩
theorem nth_adr (h : i < n) : nth (adr ws n) (i : Int) = posA ws i := nth_of (by simp [adr, h])
theorem adr_nodup : (adr ws n).Nodup := by
  unfold adr
  rw [List.Nodup, List.pairwise_map]
  exact List.nodup_range.imp fun h e => h (posA_inj e)
theorem adr_nn (ha : a ∈ adr ws n) : 0 ≤ a := by
  obtain ⟨i, _, rfl⟩ := mem_adr.1 ha
  have := posA_nn ws i; omega
theorem nB.ok (hb : nB ws n) (ha : a ∈ adr ws n) : okA ws a := by
  obtain ⟨i, hi, rfl⟩ := mem_adr.1 ha
  exact hb.1 i hi
theorem adr_apart (ha : a ∈ adr ws n) (hb : b ∈ adr ws n) (hne : a ≠ b) : nxtA ws a ≤ b ∨ nxtA ws b ≤ a := by
  obtain ⟨i, hi, rfl⟩ := mem_adr.1 ha
  obtain ⟨j, hj, rfl⟩ := mem_adr.1 hb
  rcases Nat.lt_trichotomy i j with h1 | h1 | h1
  · exact .inl (posA_nxt h1)
  · subst h1; exact absurd rfl hne
  · exact .inr (posA_nxt h1)

theorem idxI_mem (h : x ∈ ad) : 0 ≤ idxI ad x ∧ idxI ad x < ad.length ∧ nth ad (idxI ad x) = x := by
  unfold idxI
  rw [if_pos h]
  have := List.idxOf_lt_length_of_mem h
  exact ⟨by omega, by omega, nth_of (by simp [this])⟩
theorem idxI_not (h : x ∉ ad) : idxI ad x = -1 := if_neg h
theorem idxI_ge : 0 ≤ idxI ad x ↔ x ∈ ad := by
  by_cases h : x ∈ ad
  · exact ⟨fun _ => h, fun _ => (idxI_mem h).1⟩
  · rw [idxI_not h]; exact ⟨fun h => by omega, fun h1 => absurd h1 h⟩
theorem idxI_of (hn : ad.Nodup) (h0 : 0 ≤ k) (h1 : k < ad.length) : idxI ad (nth ad k) = k := by
  have hm := nth_mem h0 h1
  obtain ⟨p0, p1, p2⟩ := idxI_mem hm
  have e1 := nth_get p0 p1
  have e2 := nth_get h0 h1
  rw [p2] at e1
  rw [← e2] at e1
  have hpw := List.pairwise_iff_getElem.1 hn
  rw [List.getElem?_eq_getElem (by omega), List.getElem?_eq_getElem (by omega)] at e1
  have e3 := Option.some.inj e1
  rcases Nat.lt_trichotomy (idxI ad (nth ad k)).toNat k.toNat with h3 | h3 | h3
  · exact absurd e3 (hpw _ _ _ _ h3)
  · omega
  · exact absurd e3.symm (hpw _ _ _ _ h3)
theorem idxI_adr (h : i < n) : idxI (adr ws n) (posA ws i) = i := by
  have := idxI_of (ad := adr ws n) (k := (i : Int)) adr_nodup (by omega) (by rw [adr_len]; omega)
  rwa [nth_adr h] at this
theorem mapW_int (h : ¬ 1000 ≤ x) : mapW ad x = x := if_neg h
theorem mapW_ptr (h : 1000 ≤ x) : mapW ad x = 1000 + idxI ad (x - 1000) := if_pos h

theorem fieldsA_len (ws : List Int) (a : Int) : ((fieldsA ws a).length : Int) = szA ws a := by
  have := szA_b ws a
  simp [fieldsA]; omega
theorem nth_fieldsA (h0 : 0 ≤ k) (h1 : k < szA ws a) : nth (fieldsA ws a) k = nth ws (a + 2 + k) := by
  refine nth_of ?_
  have : k.toNat < (szA ws a).toNat := by omega
  simp [fieldsA, this, Int.toNat_of_nonneg h0]
theorem mem_fieldsA {f : Int} : f ∈ fieldsA ws a ↔ ∃ k : Int, 0 ≤ k ∧ k < szA ws a ∧ f = nth ws (a + 2 + k) := by
  constructor
  · intro hf
    obtain ⟨i, hi, rfl⟩ := List.getElem_of_mem hf
    have hl := fieldsA_len ws a
    refine ⟨i, by omega, by omega, ?_⟩
    rw [← nth_fieldsA (by omega) (by omega), nth_nat hi]
  · rintro ⟨k, h0, h1, rfl⟩
    rw [← nth_fieldsA h0 h1]
    exact nth_mem h0 (by rw [fieldsA_len]; exact h1)
theorem cellsL_len : (cellsL ws ad).length = ad.length := by simp [cellsL]
theorem nth_cellsL (h0 : 0 ≤ k) (h1 : k < ad.length) : nth (cellsL ws ad) k = cellA ws ad (nth ad k) := by
  refine nth_of ?_
  unfold cellsL
  rw [List.getElem?_map, nth_get h0 h1]; rfl
theorem cellA_free (h : nth ws a = 0) : cellA ws ad a = free0 := if_pos h
theorem cellA_live (h : nth ws a ≠ 0) : cellA ws ad a = ⟨nth ws a, nth ws (a + 1) / 4, (fieldsA ws a).map (mapW ad)⟩ := if_neg h
theorem cellA_count (ws ad : List Int) (a : Int) : (cellA ws ad a).count = nth ws a := by
  unfold cellA; split
  · rename_i h; rw [h]
  · rfl
theorem cellsL_count (hb : nB ws n) : ∀ c ∈ cellsL ws (adr ws n), 0 ≤ c.count := by
  intro c hc
  obtain ⟨a, ha, rfl⟩ := List.mem_map.1 hc
  rw [cellA_count]
  exact (hb.ok ha).2.1
theorem cellsL_free : ∀ c ∈ cellsL ws ad, c.count = 0 → c = free0 := by
  intro c hc h0
  obtain ⟨a, ha, rfl⟩ := List.mem_map.1 hc
  rw [cellA_count] at h0
  exact cellA_free h0

/-! ### chains -/
theorem ChainTo.snoc : ∀ {s : List Int} {h : Int}, ChainTo ws h s (a + 1) → ChainTo ws h (s ++ [a]) (nth ws (a + 1) / 4)
  | [], h, hc => ⟨hc, rfl⟩
  | b :: s, h, hc => ⟨hc.1, ChainTo.snoc hc.2⟩
theorem ChainTo.chain : ∀ {s : List Int} {h : Int}, ChainTo ws h s 0 → Chain ws h s
  | [], h, hc => hc
  | b :: s, h, hc => ⟨hc.1, ChainTo.chain hc.2⟩
theorem Chain.split : ∀ {s l : List Int} {h : Int}, ChainTo ws h s e → Chain ws h l → (∀ a ∈ s, 0 ≤ a) → ∃ l2, l = s ++ l2 ∧ Chain ws e l2
  | [], l, h, hc, hl, hs => ⟨l, rfl, by rw [← show h = e from hc]; exact hl⟩
  | b :: s, [], h, hc, hl, hs => by
    have h1 := hs b List.mem_cons_self
    have h2 := hc.1
    have h3 : h = 0 := hl
    omega
  | b :: s, c :: l, h, hc, hl, hs => by
    have e1 : b = c := by have := hc.1; have := hl.1; omega
    subst e1
    obtain ⟨l2, h1, h2⟩ := Chain.split hc.2 hl.2 (fun a ha => hs a (List.mem_cons_of_mem _ ha))
    exact ⟨l2, by rw [h1]; rfl, h2⟩
theorem chain_stop {list : List Int} (hc : ChainTo ws h s e) (hs : ∀ a ∈ s, a ∈ list) (hn : ∀ a ∈ list, 0 ≤ a) (he : e ≠ 0) (hb : e - 1 ∉ list ∨ e - 1 ∈ s) : ¬ chainOk ws h list := by
  rintro ⟨l, h1, h2, h3, h4⟩
  obtain ⟨l2, rfl, h6⟩ := Chain.split hc h1 (fun a ha => hn a (hs a ha))
  cases l2 with
  | nil => exact he h6
  | cons b r =>
    have hb2 : b = e - 1 := by have := h6.1; omega
    subst hb2
    rcases hb with hb | hb
    · exact hb (h3 _ (by simp))
    · exact (List.nodup_append.1 h2).2.2 _ hb _ List.mem_cons_self rfl
theorem chain_end {list : List Int} (hc : ChainTo ws h s 0) (hd : s.Nodup) (hs : ∀ a ∈ s, a ∈ list) (hn : ∀ a ∈ list, 0 ≤ a) : chainOk ws h list ↔ s.length = list.length := by
  constructor
  · rintro ⟨l, h1, h2, h3, h4⟩
    obtain ⟨l2, rfl, h6⟩ := Chain.split hc h1 (fun a ha => hn a (hs a ha))
    cases l2 with
    | nil => simpa using h4
    | cons b r =>
      have h7 := h6.1
      have := hn b (h3 b (by simp))
      omega
  · exact fun hl => ⟨s, hc.chain, hd, hs, hl⟩
theorem sub_len {list : List Int} (hd : s.Nodup) (hs : ∀ a ∈ s, a ∈ list) : s.length ≤ list.length := List.Nodup.length_le_of_subset hd hs

theorem freeA_mem : a ∈ freeA ws ad k ↔ a ∈ ad ∧ nth ws a = 0 ∧ szA ws a = k := by
  unfold freeA
  rw [List.mem_filter]; simp
end
end Go.Vc

namespace Go.Vc
open Go Go.Proofs Go.RowKit
set_option linter.all false
section
variable {u v w : World} {x y xf s t : Sl} {l ws fs ad list : List Int} {h g : List CellD} {m : MemD} {b n k f e : Int} {N i : Nat} {a : Addr} {I J K L R R1 : Items} {F F1 : Items → Items}

theorem tmod4 (h : 0 ≤ n) : Int.tmod n 4 = n % 4 := Int.tmod_eq_emod_of_nonneg h
theorem tdiv4 (h : 0 ≤ n) : Int.tdiv n 4 = n / 4 := Int.tdiv_eq_ediv_of_nonneg h

theorem c_sizeAt (hx : Read v x ws) (h0 : 0 ≤ n) (h1 : n + 1 < ws.length) (h2 : 0 ≤ nth ws (n + 1)) : Fn Try.prog 75 #[x.val, .int .i64 n] v (.int .i64 (szA ws n)) := by
  refine of75 _ _ _ _ ?_
  unfold vc75
  have hl := hx.le
  refine go_wr (by omega) (by omega) ?_
  refine go_ix hx (by omega) (by omega) ?_
  refine ld_int hx (by omega) (by omega) ?_
  intro b0 b1
  refine ⟨by decide, ?_, .refl v⟩
  unfold szA
  rw [tmod4 h2]

/-- the addresses, if there are whole blocks alone -/
theorem c_addressesOfB (hx : Read v x ws) : Mk Try.prog 54 #[x.val] v fun r J => ∃ y : Sl, r = .tuple #[y.val, .bool (hasB ws)] ∧ (hasB ws = true → Own v y (adrs ws) J) ∧ (hasB ws = false → y = ⟨none, 0, 0⟩) := by
  refine of54 _ _ _ ?_
  unfold vc54
  have hn := hx.n
  have hl := hx.le
  have hS := St.refl v
  refine St.build (α := Int) hS (by (repeat' (first | exact VsOf.nil | apply VsOf.cons | (apply VOf.int; first | assumption | (constructor <;> first | omega | (simp only [List.length_set, List.length_append, List.length_replicate, List.length_cons, List.length_nil, List.length_take, List.length_drop, List.length_map, List.length_singleton] at *; omega))) | exact VOf.bool | exact VOf.str))) rfl (by decide) ?_
  intro y w1 I1 hO hS hs
  refine ⟨_, rfl, ?_⟩
  refine ⟨fun y n w => ∃ (i : Nat) (J : Items), n = posA ws i ∧ okTo ws i ∧ n ≤ ws.length ∧ Own v y (adr ws i) J ∧ St v w (J ++ []), fun _ n _ => (ws.length - n).toNat, ⟨0, I1, rfl, fun i hi => by omega, by omega, hO, hS⟩, ?_⟩
  clear hO hS
  rintro y n w ⟨i, J, rfl, hok, hle, hO, hS⟩
  dsimp only
  have hp0 := posA_nn ws i
  generalize hq : posA ws i = q at *
  refine ⟨fun hi => ?_, fun hi => ?_⟩
  · simp only [decide_eq_true_eq, decide_eq_false_iff_not, Bool.and_eq_true, Bool.and_eq_false_iff, Bool.or_eq_true, Bool.or_eq_false_iff, Bool.not_eq_true', Bool.not_eq_false', Bool.not_true, Bool.not_false, Bool.false_eq_true, Bool.true_eq_false, Int.not_lt, Int.not_le, ge_iff_le, gt_iff_lt, Bool.not_eq_eq_eq_not, Bool.true_or, Bool.or_true, Bool.false_or, Bool.or_false, Bool.true_and, Bool.and_true, false_or, or_false, true_and, and_true, Decidable.not_not] at hi
    refine go_wr (by omega) (by omega) ?_
    refine ⟨fun hc => hx.ix (by omega) (by omega), ?_⟩
    refine ld_intg (hx.mono hS.sub) (fun _ => ⟨by omega, by omega⟩) ?_
    refine ⟨q + 1, fun _ => wrap_i64 (by omega) (by omega), fun hc => hx.ix (by omega) (by simp only [decide_eq_true_eq, decide_eq_false_iff_not, Bool.and_eq_true, Bool.and_eq_false_iff, Bool.or_eq_true, Bool.or_eq_false_iff, Bool.not_eq_true', Bool.not_eq_false', Bool.not_true, Bool.not_false, Bool.false_eq_true, Bool.true_eq_false, Int.not_lt, Int.not_le, ge_iff_le, gt_iff_lt, Bool.not_eq_eq_eq_not, Bool.true_or, Bool.or_true, Bool.false_or, Bool.or_false, Bool.true_and, Bool.and_true, false_or, or_false, true_and, and_true, Decidable.not_not] at hc; omega), ?_⟩
    refine ld_intg (hx.mono hS.sub) (fun hc => ⟨by omega, by simp only [decide_eq_true_eq, decide_eq_false_iff_not, Bool.and_eq_true, Bool.and_eq_false_iff, Bool.or_eq_true, Bool.or_eq_false_iff, Bool.not_eq_true', Bool.not_eq_false', Bool.not_true, Bool.not_false, Bool.false_eq_true, Bool.true_eq_false, Int.not_lt, Int.not_le, ge_iff_le, gt_iff_lt, Bool.not_eq_eq_eq_not, Bool.true_or, Bool.or_true, Bool.false_or, Bool.or_false, Bool.true_and, Bool.and_true, false_or, or_false, true_and, and_true, Decidable.not_not] at hc; omega⟩) ?_
    have hsb := szA_b ws q
    have hz : ∀ {w : World}, Sub v w → (q + 2 ≤ ws.length ∧ 0 ≤ nth ws (q + 1)) → Fn Try.prog 75 #[x.val, .int .i64 q] w (.int .i64 (szA ws q)) := fun hs hc => c_sizeAt (hx.mono hs) (by omega) (by omega) hc.2
    refine ⟨q + 2, fun _ => wrap_i64 (by omega) (by omega), szA ws q, fun hc => hz hS.sub (by simp only [decide_eq_true_eq, decide_eq_false_iff_not, Bool.and_eq_true, Bool.and_eq_false_iff, Bool.or_eq_true, Bool.or_eq_false_iff, Bool.not_eq_true', Bool.not_eq_false', Bool.not_true, Bool.not_false, Bool.false_eq_true, Bool.true_eq_false, Int.not_lt, Int.not_le, ge_iff_le, gt_iff_lt, Bool.not_eq_eq_eq_not, Bool.true_or, Bool.or_true, Bool.false_or, Bool.or_false, Bool.true_and, Bool.and_true, false_or, or_false, true_and, and_true, Decidable.not_not] at hc; omega), q + 2 + szA ws q, fun _ => wrap_i64 (by omega) (by omega), fun hc => ?_, fun hc => ?_⟩
    · have hb : ¬ ∃ n, nB ws n := stuck hok (by omega) (fun ⟨o1, o2, o3, o4⟩ => by
        rw [hq] at o1 o2 o3 o4
        unfold nxtA at o4
        simp only [decide_eq_true_eq, decide_eq_false_iff_not, Bool.and_eq_true, Bool.and_eq_false_iff, Bool.or_eq_true, Bool.or_eq_false_iff, Bool.not_eq_true', Bool.not_eq_false', Bool.not_true, Bool.not_false, Bool.false_eq_true, Bool.true_eq_false, Int.not_lt, Int.not_le, ge_iff_le, gt_iff_lt, Bool.not_eq_eq_eq_not, Bool.true_or, Bool.or_true, Bool.false_or, Bool.or_false, Bool.true_and, Bool.and_true, false_or, or_false, true_and, and_true, Decidable.not_not] at hc
        omega)
      exact ⟨J, by simpa using hS, ⟨none, 0, 0⟩, by rw [hasB_f hb]; rfl, fun h => (by rw [hasB_f hb] at h; cases h), fun _ => rfl⟩
    · simp only [decide_eq_true_eq, decide_eq_false_iff_not, Bool.and_eq_true, Bool.and_eq_false_iff, Bool.or_eq_true, Bool.or_eq_false_iff, Bool.not_eq_true', Bool.not_eq_false', Bool.not_true, Bool.not_false, Bool.false_eq_true, Bool.true_eq_false, Int.not_lt, Int.not_le, ge_iff_le, gt_iff_lt, Bool.not_eq_eq_eq_not, Bool.true_or, Bool.or_true, Bool.false_or, Bool.or_false, Bool.true_and, Bool.and_true, false_or, or_false, true_and, and_true, Decidable.not_not] at hc
      have hoki : okA ws q := ⟨by omega, by omega, by omega, by unfold nxtA; omega⟩
      refine St.build (α := Int) hS (by (repeat' (first | exact VsOf.nil | apply VsOf.cons | (apply VOf.int; first | assumption | (constructor <;> first | omega | (simp only [List.length_set, List.length_append, List.length_replicate, List.length_cons, List.length_nil, List.length_take, List.length_drop, List.length_map, List.length_singleton] at *; omega))) | exact VOf.bool | exact VOf.str))) rfl (by decide) ?_
      intro x4 w4 I4 hO4 hS hs
      refine ⟨_, rfl, ?_⟩
      have hil := posA_nn ws i
      refine Own.append hO hS (Own.src hO4 hS) (by rw [adr_len]; simp; omega) (by decide) ?_
      intro x5 w5 I5 hO5 hS
      refine ⟨_, rfl, ?_⟩
      refine go_wr (by omega) (by omega) ?_
      refine ⟨_, hz hS.sub (by omega), ?_⟩
      refine go_wr (by omega) (by omega) ?_
      have hp1 : posA ws (i + 1) = q + 2 + szA ws q := by rw [posA_succ, hq]
      refine ⟨⟨i + 1, I5, hp1.symm, fun j hj => ?_, by omega, ?_, hS.to⟩, by omega⟩
      · by_cases e : j = i
        · rw [e, hq]; exact hoki
        · exact hok j (by omega)
      · rw [adr_succ, hq]; exact hO5
  · simp only [decide_eq_true_eq, decide_eq_false_iff_not, Bool.and_eq_true, Bool.and_eq_false_iff, Bool.or_eq_true, Bool.or_eq_false_iff, Bool.not_eq_true', Bool.not_eq_false', Bool.not_true, Bool.not_false, Bool.false_eq_true, Bool.true_eq_false, Int.not_lt, Int.not_le, ge_iff_le, gt_iff_lt, Bool.not_eq_eq_eq_not, Bool.true_or, Bool.or_true, Bool.false_or, Bool.or_false, Bool.true_and, Bool.and_true, false_or, or_false, true_and, and_true, Decidable.not_not] at hi
    have hb : nB ws i := ⟨hok, by rw [hq]; omega⟩
    exact ⟨J, by simpa using hS, y, by rw [hasB_t hb], fun _ => (by rw [adrs_eq hb]; exact hO), fun h => (by rw [hasB_t hb] at h; cases h)⟩

theorem c_addressesOf (hx : Read v x ws) : Mk Try.prog 54 #[x.val] v fun r J => ∃ y : Sl, r = .tuple #[y.val, .bool (hasB ws)] ∧ (hasB ws = true → Own v y (adrs ws) J) := by
  refine Trip.mono' (c_addressesOfB hx) ?_
  rintro r w ⟨J, hS, y, h1, h2, _⟩
  exact ⟨J, hS, y, h1, h2⟩

theorem c_placeIn (hx : Read v x l) : Fn Try.prog 55 #[x.val, .int .i64 n] v (.int .i64 (idxI l n)) := by
  refine of55 _ _ _ _ ?_
  unfold vc55
  have hn := hx.n
  have hl := hx.le
  refine ⟨fun i w => Sub v w ∧ 0 ≤ i ∧ i ≤ l.length ∧ n ∉ l.take i.toNat, fun i _ => (l.length - i).toNat, ⟨.refl v, by omega, by omega, by simp⟩, ?_⟩
  rintro i w ⟨hs, h0, h1, h2⟩
  dsimp only
  refine ⟨fun hi => ?_, fun hi => ?_⟩
  · simp only [decide_eq_true_eq, decide_eq_false_iff_not, Bool.and_eq_true, Bool.and_eq_false_iff, Bool.or_eq_true, Bool.or_eq_false_iff, Bool.not_eq_true', Bool.not_eq_false', Bool.not_true, Bool.not_false, Bool.false_eq_true, Bool.true_eq_false, Int.not_lt, Int.not_le, ge_iff_le, gt_iff_lt, Bool.not_eq_eq_eq_not, Bool.true_or, Bool.or_true, Bool.false_or, Bool.or_false, Bool.true_and, Bool.and_true, false_or, or_false, true_and, and_true, Decidable.not_not] at hi
    refine go_ix hx h0 (by omega) ?_
    refine ld_int (hx.mono hs) h0 (by omega) ?_
    intro b0 b1
    refine ⟨fun hc => ?_, fun hc => ?_⟩
    · simp only [decide_eq_true_eq, decide_eq_false_iff_not, Bool.and_eq_true, Bool.and_eq_false_iff, Bool.or_eq_true, Bool.or_eq_false_iff, Bool.not_eq_true', Bool.not_eq_false', Bool.not_true, Bool.not_false, Bool.false_eq_true, Bool.true_eq_false, Int.not_lt, Int.not_le, ge_iff_le, gt_iff_lt, Bool.not_eq_eq_eq_not, Bool.true_or, Bool.or_true, Bool.false_or, Bool.or_false, Bool.true_and, Bool.and_true, false_or, or_false, true_and, and_true, Decidable.not_not] at hc
      refine ⟨?_, hs⟩
      have hm : n ∈ l := by rw [← hc]; exact nth_mem h0 (by omega)
      have : l.idxOf n = i.toNat := by
        have hg := nth_get (l := l) h0 (by omega)
        rw [hc] at hg
        have e : l = l.take i.toNat ++ l.drop i.toNat := (List.take_append_drop _ _).symm
        have hlt : i.toNat < l.length := by omega
        rw [e, List.idxOf_append, if_neg h2, List.drop_eq_getElem_cons hlt]
        have : l[i.toNat] = n := by rw [List.getElem?_eq_getElem hlt] at hg; exact Option.some.inj hg
        rw [this, List.idxOf_cons_self]
        simp; omega
      unfold idxI
      rw [if_pos hm, this, Int.toNat_of_nonneg h0]
    · simp only [decide_eq_true_eq, decide_eq_false_iff_not, Bool.and_eq_true, Bool.and_eq_false_iff, Bool.or_eq_true, Bool.or_eq_false_iff, Bool.not_eq_true', Bool.not_eq_false', Bool.not_true, Bool.not_false, Bool.false_eq_true, Bool.true_eq_false, Int.not_lt, Int.not_le, ge_iff_le, gt_iff_lt, Bool.not_eq_eq_eq_not, Bool.true_or, Bool.or_true, Bool.false_or, Bool.or_false, Bool.true_and, Bool.and_true, false_or, or_false, true_and, and_true, Decidable.not_not] at hc
      refine go_wr (by omega) (by omega) ?_
      refine ⟨⟨hs, by omega, by omega, ?_⟩, by omega⟩
      rw [take_nth h0 (by omega)]
      intro hm
      rcases List.mem_append.1 hm with hm | hm
      · exact h2 hm
      · exact hc (List.mem_singleton.1 hm).symm
  · simp only [decide_eq_true_eq, decide_eq_false_iff_not, Bool.and_eq_true, Bool.and_eq_false_iff, Bool.or_eq_true, Bool.or_eq_false_iff, Bool.not_eq_true', Bool.not_eq_false', Bool.not_true, Bool.not_false, Bool.false_eq_true, Bool.true_eq_false, Int.not_lt, Int.not_le, ge_iff_le, gt_iff_lt, Bool.not_eq_eq_eq_not, Bool.true_or, Bool.or_true, Bool.false_or, Bool.or_false, Bool.true_and, Bool.and_true, false_or, or_false, true_and, and_true, Decidable.not_not] at hi
    rw [take_all (by omega)] at h2
    exact ⟨by rw [idxI_not h2], hs⟩

theorem c_mapped (hx : Read v x ad) (hn : InI n) : Fn Try.prog 80 #[x.val, .int .i64 n] v (.tuple #[.int .i64 (mapW ad n), .bool (decide (1000 ≤ n → n - 1000 ∈ ad))]) := by
  refine of80 _ _ _ _ ?_
  unfold vc80
  have hl := hx.le
  refine ⟨_, c_isPointer, fun hc => ?_, fun hc => ?_⟩
  · simp only [decide_eq_true_eq, decide_eq_false_iff_not, Bool.and_eq_true, Bool.and_eq_false_iff, Bool.or_eq_true, Bool.or_eq_false_iff, Bool.not_eq_true', Bool.not_eq_false', Bool.not_true, Bool.not_false, Bool.false_eq_true, Bool.true_eq_false, Int.not_lt, Int.not_le, ge_iff_le, gt_iff_lt, Bool.not_eq_eq_eq_not, Bool.true_or, Bool.or_true, Bool.false_or, Bool.or_false, Bool.true_and, Bool.and_true, false_or, or_false, true_and, and_true, Decidable.not_not] at hc
    refine ⟨?_, .refl v⟩
    rw [mapW_int (by omega), decide_eq_true (fun h => by omega)]
  · simp only [decide_eq_true_eq, decide_eq_false_iff_not, Bool.and_eq_true, Bool.and_eq_false_iff, Bool.or_eq_true, Bool.or_eq_false_iff, Bool.not_eq_true', Bool.not_eq_false', Bool.not_true, Bool.not_false, Bool.false_eq_true, Bool.true_eq_false, Int.not_lt, Int.not_le, ge_iff_le, gt_iff_lt, Bool.not_eq_eq_eq_not, Bool.true_or, Bool.or_true, Bool.false_or, Bool.or_false, Bool.true_and, Bool.and_true, false_or, or_false, true_and, and_true, Decidable.not_not] at hc
    refine go_wr (by omega) (by have := hn.2; omega) ?_
    have hb : -1 ≤ idxI ad (n - 1000) ∧ idxI ad (n - 1000) ≤ ad.length := by
      by_cases hm : n - 1000 ∈ ad
      · have := idxI_mem hm; omega
      · rw [idxI_not hm]; omega
    refine ⟨_, c_placeIn hx, ?_⟩
    refine go_wr (by omega) (by omega) ?_
    refine ⟨?_, .refl v⟩
    rw [mapW_ptr (by omega)]
    have : decide (idxI ad (n - 1000) ≥ 0) = decide (1000 ≤ n → n - 1000 ∈ ad) := by
      apply decide_eq_decide.2
      rw [ge_iff_le, idxI_ge]
      exact ⟨fun h _ => h, fun h => h (by omega)⟩
    rw [this]

theorem c_freeOf (hx : Read v x ws) (hy : Read v y ad) (hok : ∀ q ∈ ad, 0 ≤ q ∧ q + 2 ≤ ws.length ∧ 0 ≤ nth ws (q + 1)) : Mk Try.prog 71 #[x.val, y.val, .int .i64 k] v fun r J => ∃ z, r = z.val ∧ Own v z (freeA ws ad k) J := by
  refine of71 _ _ _ _ _ ?_
  unfold vc71
  have hn := hx.n
  have hl := hx.le
  have hyn := hy.n
  have hyl := hy.le
  have hS := St.refl v
  refine St.build (α := Int) hS (by (repeat' (first | exact VsOf.nil | apply VsOf.cons | (apply VOf.int; first | assumption | (constructor <;> first | omega | (simp only [List.length_set, List.length_append, List.length_replicate, List.length_cons, List.length_nil, List.length_take, List.length_drop, List.length_map, List.length_singleton] at *; omega))) | exact VOf.bool | exact VOf.str))) rfl (by decide) ?_
  intro y4 w1 I1 hO hS hs
  refine ⟨_, rfl, ?_⟩
  refine ⟨fun z i w => ∃ J, Own v z (freeA ws (ad.take i.toNat) k) J ∧ St v w (J ++ []) ∧ 0 ≤ i ∧ i ≤ ad.length, fun _ i _ => (ad.length - i).toNat, ⟨I1, hO, hS, by omega, by omega⟩, ?_⟩
  clear hO hS
  rintro z i w ⟨J, hO, hS, h0, h1⟩
  dsimp only
  refine ⟨fun hi => ?_, fun hi => ?_⟩
  · simp only [decide_eq_true_eq, decide_eq_false_iff_not, Bool.and_eq_true, Bool.and_eq_false_iff, Bool.or_eq_true, Bool.or_eq_false_iff, Bool.not_eq_true', Bool.not_eq_false', Bool.not_true, Bool.not_false, Bool.false_eq_true, Bool.true_eq_false, Int.not_lt, Int.not_le, ge_iff_le, gt_iff_lt, Bool.not_eq_eq_eq_not, Bool.true_or, Bool.or_true, Bool.false_or, Bool.or_false, Bool.true_and, Bool.and_true, false_or, or_false, true_and, and_true, Decidable.not_not] at hi
    have hm := nth_mem (l := ad) h0 (by omega)
    obtain ⟨o0, o1, o2⟩ := hok _ hm
    have htk := take_nth (l := ad) h0 (by omega)
    generalize hq : nth ad i = q at *
    have hlf : (freeA ws (ad.take i.toNat) k).length ≤ i.toNat := Nat.le_trans (List.length_filter_le _ _) (by simp; omega)
    refine go_ix hy h0 (by omega) ?_
    refine ld_int (hy.mono hS.sub) h0 (by omega) ?_
    rw [hq]
    intro b0 b1
    refine go_ix hx (by omega) (by omega) ?_
    refine ld_int (hx.mono hS.sub) (by omega) (by omega) ?_
    intro b2 b3
    refine ⟨fun _ => hy.ix h0 (by omega), q, fun _ => by have := ((hy.mono hS.sub).int h0 (by omega)).1; rw [hq] at this; exact this, _, fun _ => c_sizeAt (hx.mono hS.sub) o0 (by omega) o2, fun hc => ?_, fun hc => ?_⟩
    · simp only [decide_eq_true_eq, decide_eq_false_iff_not, Bool.and_eq_true, Bool.and_eq_false_iff, Bool.or_eq_true, Bool.or_eq_false_iff, Bool.not_eq_true', Bool.not_eq_false', Bool.not_true, Bool.not_false, Bool.false_eq_true, Bool.true_eq_false, Int.not_lt, Int.not_le, ge_iff_le, gt_iff_lt, Bool.not_eq_eq_eq_not, Bool.true_or, Bool.or_true, Bool.false_or, Bool.or_false, Bool.true_and, Bool.and_true, false_or, or_false, true_and, and_true, Decidable.not_not] at hc
      refine go_ix hy h0 (by omega) ?_
      refine ld_int (hy.mono hS.sub) h0 (by omega) ?_
      rw [hq]
      intro _ _
      refine St.build (α := Int) hS (by (repeat' (first | exact VsOf.nil | apply VsOf.cons | (apply VOf.int; first | assumption | (constructor <;> first | omega | (simp only [List.length_set, List.length_append, List.length_replicate, List.length_cons, List.length_nil, List.length_take, List.length_drop, List.length_map, List.length_singleton] at *; omega))) | exact VOf.bool | exact VOf.str))) rfl (by decide) ?_
      intro x4 w4 I4 hO4 hS hs
      refine ⟨_, rfl, ?_⟩
      refine Own.append hO hS (Own.src hO4 hS) (by simp; omega) (by decide) ?_
      intro x5 w5 I5 hO5 hS
      refine ⟨_, rfl, ?_⟩
      refine go_wr (by omega) (by omega) ?_
      refine ⟨⟨I5, ?_, hS.to, by omega, by omega⟩, by omega⟩
      have e : freeA ws (ad.take (i + 1).toNat) k = freeA ws (ad.take i.toNat) k ++ [q] := by
        rw [htk]
        unfold freeA
        rw [List.filter_append, List.filter_cons_of_pos (by simpa using hc)]; rfl
      rw [e]; exact hO5
    · have hc' : ¬ (nth ws q = 0 ∧ szA ws q = k) := by
        intro ⟨c1, c2⟩
        rw [decide_eq_true c1, decide_eq_true c2] at hc; cases hc
      refine go_wr (by omega) (by omega) ?_
      refine ⟨⟨J, ?_, hS, by omega, by omega⟩, by omega⟩
      have e : freeA ws (ad.take (i + 1).toNat) k = freeA ws (ad.take i.toNat) k := by
        rw [htk]
        unfold freeA
        rw [List.filter_append, List.filter_cons_of_neg (by simpa using hc')]; simp
      rw [e]; exact hO
  · simp only [decide_eq_true_eq, decide_eq_false_iff_not, Bool.and_eq_true, Bool.and_eq_false_iff, Bool.or_eq_true, Bool.or_eq_false_iff, Bool.not_eq_true', Bool.not_eq_false', Bool.not_true, Bool.not_false, Bool.false_eq_true, Bool.true_eq_false, Int.not_lt, Int.not_le, ge_iff_le, gt_iff_lt, Bool.not_eq_eq_eq_not, Bool.true_or, Bool.or_true, Bool.false_or, Bool.or_false, Bool.true_and, Bool.and_true, false_or, or_false, true_and, and_true, Decidable.not_not] at hi
    rw [take_all (by omega)] at hO
    exact ⟨J, by simpa using hS, z, rfl, hO⟩

theorem wrap_pred (hn : InI n) : (IntKind.wrap .i64 (n - 1) = n - 1 ∧ -9223372036854775808 ≤ n - 1) ∨ (n = -9223372036854775808 ∧ IntKind.wrap .i64 (n - 1) = 9223372036854775807) := by
  by_cases e : n = -9223372036854775808
  · right; subst e; exact ⟨rfl, by decide⟩
  · left; have := hn.1; have := hn.2; exact ⟨wrap_i64 (by omega) (by omega), by omega⟩

theorem c_chainOf (hx : Read v x ws) (hy : Read v y list) (hn : InI n) (hok : ∀ q ∈ list, 0 ≤ q ∧ q + 2 ≤ ws.length ∧ 0 ≤ nth ws (q + 1)) : Fn Try.prog 70 #[x.val, .int .i64 n, y.val] v (.bool (@decide (chainOk ws n list) (Classical.propDecidable _))) := by
  have vt : ∀ {q : Bool}, (q = true ↔ chainOk ws n list) → Value.bool q = .bool (@decide (chainOk ws n list) (Classical.propDecidable _)) := fun {q} h => by
    cases q with
    | true => rw [@decide_eq_true _ (Classical.propDecidable _) (h.1 rfl)]
    | false => rw [@decide_eq_false _ (Classical.propDecidable _) (fun hc => by have := h.2 hc; cases this)]
  refine of70 _ _ _ _ _ ?_
  unfold vc70
  have hxn := hx.n
  have hl := hx.le
  have hyn := hy.n
  have hyl := hy.le
  have hS := St.refl v
  refine St.build (α := Int) hS (by (repeat' (first | exact VsOf.nil | apply VsOf.cons | (apply VOf.int; first | assumption | (constructor <;> first | omega | (simp only [List.length_set, List.length_append, List.length_replicate, List.length_cons, List.length_nil, List.length_take, List.length_drop, List.length_map, List.length_singleton] at *; omega))) | exact VOf.bool | exact VOf.str))) rfl (by decide) ?_
  intro y4 w1 I1 hO hS hs
  refine ⟨_, rfl, ?_⟩
  refine ⟨fun e z w => ∃ (s : List Int) (J : Items), Own v z s J ∧ St v w (J ++ []) ∧ ChainTo ws n s e ∧ s.Nodup ∧ (∀ a ∈ s, a ∈ list) ∧ InI e, fun _ z _ => list.length - z.n, ⟨[], I1, hO, hS, rfl, List.nodup_nil, fun a h => (by cases h), hn⟩, ?_⟩
  clear hO hS
  rintro e z w ⟨s, J, hO, hS, hC, hd, hsub, he⟩
  dsimp only
  have hzn := hO.n
  have hsl := sub_len hd hsub
  have hnn : ∀ a ∈ list, 0 ≤ a := fun a ha => (hok a ha).1
  refine ⟨fun hi => ?_, fun hi => ?_⟩
  · simp only [decide_eq_true_eq, decide_eq_false_iff_not, Bool.and_eq_true, Bool.and_eq_false_iff, Bool.or_eq_true, Bool.or_eq_false_iff, Bool.not_eq_true', Bool.not_eq_false', Bool.not_true, Bool.not_false, Bool.false_eq_true, Bool.true_eq_false, Int.not_lt, Int.not_le, ge_iff_le, gt_iff_lt, Bool.not_eq_eq_eq_not, Bool.true_or, Bool.or_true, Bool.false_or, Bool.or_false, Bool.true_and, Bool.and_true, false_or, or_false, true_and, and_true, Decidable.not_not] at hi
    refine go_wrap fun n9 hn9 => ?_
    have hm9 : n9 ∈ list ↔ e - 1 ∈ list := by
      rcases wrap_pred he with ⟨h1, _⟩ | ⟨h1, h2⟩
      · rw [← hn9, h1]
      · constructor
        · intro hm; have := hok _ hm; omega
        · intro hm; have := hok _ hm; omega
    refine ⟨_, c_specIsIn (hy.mono hS.sub), ?_⟩
    by_cases hm : e - 1 ∈ list
    · obtain ⟨o0, o1, o2⟩ := hok _ hm
      refine ⟨e - 1, fun _ => wrap_i64 (by omega) (by omega), _, fun _ => c_specIsIn (Own.read hO hS), fun hc => ?_, fun hc => ?_⟩
      · have hst : e - 1 ∈ s := by
          rw [decide_eq_true (hm9.2 hm)] at hc
          simpa using hc
        exact ⟨vt ⟨fun h => (by cases h), fun h => absurd h (chain_stop hC hsub hnn hi (.inr hst))⟩, hS.sub⟩
      · have hns : e - 1 ∉ s := by
          rw [decide_eq_true (hm9.2 hm)] at hc
          simpa using hc
        refine go_wr (by omega) (by omega) ?_
        refine St.build (α := Int) hS (by (repeat' (first | exact VsOf.nil | apply VsOf.cons | (apply VOf.int; first | assumption | (constructor <;> first | omega | (simp only [List.length_set, List.length_append, List.length_replicate, List.length_cons, List.length_nil, List.length_take, List.length_drop, List.length_map, List.length_singleton] at *; omega))) | exact VOf.bool | exact VOf.str))) rfl (by decide) ?_
        intro x4 w4 I4 hO4 hS hs
        refine ⟨_, rfl, ?_⟩
        have hlen : (s ++ [e - 1]).length ≤ list.length := sub_len (List.nodup_append.2 ⟨hd, by simp, fun a ha b hb => by rw [List.mem_singleton.1 hb]; exact fun e => hns (e ▸ ha)⟩) (fun a ha => by
          rcases List.mem_append.1 ha with ha | ha
          · exact hsub a ha
          · rw [List.mem_singleton.1 ha]; exact hm)
        simp only [List.length_append, List.length_singleton] at hlen
        refine Own.append hO hS (Own.src hO4 hS) (by simp; omega) (by decide) ?_
        intro x5 w5 I5 hO5 hS
        have h5n := hO5.n
        refine ⟨_, rfl, ?_⟩
        refine go_ix hx (by omega) (by omega) ?_
        refine ld_int (hx.mono hS.sub) (by omega) (by omega) ?_
        have ee : e - 1 + 1 = e := by omega
        intro b0 b1
        have hC' := ChainTo.snoc (ws := ws) (s := s) (h := n) (a := e - 1) (by rw [ee]; exact hC)
        rw [ee] at hC' o2
        refine ⟨nth ws e / 4, ⟨by decide, by rw [tdiv4 o2]; exact wrap_i64 (by omega) (by omega)⟩, ⟨s ++ [e - 1], I5, hO5, hS.to, hC', List.nodup_append.2 ⟨hd, by simp, fun a ha b hb => by rw [List.mem_singleton.1 hb]; exact fun e => hns (e ▸ ha)⟩, ?_, ⟨by omega, by omega⟩⟩, ?_⟩
        · intro a ha
          rcases List.mem_append.1 ha with ha | ha
          · exact hsub a ha
          · rw [List.mem_singleton.1 ha]; exact hm
        · simp only [List.length_append, List.length_singleton] at h5n
          omega
    · have hq : decide (n9 ∈ list) = false := decide_eq_false fun h => hm (hm9.1 h)
      rw [hq]
      refine ⟨0, fun h => (by cases h), false, fun h => (by cases h), fun _ => ?_, fun h => (by cases h)⟩
      exact ⟨vt ⟨fun h => (by cases h), fun h => absurd h (chain_stop hC hsub hnn hi (.inl hm))⟩, hS.sub⟩
  · simp only [decide_eq_true_eq, decide_eq_false_iff_not, Bool.and_eq_true, Bool.and_eq_false_iff, Bool.or_eq_true, Bool.or_eq_false_iff, Bool.not_eq_true', Bool.not_eq_false', Bool.not_true, Bool.not_false, Bool.false_eq_true, Bool.true_eq_false, Int.not_lt, Int.not_le, ge_iff_le, gt_iff_lt, Bool.not_eq_eq_eq_not, Bool.true_or, Bool.or_true, Bool.false_or, Bool.or_false, Bool.true_and, Bool.and_true, false_or, or_false, true_and, and_true, Decidable.not_not] at hi
    subst hi
    refine ⟨vt ?_, hS.sub⟩
    rw [chain_end hC hd hsub hnn]
    simp only [decide_eq_true_eq, decide_eq_false_iff_not, Bool.and_eq_true, Bool.and_eq_false_iff, Bool.or_eq_true, Bool.or_eq_false_iff, Bool.not_eq_true', Bool.not_eq_false', Bool.not_true, Bool.not_false, Bool.false_eq_true, Bool.true_eq_false, Int.not_lt, Int.not_le, ge_iff_le, gt_iff_lt, Bool.not_eq_eq_eq_not, Bool.true_or, Bool.or_true, Bool.false_or, Bool.or_false, Bool.true_and, Bool.and_true, false_or, or_false, true_and, and_true, Decidable.not_not]
    omega
end
end Go.Vc

namespace Go.Vc
open Go Go.Proofs Go.RowKit
set_option linter.all false
section
variable {u v w : World} {x y xf s t : Sl} {l ws fs ad list : List Int} {h g : List CellD} {m : MemD} {b n k f e : Int} {N i : Nat} {a : Addr} {I J K L R R1 : Items} {F F1 : Items → Items}

theorem OwnD.of_nil {x : Sl} {I : Items} (hO : Own u x ([] : List CellD) I) : OwnD x ([] : List CellD) I := by
  obtain ⟨rows, k1, k2, k3⟩ := hO
  have e : rows = [] := List.eq_nil_of_length_eq_zero (by simpa using k2.1)
  subst e
  exact ⟨[], I, [], [], k1, by simp, by simp, fun i r a K h => by simp at h, by simp, by simp⟩

theorem c_cellsOf (hx : Read v x ws) (hy : Read v y ad) (hok : ∀ q ∈ ad, 0 ≤ q ∧ okA ws q) :
    Mk Try.prog 67 #[x.val, y.val] v fun r J => ∃ z : Sl, r = .tuple #[z.val, .bool (@decide (cOk ws ad) (Classical.propDecidable _))] ∧ (cOk ws ad → OwnD z (cellsL ws ad) J) := by
  have bad : ¬ cOk ws ad → ∀ w I, St v w (I ++ []) → ∃ J, St v w J ∧ ∃ z : Sl, Value.tuple #[.slice none 0 0, .bool false] = .tuple #[z.val, .bool (@decide (cOk ws ad) (Classical.propDecidable _))] ∧ (cOk ws ad → OwnD z (cellsL ws ad) J) :=
    fun hh w I hS => ⟨I, by simpa using hS, ⟨none, 0, 0⟩, by rw [@decide_eq_false _ (Classical.propDecidable _) hh]; rfl, fun h => absurd h hh⟩
  refine of67 _ _ _ _ ?_
  unfold vc67
  have hxn := hx.n
  have hxl := hx.le
  have hyn := hy.n
  have hyl := hy.le
  refine St.build (α := CellD) (.refl v) (by (repeat' (first | exact VsOf.nil | apply VsOf.cons | (apply VOf.int; first | assumption | (constructor <;> first | omega | (simp only [List.length_set, List.length_append, List.length_replicate, List.length_cons, List.length_nil, List.length_take, List.length_drop, List.length_map, List.length_singleton] at *; omega))) | exact VOf.bool | exact VOf.str))) rfl (by decide) ?_
  intro z w1 I1 hO hS hs
  refine ⟨_, rfl, ?_⟩
  refine ⟨fun z i w => ∃ I, OwnD z ((ad.take i.toNat).map (cellA ws ad)) I ∧ St v w (I ++ []) ∧ 0 ≤ i ∧ i ≤ ad.length ∧ ∀ a ∈ ad.take i.toNat, fOk ws ad a, fun _ i _ => (ad.length - i).toNat, ⟨I1, OwnD.of_nil hO, hS, by omega, by omega, by simp⟩, ?_⟩
  clear hO hS
  rintro z i w ⟨I, hO, hS, h0, h1, h2⟩
  dsimp only
  refine ⟨fun hi => ?_, fun hi => ?_⟩
  · simp only [decide_eq_true_eq, decide_eq_false_iff_not, Bool.and_eq_true, Bool.and_eq_false_iff, Bool.or_eq_true, Bool.or_eq_false_iff, Bool.not_eq_true', Bool.not_eq_false', Bool.not_true, Bool.not_false, Bool.false_eq_true, Bool.true_eq_false, Int.not_lt, Int.not_le, ge_iff_le, gt_iff_lt, Bool.not_eq_eq_eq_not, Bool.true_or, Bool.or_true, Bool.false_or, Bool.or_false, Bool.true_and, Bool.and_true, false_or, or_false, true_and, and_true, Decidable.not_not] at hi
    have hm := nth_mem (l := ad) h0 (by omega)
    have htk := take_nth (l := ad) h0 (by omega)
    obtain ⟨o0, o1, o2, o3, o4⟩ := hok _ hm
    refine go_ix hy h0 (by omega) ?_
    refine ld_int (hy.mono hS.sub) h0 (by omega) ?_
    intro b0 b1
    generalize hq : nth ad i = q at *
    have hsb := szA_b ws q
    have hfl := fieldsA_len ws q
    unfold nxtA at o4
    refine St.build (α := Int) hS (by (repeat' (first | exact VsOf.nil | apply VsOf.cons | (apply VOf.int; first | assumption | (constructor <;> first | omega | (simp only [List.length_set, List.length_append, List.length_replicate, List.length_cons, List.length_nil, List.length_take, List.length_drop, List.length_map, List.length_singleton] at *; omega))) | exact VOf.bool | exact VOf.str))) rfl (by decide) ?_
    intro y2 w2 I2 hF hS hs
    refine ⟨_, rfl, ?_⟩
    refine ⟨fun xf k w => ∃ G, Own v xf (((fieldsA ws q).take k.toNat).map (mapW ad)) G ∧ St v w (G ++ (I ++ [])) ∧ 0 ≤ k ∧ k ≤ szA ws q ∧ ∀ f ∈ (fieldsA ws q).take k.toNat, (1000 ≤ f → f - 1000 ∈ ad) ∧ (nth ws q = 0 → f = 0), fun _ k _ => (szA ws q - k).toNat, ⟨I2, by simpa using hF, hS, by omega, by omega, by simp⟩, ?_⟩
    clear hF hS
    rintro xf k w ⟨G, hF, hS, k0, k1, h3⟩
    dsimp only
    have hfn := hF.n
    refine ⟨_, c_sizeAt (hx.mono hS.sub) o0 (by omega) o3, fun hk => ?_, fun hk => ?_⟩
    · simp only [decide_eq_true_eq, decide_eq_false_iff_not, Bool.and_eq_true, Bool.and_eq_false_iff, Bool.or_eq_true, Bool.or_eq_false_iff, Bool.not_eq_true', Bool.not_eq_false', Bool.not_true, Bool.not_false, Bool.false_eq_true, Bool.true_eq_false, Int.not_lt, Int.not_le, ge_iff_le, gt_iff_lt, Bool.not_eq_eq_eq_not, Bool.true_or, Bool.or_true, Bool.false_or, Bool.or_false, Bool.true_and, Bool.and_true, false_or, or_false, true_and, and_true, Decidable.not_not] at hk
      have htf := take_nth (l := fieldsA ws q) k0 (by omega)
      have hnf := nth_fieldsA (ws := ws) (a := q) k0 hk
      refine go_wr (by omega) (by omega) ?_
      refine go_wr (by omega) (by omega) ?_
      refine go_ix hx (by omega) (by omega) ?_
      refine ld_int (hx.mono hS.sub) (by omega) (by omega) ?_
      rw [← hnf]
      have hmf := nth_mem (l := fieldsA ws q) k0 (by omega)
      intro c0 c1
      generalize hf : nth (fieldsA ws q) k = f at *
      refine ⟨_, _, c_mapped (hy.mono hS.sub) ⟨c0, c1⟩, fun _ => hx.ix o0 (by omega), nth ws q, fun _ => ((hx.mono hS.sub).int o0 (by omega)).1, fun hc => ?_, fun hc => ?_⟩
      · refine bad (fun hco => ?_) w (G ++ I) (hS.perm (by simp))
        obtain ⟨g1, g2⟩ := hco q hm f hmf
        rw [decide_eq_true g1] at hc
        simp only [decide_eq_true_eq, decide_eq_false_iff_not, Bool.and_eq_true, Bool.and_eq_false_iff, Bool.or_eq_true, Bool.or_eq_false_iff, Bool.not_eq_true', Bool.not_eq_false', Bool.not_true, Bool.not_false, Bool.false_eq_true, Bool.true_eq_false, Int.not_lt, Int.not_le, ge_iff_le, gt_iff_lt, Bool.not_eq_eq_eq_not, Bool.true_or, Bool.or_true, Bool.false_or, Bool.or_false, Bool.true_and, Bool.and_true, false_or, or_false, true_and, and_true, Decidable.not_not] at hc
        have := g2 hc.1
        rw [this, mapW_int (by omega)] at hc
        exact hc.2 rfl
      · have hc' : (1000 ≤ f → f - 1000 ∈ ad) ∧ (nth ws q = 0 → f = 0) := by
          simp only [decide_eq_true_eq, decide_eq_false_iff_not, Bool.and_eq_true, Bool.and_eq_false_iff, Bool.or_eq_true, Bool.or_eq_false_iff, Bool.not_eq_true', Bool.not_eq_false', Bool.not_true, Bool.not_false, Bool.false_eq_true, Bool.true_eq_false, Int.not_lt, Int.not_le, ge_iff_le, gt_iff_lt, Bool.not_eq_eq_eq_not, Bool.true_or, Bool.or_true, Bool.false_or, Bool.or_false, Bool.true_and, Bool.and_true, false_or, or_false, true_and, and_true, Decidable.not_not] at hc
          refine ⟨hc.1, fun hz => ?_⟩
          rcases hc.2 with h | h
          · exact absurd hz h
          · by_cases hp : 1000 ≤ f
            · rw [mapW_ptr hp] at h
              have := (idxI_mem (hc.1 hp)).1
              omega
            · rw [mapW_int hp] at h; exact h
        have hmI : InI (mapW ad f) := by
          by_cases hp : 1000 ≤ f
          · rw [mapW_ptr hp]
            have := idxI_mem (hc'.1 hp)
            exact ⟨by omega, by omega⟩
          · rw [mapW_int hp]; exact ⟨c0, c1⟩
        refine St.build (α := Int) (l := [mapW ad f]) hS (VsOf.cons (VOf.int hmI) VsOf.nil) rfl (by decide) ?_
        intro x4 w4 I4 hO4 hS hs
        refine ⟨_, rfl, ?_⟩
        refine Own.append hF hS (Own.src hO4 hS) (by simp; omega) (by decide) ?_
        intro x5 w5 I5 hO5 hS
        refine ⟨_, rfl, ?_⟩
        refine go_wr (by omega) (by omega) ?_
        refine ⟨⟨I5, ?_, hS.to, by omega, by omega, ?_⟩, by omega⟩
        · rw [htf, List.map_append]; exact hO5
        · rw [htf]; intro g hg
          rcases List.mem_append.1 hg with hg | hg
          · exact h3 g hg
          · rw [List.mem_singleton.1 hg]; exact hc'
    · simp only [decide_eq_true_eq, decide_eq_false_iff_not, Bool.and_eq_true, Bool.and_eq_false_iff, Bool.or_eq_true, Bool.or_eq_false_iff, Bool.not_eq_true', Bool.not_eq_false', Bool.not_true, Bool.not_false, Bool.false_eq_true, Bool.true_eq_false, Int.not_lt, Int.not_le, ge_iff_le, gt_iff_lt, Bool.not_eq_eq_eq_not, Bool.true_or, Bool.or_true, Bool.false_or, Bool.or_false, Bool.true_and, Bool.and_true, false_or, or_false, true_and, and_true, Decidable.not_not] at hk
      rw [take_all (by omega)] at hF h3
      have hfo : fOk ws ad q := h3
      have hall : ∀ a ∈ ad.take (i + 1).toNat, fOk ws ad a := by
        rw [htk]; intro a ha
        rcases List.mem_append.1 ha with ha | ha
        · exact h2 a ha
        · rw [List.mem_singleton.1 ha]; exact hfo
      refine go_ix hx o0 (by omega) ?_
      refine ld_int (hx.mono hS.sub) o0 (by omega) ?_
      intro c0 c1
      refine ⟨fun hz => ?_, fun hz => ?_⟩
      · simp only [decide_eq_true_eq, decide_eq_false_iff_not, Bool.and_eq_true, Bool.and_eq_false_iff, Bool.or_eq_true, Bool.or_eq_false_iff, Bool.not_eq_true', Bool.not_eq_false', Bool.not_true, Bool.not_false, Bool.false_eq_true, Bool.true_eq_false, Int.not_lt, Int.not_le, ge_iff_le, gt_iff_lt, Bool.not_eq_eq_eq_not, Bool.true_or, Bool.or_true, Bool.false_or, Bool.or_false, Bool.true_and, Bool.and_true, false_or, or_false, true_and, and_true, Decidable.not_not] at hz
        refine St.build (α := Int) hS (by (repeat' (first | exact VsOf.nil | apply VsOf.cons | (apply VOf.int; first | assumption | (constructor <;> first | omega | (simp only [List.length_set, List.length_append, List.length_replicate, List.length_cons, List.length_nil, List.length_take, List.length_drop, List.length_map, List.length_singleton] at *; omega))) | exact VOf.bool | exact VOf.str))) rfl (by decide) ?_
        intro x4 w4 I4 hO4 hS hs
        refine ⟨_, rfl, ?_⟩
        refine St.buildR hS ?_ ?_ ?_ ?_
        · simp [Value.cells]
        · rfl
        · decide
        intro x3 w3 I3 hB hS hs _
        refine ⟨_, rfl, ?_⟩
        refine OwnD.push' (a := free0) hO hS (hB.rd hS.items) ⟨x4, rfl, zero_in, zero_in, hO4.toAll⟩ (by simp; omega) (by decide) ?_
        intro x5 w5 I5 hO5 hS
        refine ⟨_, rfl, ?_⟩
        refine go_wr (by omega) (by omega) ?_
        refine ⟨⟨I5, ?_, hS.to, by omega, by omega, hall⟩, by omega⟩
        rw [htk, List.map_append, List.map_singleton, cellA_free hz]; exact hO5
      · simp only [decide_eq_true_eq, decide_eq_false_iff_not, Bool.and_eq_true, Bool.and_eq_false_iff, Bool.or_eq_true, Bool.or_eq_false_iff, Bool.not_eq_true', Bool.not_eq_false', Bool.not_true, Bool.not_false, Bool.false_eq_true, Bool.true_eq_false, Int.not_lt, Int.not_le, ge_iff_le, gt_iff_lt, Bool.not_eq_eq_eq_not, Bool.true_or, Bool.or_true, Bool.false_or, Bool.or_false, Bool.true_and, Bool.and_true, false_or, or_false, true_and, and_true, Decidable.not_not] at hz
        refine go_ix hx o0 (by omega) ?_
        refine ld_int (hx.mono hS.sub) o0 (by omega) ?_
        intro c2 c3
        refine go_wr (by omega) (by omega) ?_
        refine go_ix hx (by omega) (by omega) ?_
        refine ld_int (hx.mono hS.sub) (by omega) (by omega) ?_
        intro c4 c5
        refine ⟨nth ws (q + 1) / 4, ⟨by decide, by rw [tdiv4 o3]; exact wrap_i64 (by omega) (by omega)⟩, ?_⟩
        refine St.buildR hS ?_ ?_ ?_ ?_
        · simp [Value.cells]
        · rfl
        · decide
        intro x3 w3 I3 hB hS hs _
        refine ⟨_, rfl, ?_⟩
        refine OwnD.push' (J := G) (a := cellA ws ad q) hO hS (hB.rd hS.items) ?_ (by simp; omega) (by decide) ?_
        · rw [cellA_live hz]
          exact ⟨xf, rfl, ⟨c0, c1⟩, ⟨by show _ ≤ nth ws (q + 1) / 4; omega, by show nth ws (q + 1) / 4 ≤ _; omega⟩, hF.toAll⟩
        intro x5 w5 I5 hO5 hS
        refine ⟨_, rfl, ?_⟩
        refine go_wr (by omega) (by omega) ?_
        refine ⟨⟨I5, ?_, hS.to, by omega, by omega, hall⟩, by omega⟩
        rw [htk, List.map_append, List.map_singleton]; exact hO5
  · simp only [decide_eq_true_eq, decide_eq_false_iff_not, Bool.and_eq_true, Bool.and_eq_false_iff, Bool.or_eq_true, Bool.or_eq_false_iff, Bool.not_eq_true', Bool.not_eq_false', Bool.not_true, Bool.not_false, Bool.false_eq_true, Bool.true_eq_false, Int.not_lt, Int.not_le, ge_iff_le, gt_iff_lt, Bool.not_eq_eq_eq_not, Bool.true_or, Bool.or_true, Bool.false_or, Bool.or_false, Bool.true_and, Bool.and_true, false_or, or_false, true_and, and_true, Decidable.not_not] at hi
    rw [take_all (by omega)] at hO h2
    exact ⟨I, by simpa using hS, z, by rw [@decide_eq_true (cOk ws ad) (Classical.propDecidable _) h2], fun _ => hO⟩

theorem c_validMemory (hx : Read v x m.words) (hy : Read v y m.free) : Fn Try.prog 34 #[.agg #[x.val, y.val]] v (.bool (vmemB m)) := by
  have vf : ¬ vmem m → Value.bool false = .bool (vmemB m) := fun hh => by rw [vmemB_f hh]
  refine of34 _ _ _ _ ?_
  unfold vc34
  have hxn := hx.n
  have hxl := hx.le
  have hyn := hy.n
  refine Mk.use (c_addressesOf hx) (.refl v) ?_
  rintro _ w1 J1 ⟨z, rfl, hZ⟩ hS hsub
  refine ⟨_, _, rfl, fun hc => ?_, fun hc => ?_⟩
  · refine ⟨vf fun ⟨N, hV⟩ => ?_, hS.sub⟩
    rw [hasB_t hV.blocks] at hc
    have := hV.four
    simp at hc
    omega
  simp only [decide_eq_true_eq, decide_eq_false_iff_not, Bool.and_eq_true, Bool.and_eq_false_iff, Bool.or_eq_true, Bool.or_eq_false_iff, Bool.not_eq_true', Bool.not_eq_false', Bool.not_true, Bool.not_false, Bool.false_eq_true, Bool.true_eq_false, Int.not_lt, Int.not_le, ge_iff_le, gt_iff_lt, Bool.not_eq_eq_eq_not, Bool.true_or, Bool.or_true, Bool.false_or, Bool.or_false, Bool.true_and, Bool.and_true, false_or, or_false, true_and, and_true, Decidable.not_not] at hc
  obtain ⟨N, hb⟩ := hasB_iff.1 hc.1
  replace hZ := hZ hc.1
  rw [adrs_eq hb] at hZ
  have hok : ∀ q ∈ adr m.words N, 0 ≤ q ∧ okA m.words q := fun q hq => ⟨adr_nn hq, hb.ok hq⟩
  have hok2 : ∀ k, ∀ q ∈ freeA m.words (adr m.words N) k, 0 ≤ q ∧ q + 2 ≤ m.words.length ∧ 0 ≤ nth m.words (q + 1) := fun k q hq => by
    obtain ⟨o0, o1, o2, o3, o4⟩ := hok q (freeA_mem.1 hq).1
    exact ⟨o0, o1, o3⟩
  have uniq : ∀ {N'}, VM m N' → VM m N := fun hV => by rw [hb.unique hV.blocks]; exact hV
  refine Mk.usew (c_cellsOf (hx.mono hS.sub) (Own.read hZ hS) hok) hS ?_
  rintro _ w2 J2 ⟨c, rfl, hC⟩ hS hsub2
  refine ⟨_, _, rfl, fun hc2 => ?_, fun hc2 => ?_⟩
  · have hco : cOk m.words (adr m.words N) := by simpa using hc2
    replace hC := hC hco
    refine Trip.mono' (c_trim hC hS) ?_
    rintro _ w3 ⟨c3, rfl, hC3, hS⟩
    refine ⟨_, rfl, _, c_validHeap (OwnD.read hC3 hS), fun hv => ?_, fun hv => ?_⟩
    · refine ⟨vf fun ⟨N', hV⟩ => ?_, hS.sub⟩
      rw [vheapB_iff.2 (uniq hV).heap] at hv; cases hv
    simp only [decide_eq_true_eq, decide_eq_false_iff_not, Bool.and_eq_true, Bool.and_eq_false_iff, Bool.or_eq_true, Bool.or_eq_false_iff, Bool.not_eq_true', Bool.not_eq_false', Bool.not_true, Bool.not_false, Bool.false_eq_true, Bool.true_eq_false, Int.not_lt, Int.not_le, ge_iff_le, gt_iff_lt, Bool.not_eq_eq_eq_not, Bool.true_or, Bool.or_true, Bool.false_or, Bool.or_false, Bool.true_and, Bool.and_true, false_or, or_false, true_and, and_true, Decidable.not_not] at hv
    have hvh := vheapB_iff.1 hv
    refine ⟨fun k w => St v w (J2 ++ (J1 ++ [])) ∧ 0 ≤ k ∧ k ≤ 4 ∧ ∀ j : Int, 0 ≤ j → j < k → chainOk m.words (nth m.free j) (freeA m.words (adr m.words N) j), fun k _ => (4 - k).toNat, ⟨hS, by omega, by omega, fun j j0 j1 => by omega⟩, ?_⟩
    clear hS
    rintro k w ⟨hS, k0, k1, h3⟩
    dsimp only
    refine ⟨fun hk => ?_, fun hk => ?_⟩
    · simp only [decide_eq_true_eq, decide_eq_false_iff_not, Bool.and_eq_true, Bool.and_eq_false_iff, Bool.or_eq_true, Bool.or_eq_false_iff, Bool.not_eq_true', Bool.not_eq_false', Bool.not_true, Bool.not_false, Bool.false_eq_true, Bool.true_eq_false, Int.not_lt, Int.not_le, ge_iff_le, gt_iff_lt, Bool.not_eq_eq_eq_not, Bool.true_or, Bool.or_true, Bool.false_or, Bool.or_false, Bool.true_and, Bool.and_true, false_or, or_false, true_and, and_true, Decidable.not_not] at hk
      refine go_ix hy k0 (by omega) ?_
      refine ld_int (hy.mono hS.sub) k0 (by omega) ?_
      intro b0 b1
      refine Mk.usew (c_freeOf (k := k) (hx.mono hS.sub) (Own.read hZ hS) (fun q hq => by obtain ⟨o0, o1, o2, o3, o4⟩ := hok q hq; exact ⟨o0, o1, o3⟩)) hS ?_
      rintro _ w4 J4 ⟨s, rfl, hF⟩ hS hsub4
      replace hF : Own v s (freeA m.words (adr m.words N) k) J4 := hF.ofInts
      refine ⟨_, rfl, hsub4, _, c_chainOf (hx.mono hS.sub) (Own.read hF hS) ⟨b0, b1⟩ (hok2 k), fun hq => ?_, fun hq => ?_⟩
      · refine ⟨vf fun ⟨N', hV⟩ => ?_, hS.sub⟩
        rw [@decide_eq_true _ (Classical.propDecidable _) ((uniq hV).chains k k0 (by omega))] at hq; cases hq
      · have hch : chainOk m.words (nth m.free k) (freeA m.words (adr m.words N) k) := by simpa using hq
        refine go_wr (by omega) (by omega) ?_
        refine ⟨rfl, rfl, ⟨hS.to, by omega, by omega, fun j j0 j1 => ?_⟩, by omega⟩
        by_cases e : j = k
        · rw [e]; exact hch
        · exact h3 j j0 (by omega)
    · simp only [decide_eq_true_eq, decide_eq_false_iff_not, Bool.and_eq_true, Bool.and_eq_false_iff, Bool.or_eq_true, Bool.or_eq_false_iff, Bool.not_eq_true', Bool.not_eq_false', Bool.not_true, Bool.not_false, Bool.false_eq_true, Bool.true_eq_false, Int.not_lt, Int.not_le, ge_iff_le, gt_iff_lt, Bool.not_eq_eq_eq_not, Bool.true_or, Bool.or_true, Bool.false_or, Bool.or_false, Bool.true_and, Bool.and_true, false_or, or_false, true_and, and_true, Decidable.not_not] at hk
      exact ⟨by rw [vmemB_iff.2 ⟨N, hb, by omega, hco, hvh, fun j j0 j1 => h3 j j0 (by omega)⟩], hS.sub⟩
  · refine ⟨vf fun ⟨N', hV⟩ => ?_, hS.sub⟩
    rw [@decide_eq_true _ (Classical.propDecidable _) (uniq hV).fields] at hc2; cases hc2
end
end Go.Vc

namespace Go.Vc
open Go Go.Proofs Go.RowKit
set_option linter.all false

/-- the map from addresses to indices -/
def ixE (ws : List Int) (n : Nat) : List (Int × Value) := (List.range n).map fun (j : Nat) => (posA ws j, Value.int .i64 (j : Int))
/-- the map of what was met -/
def liE (s : List Int) : List (Int × Value) := s.map fun a => (a, Value.bool true)
def blkB (ws ad : List Int) (n : Int) : Bool := decide (1000 ≤ n ∧ n - 1000 ∈ ad ∧ 0 < nth ws (n - 1000))
def blkI (ws ad : List Int) (n : Int) : Int := if blkB ws ad n then idxI ad (n - 1000) else 0

section
variable {ws ad s : List Int} {n i : Nat} {k x a : Int}
theorem lookI_append (k : Int) : ∀ (p q : List (Int × Value)), lookI k (p ++ q) = (lookI k p).or (lookI k q)
  | [], q => by simp [lookI]
  | (j, v) :: p, q => by
    simp only [List.cons_append, lookI]
    split
    · simp
    · exact lookI_append k p q
theorem ixE_succ : ixE ws (n + 1) = ixE ws n ++ [(posA ws n, Value.int .i64 (n : Int))] := by simp [ixE, List.range_succ]
theorem look_ix : lookI k (ixE ws n) = if k ∈ adr ws n then some (Value.int .i64 (idxI (adr ws n) k)) else none := by
  induction n with
  | zero => simp [ixE, adr, lookI]
  | succ n ih =>
    rw [ixE_succ, lookI_append, ih]
    by_cases h1 : k ∈ adr ws n
    · rw [if_pos h1, if_pos (by rw [adr_succ]; exact List.mem_append_left _ h1)]
      obtain ⟨i, hi, rfl⟩ := mem_adr.1 h1
      rw [idxI_adr hi, idxI_adr (by omega)]; rfl
    · rw [if_neg h1]
      simp only [Option.none_or, lookI]
      by_cases h2 : k = posA ws n
      · rw [if_pos h2, if_pos (by rw [adr_succ, h2]; simp), h2, idxI_adr (by omega)]
      · rw [if_neg h2, if_neg]
        rw [adr_succ]; simp [h1, h2]
theorem liE_snoc : liE (s ++ [a]) = liE s ++ [(a, Value.bool true)] := by simp [liE]
theorem look_li : lookI k (liE s) = if k ∈ s then some (Value.bool true) else none := by
  induction s with
  | nil => simp [liE, lookI]
  | cons b r ih =>
    show lookI k ((b, Value.bool true) :: liE r) = _
    unfold lookI
    by_cases h : k = b
    · rw [if_pos h, if_pos (by simp [h])]
    · rw [if_neg h, ih]; simp [h]
end

section
variable {u v w : World} {x y xf s t : Sl} {mp : Vl} {l ws fs ad list : List Int} {h g : List CellD} {m : MemD} {b n k f e : Int} {N i : Nat} {a : Addr} {I J K L R R1 : Items} {F F1 : Items → Items}

theorem c_indexFunc0 {p : Int → Bool} {f : Nat} (hx : Read v x l) (hf : ∀ w, Sub v w → ∀ n ∈ l, Trip Try.prog f #[.int .i64 n] w fun r w' => r = .bool (p n) ∧ Sub w w') :
    Trip Try.prog 83 #[x.val, .func (.func f) #[] #[]] v fun r w' => (∃ k : Int, r = .int .i64 k ∧ (0 ≤ k ↔ ∃ n ∈ l, p n = true)) ∧ Sub v w' := by
  refine of83z _ _ _ _ ?_
  unfold vc83z
  have hn := hx.n
  have hl := hx.le
  refine ⟨fun i w => Sub v w ∧ 0 ≤ i ∧ i ≤ l.length ∧ ∀ n ∈ l.take i.toNat, p n = false, fun i _ => (l.length - i).toNat, ⟨.refl v, by omega, by omega, by simp⟩, ?_⟩
  rintro i w ⟨hs, h0, h1, h2⟩
  dsimp only
  refine ⟨fun hi => ?_, fun hi => ?_⟩
  · simp only [decide_eq_true_eq, decide_eq_false_iff_not, Bool.and_eq_true, Bool.and_eq_false_iff, Bool.or_eq_true, Bool.or_eq_false_iff, Bool.not_eq_true', Bool.not_eq_false', Bool.not_true, Bool.not_false, Bool.false_eq_true, Bool.true_eq_false, Int.not_lt, Int.not_le, ge_iff_le, gt_iff_lt, Bool.not_eq_eq_eq_not, Bool.true_or, Bool.or_true, Bool.false_or, Bool.or_false, Bool.true_and, Bool.and_true, false_or, or_false, true_and, and_true, Decidable.not_not] at hi
    refine go_ix hx h0 (by omega) ?_
    refine ld_int (hx.mono hs) h0 (by omega) ?_
    intro a0 a1
    have hm := nth_mem (l := l) h0 (by omega)
    refine Trip.mono' (hf w hs _ hm) ?_
    rintro _ w2 ⟨rfl, hs2⟩
    refine ⟨_, rfl, fun hq => ⟨⟨i, rfl, fun _ => ⟨_, hm, hq⟩, fun _ => h0⟩, hs.trans hs2⟩, fun hq => ?_⟩
    refine go_wr (by omega) (by omega) ?_
    refine ⟨⟨hs.trans hs2, by omega, by omega, ?_⟩, by omega⟩
    rw [take_nth h0 (by omega)]; intro n hn
    rcases List.mem_append.1 hn with hn | hn
    · exact h2 n hn
    · rw [List.mem_singleton.1 hn]; exact hq
  · simp only [decide_eq_true_eq, decide_eq_false_iff_not, Bool.and_eq_true, Bool.and_eq_false_iff, Bool.or_eq_true, Bool.or_eq_false_iff, Bool.not_eq_true', Bool.not_eq_false', Bool.not_true, Bool.not_false, Bool.false_eq_true, Bool.true_eq_false, Int.not_lt, Int.not_le, ge_iff_le, gt_iff_lt, Bool.not_eq_eq_eq_not, Bool.true_or, Bool.or_true, Bool.false_or, Bool.or_false, Bool.true_and, Bool.and_true, false_or, or_false, true_and, and_true, Decidable.not_not] at hi
    rw [take_all (by omega)] at h2
    refine ⟨⟨-1, rfl, fun h => by omega, fun ⟨n, hn, hp⟩ => by rw [h2 n hn] at hp; cases hp⟩, hs⟩
theorem c_implAllZero (hx : Read v x l) : Fn Try.prog 65 #[x.val] v (.bool (decide (∀ n ∈ l, n = 0))) := by
  refine of65 _ _ _ ?_
  unfold vc65
  refine of78z _ _ _ _ ?_
  unfold vc78z
  refine Trip.mono' (c_indexFunc0 (p := fun n => !decide (n = 0)) hx fun w hs n hn => ?_) ?_
  · refine of79 _ _ _ ?_
    exact ⟨rfl, .refl w⟩
  rintro _ w1 ⟨⟨k, rfl, hk⟩, hs⟩
  refine ⟨_, rfl, _, rfl, ?_, hs⟩
  congr 1
  rw [Bool.eq_iff_iff]
  simp only [ge_iff_le, Bool.not_eq_true', decide_eq_false_iff_not, decide_eq_true_eq]
  rw [hk]
  constructor
  · intro h n hn
    exact Classical.byContradiction fun hne => h ⟨n, hn, by simp [hne]⟩
  · rintro h ⟨n, hn, hp⟩
    simp [h n hn] at hp

theorem zeroInt (w : World) : (zeroValue 3).run Try.prog w = .ok (.int .i64 0) w := by kernel_rfl
theorem zeroBool (w : World) : (zeroValue 4).run Try.prog w = .ok (.bool false) w := by kernel_rfl
theorem mapTI : Try.prog.underlying 50 = some (.map 3 3) := by kernel_rfl
theorem mapTB : Try.prog.underlying 96 = some (.map 3 4) := by kernel_rfl
theorem intT : Try.prog.underlying 3 = some (.int .i64) := by kernel_rfl

theorem c_liveBlock (hx : Read v x g) (hM : MpR v mp (ixE ws N)) (hg : g.length = N) (hc : ∀ j : Nat, j < N → (nth g (j : Int)).count = nth ws (posA ws j)) (h0 : ∀ j : Nat, j < N → 0 ≤ nth ws (posA ws j)) (hb : ∀ q ∈ adr ws N, q < 1099511627776) (hn : InI n) :
    Fn Try.prog 31 #[.agg #[x.val, mp.x], .int .i64 n] v (.tuple #[.int .i64 (blkI ws (adr ws N) n), .bool (blkB ws (adr ws N) n)]) := by
  refine of31 _ _ _ _ _ ?_
  unfold vc31
  refine go_at ?_
  refine go_look2 hM mapTI intT zeroInt ?_
  rw [look_ix]
  by_cases hm : atI n ∈ adr ws N
  · obtain ⟨p0, p1, p2⟩ := idxI_mem hm
    rw [adr_len] at p1
    have hq := hb _ hm
    have hq0 := adr_nn hm
    obtain ⟨j, hj, ej⟩ := mem_adr.1 hm
    have eidx : idxI (adr ws N) (atI n) = j := by rw [ej, idxI_adr hj]
    have hcj := hc j hj
    have h0j := h0 j hj
    rw [if_pos hm]
    refine ⟨_, _, rfl, fun _ => hx.ix p0 (by omega), ?_⟩
    have e1 : (Option.some (Value.int .i64 (idxI (adr ws N) (atI n)))).isSome = true := rfl
    rw [e1]
    by_cases hp : 1000 ≤ n
    · have ea := atI_of hp hn.2
      refine ld_countg (hx.src (.refl v)) (fun _ => ⟨p0, by omega⟩) ?_
      rw [eidx, hcj, ← ej, ea]
      rw [ea] at hm ej
      refine ⟨fun hz => ⟨?_, .refl v⟩, fun hz => ⟨?_, .refl v⟩⟩
      · simp only [decide_eq_true_eq, decide_eq_false_iff_not, Bool.and_eq_true, Bool.and_eq_false_iff, Bool.or_eq_true, Bool.or_eq_false_iff, Bool.not_eq_true', Bool.not_eq_false', Bool.not_true, Bool.not_false, Bool.false_eq_true, Bool.true_eq_false, Int.not_lt, Int.not_le, ge_iff_le, gt_iff_lt, Bool.not_eq_eq_eq_not, Bool.true_or, Bool.or_true, Bool.false_or, Bool.or_false, Bool.true_and, Bool.and_true, false_or, or_false, true_and, and_true, Decidable.not_not] at hz
        have hz' : nth ws (n - 1000) = 0 := by rcases hz with hz | hz; omega; exact hz
        have : blkB ws (adr ws N) n = false := decide_eq_false (fun h => by omega)
        unfold blkI; rw [this]; rfl
      · simp only [decide_eq_true_eq, decide_eq_false_iff_not, Bool.and_eq_true, Bool.and_eq_false_iff, Bool.or_eq_true, Bool.or_eq_false_iff, Bool.not_eq_true', Bool.not_eq_false', Bool.not_true, Bool.not_false, Bool.false_eq_true, Bool.true_eq_false, Int.not_lt, Int.not_le, ge_iff_le, gt_iff_lt, Bool.not_eq_eq_eq_not, Bool.true_or, Bool.or_true, Bool.false_or, Bool.or_false, Bool.true_and, Bool.and_true, false_or, or_false, true_and, and_true, Decidable.not_not] at hz
        rw [← ej] at h0j
        have : blkB ws (adr ws N) n = true := decide_eq_true ⟨hp, hm, by omega⟩
        unfold blkI
        rw [this, if_pos rfl, ← ea, eidx]
    · exfalso
      rcases atI_neg (n := n) (by omega) hn.1 with h | h <;> omega
  · rw [if_neg hm]
    refine ⟨0, false, rfl, fun h => (by cases h), 0, fun h => (by cases h), fun _ => ⟨?_, .refl v⟩, fun h => (by cases h)⟩
    have : blkB ws (adr ws N) n = false := decide_eq_false (fun h => by
      rw [atI_of h.1 hn.2] at hm
      exact hm h.2.1)
    unfold blkI; rw [this]; rfl
end
end Go.Vc

namespace Go.Vc
open Go Go.Proofs Go.RowKit
set_option linter.all false
section
variable {ws ad s q l list : List Int} {n i : Nat} {k x a h e : Int}
theorem Chain.to : ∀ {l : List Int} {h : Int}, Chain ws h l → ChainTo ws h l 0
  | [], h, hc => hc
  | b :: s, h, hc => ⟨hc.1, Chain.to hc.2⟩
theorem full_sub (hq : q.Nodup) (hs : ∀ a ∈ q, a ∈ list) (hl : q.length = list.length) (ha : a ∈ list) : a ∈ q := by
  refine Classical.byContradiction fun hn => ?_
  have := sub_len (s := a :: q) (list := list) (List.nodup_cons.2 ⟨hn, hq⟩) (fun b hb => by
    rcases List.mem_cons.1 hb with hb | hb
    · rw [hb]; exact ha
    · exact hs b hb)
  simp only [List.length_cons] at this
  omega
theorem freeA_nodup (hn : ad.Nodup) : (freeA ws ad k).Nodup := List.Pairwise.filter _ hn

/-- the chains of the sizes below k are walked; s is what was met -/
structure Fv (ws : List Int) (N : Nat) (free : List Int) (k : Int) (s : List Int) : Prop where
  all : ∀ a ∈ s, a ∈ adr ws N ∧ nth ws a = 0 ∧ szA ws a < k
  done : ∀ j : Int, 0 ≤ j → j < k → ∃ q, ChainTo ws (nth free j) q 0 ∧ q.Nodup ∧ (∀ a ∈ q, a ∈ freeA ws (adr ws N) j) ∧ (∀ a ∈ s, szA ws a = j → a ∈ q) ∧ ∀ a ∈ q, a ∈ s
/-- .. and q of the chain of size k -/
structure Fw (ws : List Int) (N : Nat) (free : List Int) (k : Int) (s q : List Int) (e : Int) : Prop where
  fv : Fv ws N free k s
  to : ChainTo ws (nth free k) q e
  nd : q.Nodup
  sub : ∀ a ∈ q, a ∈ freeA ws (adr ws N) k
def fvOk (ws : List Int) (N : Nat) (free : List Int) : Prop := free.length = 4 ∧ ∀ k : Int, 0 ≤ k → k < 4 → chainOk ws (nth free k) (freeA ws (adr ws N) k)

variable {free : List Int} {N : Nat}
theorem freeA_nn : ∀ a ∈ freeA ws (adr ws N) k, 0 ≤ a := fun a ha => adr_nn (freeA_mem.1 ha).1
theorem Fw.stop (W : Fw ws N free k s q e) (k0 : 0 ≤ k) (k1 : k < 4) (he : e ≠ 0) (hb : e - 1 ∉ freeA ws (adr ws N) k ∨ e - 1 ∈ s ++ q) : ¬ fvOk ws N free := by
  intro ⟨_, h2⟩
  by_cases hf : e - 1 ∈ freeA ws (adr ws N) k
  · rcases hb with hb | hb
    · exact hb hf
    · rcases List.mem_append.1 hb with hb | hb
      · have h3 := (W.fv.all _ hb).2.2
        have := (freeA_mem.1 hf).2.2
        omega
      · exact chain_stop W.to W.sub freeA_nn he (.inr hb) (h2 k k0 k1)
  · exact chain_stop W.to W.sub freeA_nn he (.inl hf) (h2 k k0 k1)
theorem Fw.step (W : Fw ws N free k s q (a + 1)) (hf : a ∈ freeA ws (adr ws N) k) (hn : a ∉ s ++ q) : Fw ws N free k s (q ++ [a]) (nth ws (a + 1) / 4) := by
  refine ⟨W.fv, ChainTo.snoc W.to, List.nodup_append.2 ⟨W.nd, by simp, fun b hb c hc e => ?_⟩, fun b hb => ?_⟩
  · rw [List.mem_singleton.1 hc] at e; subst e; exact hn (List.mem_append_right _ hb)
  · rcases List.mem_append.1 hb with hb | hb
    · exact W.sub b hb
    · rw [List.mem_singleton.1 hb]; exact hf
theorem Fw.next (W : Fw ws N free k s q 0) : Fv ws N free (k + 1) (s ++ q) := by
  refine ⟨fun a ha => ?_, fun j j0 j1 => ?_⟩
  · rcases List.mem_append.1 ha with ha | ha
    · obtain ⟨h1, h2, h3⟩ := W.fv.all a ha; exact ⟨h1, h2, by omega⟩
    · obtain ⟨h1, h2, h3⟩ := freeA_mem.1 (W.sub a ha); exact ⟨h1, h2, by omega⟩
  · by_cases e : j = k
    · subst e
      refine ⟨q, W.to, W.nd, W.sub, fun a ha hz => ?_, fun a ha => List.mem_append_right _ ha⟩
      rcases List.mem_append.1 ha with ha | ha
      · have := (W.fv.all a ha).2.2; omega
      · exact ha
    · obtain ⟨p, p1, p2, p3, p4, p5⟩ := W.fv.done j j0 (by omega)
      refine ⟨p, p1, p2, p3, fun a ha hz => ?_, fun a ha => List.mem_append_left _ (p5 a ha)⟩
      rcases List.mem_append.1 ha with ha | ha
      · exact p4 a ha hz
      · have := (freeA_mem.1 (W.sub a ha)).2.2; omega
theorem Fv.good (V : Fv ws N free 4 s) (h4 : free.length = 4) (hall : ∀ a ∈ adr ws N, nth ws a = 0 → a ∈ s) : fvOk ws N free := by
  refine ⟨h4, fun k k0 k1 => ?_⟩
  obtain ⟨q, h1, h2, h3, h5, _⟩ := V.done k k0 k1
  rw [chain_end h1 h2 h3 freeA_nn]
  have hle := sub_len h2 h3
  have := sub_len (freeA_nodup (ws := ws) (k := k) (adr_nodup (ws := ws) (n := N))) (fun a ha => by
    obtain ⟨f1, f2, f3⟩ := freeA_mem.1 ha
    exact h5 a (hall a f1 f2) f3)
  omega
theorem Fv.bad (V : Fv ws N free 4 s) (ha : a ∈ adr ws N) (hz : nth ws a = 0) (hn : a ∉ s) : ¬ fvOk ws N free := by
  intro ⟨_, h2⟩
  have hb := szA_b ws a
  obtain ⟨q, h1, h3, h4, _, h5⟩ := V.done _ hb.1 hb.2
  have hc := h2 _ hb.1 hb.2
  rw [chain_end h1 h3 h4 freeA_nn] at hc
  exact hn (h5 a (full_sub h3 h4 hc (freeA_mem.2 ⟨ha, hz, rfl⟩)))
end

section
variable {u v w : World} {x y xf xg z t : Sl} {mp : Vl} {l ws fs ad list free : List Int} {h g : List CellD} {m : MemD} {b n k f e : Int} {N i : Nat} {a : Addr} {I J K L R R1 : Items} {F F1 : Items → Items}

theorem c_freeValid (hx : Read v x ws) (hy : Read v y free) (hg : Read v xg g) (hM : MpR v mp (ixE ws N)) (hz : Read v z (adr ws N)) (hgl : g.length = N) (hc : ∀ j : Nat, j < N → (nth g (j : Int)).count = nth ws (posA ws j)) (hb : nB ws N) :
    Fn Try.prog 66 #[.agg #[x.val, y.val], .agg #[xg.val, mp.x], z.val] v (.bool (@decide (fvOk ws N free) (Classical.propDecidable _))) := by
  have vf : ¬ fvOk ws N free → Value.bool false = .bool (@decide (fvOk ws N free) (Classical.propDecidable _)) := fun hh => by rw [@decide_eq_false _ (Classical.propDecidable _) hh]
  refine of66 _ _ _ _ _ _ _ ?_
  unfold vc66
  have hxn := hx.n
  have hxl := hx.le
  have hyn := hy.n
  have hzn := hz.n
  have hzl := hz.le
  rw [adr_len] at hzn hzl
  refine ⟨fun h4 => ⟨vf fun h => ?_, .refl v⟩, fun h4 => ?_⟩
  · simp only [decide_eq_true_eq, decide_eq_false_iff_not, Bool.and_eq_true, Bool.and_eq_false_iff, Bool.or_eq_true, Bool.or_eq_false_iff, Bool.not_eq_true', Bool.not_eq_false', Bool.not_true, Bool.not_false, Bool.false_eq_true, Bool.true_eq_false, Int.not_lt, Int.not_le, ge_iff_le, gt_iff_lt, Bool.not_eq_eq_eq_not, Bool.true_or, Bool.or_true, Bool.false_or, Bool.or_false, Bool.true_and, Bool.and_true, false_or, or_false, true_and, and_true, Decidable.not_not] at h4
    have := h.1
    omega
  simp only [decide_eq_true_eq, decide_eq_false_iff_not, Bool.and_eq_true, Bool.and_eq_false_iff, Bool.or_eq_true, Bool.or_eq_false_iff, Bool.not_eq_true', Bool.not_eq_false', Bool.not_true, Bool.not_false, Bool.false_eq_true, Bool.true_eq_false, Int.not_lt, Int.not_le, ge_iff_le, gt_iff_lt, Bool.not_eq_eq_eq_not, Bool.true_or, Bool.or_true, Bool.false_or, Bool.or_false, Bool.true_and, Bool.and_true, false_or, or_false, true_and, and_true, Decidable.not_not] at h4
  have hf4 : free.length = 4 := by omega
  refine go_makeMap (.refl v) ?_
  intro ml w1 I1 hL hS hs
  refine ⟨_, rfl, ?_⟩
  refine ⟨fun k w => ∃ s I, MpO ml (liE s) I ∧ St v w (I ++ []) ∧ 0 ≤ k ∧ k ≤ 4 ∧ Fv ws N free k s, fun k _ => (4 - k).toNat, ⟨[], I1, hL, hS, by omega, by omega, fun a ha => (by cases ha), fun j j0 j1 => by omega⟩, ?_⟩
  clear hL hS
  rintro k w ⟨s, I, hL, hS, k0, k1, V⟩
  dsimp only
  refine ⟨fun hk => ?_, fun hk => ?_⟩
  · simp only [decide_eq_true_eq, decide_eq_false_iff_not, Bool.and_eq_true, Bool.and_eq_false_iff, Bool.or_eq_true, Bool.or_eq_false_iff, Bool.not_eq_true', Bool.not_eq_false', Bool.not_true, Bool.not_false, Bool.false_eq_true, Bool.true_eq_false, Int.not_lt, Int.not_le, ge_iff_le, gt_iff_lt, Bool.not_eq_eq_eq_not, Bool.true_or, Bool.or_true, Bool.false_or, Bool.or_false, Bool.true_and, Bool.and_true, false_or, or_false, true_and, and_true, Decidable.not_not] at hk
    refine go_ix hy k0 (by omega) ?_
    refine ld_int (hy.mono hS.sub) k0 (by omega) ?_
    intro b0 b1
    let Inv : Nat → Int → World → Prop := fun M e w => ∃ q I, MpO ml (liE (s ++ q)) I ∧ St v w (I ++ []) ∧ Fw ws N free k s q e ∧ InI e ∧ M = (freeA ws (adr ws N) k).length - q.length
    refine ⟨fun e w => ∃ M, Inv M e w, fun e w => leastM fun M => Inv M e w, ⟨_, [], I, by simpa using hL, hS, ⟨V, rfl, List.nodup_nil, fun a ha => (by cases ha)⟩, ⟨b0, b1⟩, rfl⟩, ?_⟩
    clear hL hS
    rintro e w hI
    replace hI := leastM_spec hI
    dsimp only
    generalize leastM (fun M => Inv M e w) = M at *
    obtain ⟨q, I, hL, hS, W, he, hM2⟩ := hI
    refine ⟨fun hi => ?_, fun hi => ?_⟩
    · simp only [decide_eq_true_eq, decide_eq_false_iff_not, Bool.and_eq_true, Bool.and_eq_false_iff, Bool.or_eq_true, Bool.or_eq_false_iff, Bool.not_eq_true', Bool.not_eq_false', Bool.not_true, Bool.not_false, Bool.false_eq_true, Bool.true_eq_false, Int.not_lt, Int.not_le, ge_iff_le, gt_iff_lt, Bool.not_eq_eq_eq_not, Bool.true_or, Bool.or_true, Bool.false_or, Bool.or_false, Bool.true_and, Bool.and_true, false_or, or_false, true_and, and_true, Decidable.not_not] at hi
      refine go_wrap fun n9 hn9 => ?_
      refine go_look2 (hM.mono hS.sub) mapTI intT zeroInt ?_
      rw [look_ix]
      by_cases hm : e - 1 ∈ adr ws N
      · have hoka := hb.ok hm
        obtain ⟨o1, o2, o3, o4⟩ := hoka
        have o0 := adr_nn hm
        have hn9' : n9 = e - 1 := by rw [← hn9]; exact wrap_i64 (by omega) (by omega)
        subst hn9'
        obtain ⟨p0, p1, p2⟩ := idxI_mem hm
        rw [adr_len] at p1
        obtain ⟨j, hj, ej⟩ := mem_adr.1 hm
        have eidx : idxI (adr ws N) (e - 1) = j := by rw [ej, idxI_adr hj]
        have hcj := hc j hj
        rw [if_pos hm]
        refine ⟨_, _, rfl, fun _ => hg.ix p0 (by omega), ?_⟩
        refine ld_countg (hg.src hS.sub) (fun _ => ⟨p0, by omega⟩) ?_
        rw [eidx, hcj, ← ej]
        refine ⟨e - 1 + 1, fun _ => wrap_i64 (by omega) (by omega), fun _ => hx.ix (by omega) (by omega), ?_⟩
        refine ld_intg (hx.mono hS.sub) (fun _ => ⟨by omega, by omega⟩) ?_
        have hsz : Int.tmod (nth ws (e - 1 + 1)) 4 = szA ws (e - 1) := by rw [tmod4 o3]; rfl
        rw [hsz]
        refine ⟨fun _ => by decide, fun hc2 => ?_, fun hc2 => ?_⟩
        · simp only [Option.isSome_some, decide_eq_true_eq, decide_eq_false_iff_not, Bool.and_eq_true, Bool.and_eq_false_iff, Bool.or_eq_true, Bool.or_eq_false_iff, Bool.not_eq_true', Bool.not_eq_false', Bool.not_true, Bool.not_false, Bool.false_eq_true, Bool.true_eq_false, Int.not_lt, Int.not_le, ge_iff_le, gt_iff_lt, Bool.not_eq_eq_eq_not, Bool.true_or, Bool.or_true, Bool.false_or, Bool.or_false, Bool.true_and, Bool.and_true, false_or, or_false, true_and, and_true, Decidable.not_not] at hc2
          have hfr : e - 1 ∈ freeA ws (adr ws N) k := freeA_mem.2 ⟨hm, hc2.1, hc2.2⟩
          refine go_look1 (hL.read hS) mapTB intT zeroBool ?_
          rw [look_li]
          by_cases hs : e - 1 ∈ s ++ q
          · rw [if_pos hs]
            exact ⟨true, rfl, fun _ => ⟨vf (W.stop k0 (by omega) hi (.inr hs)), hS.sub⟩, fun h => (by cases h)⟩
          · rw [if_neg hs]
            refine ⟨false, rfl, fun h => (by cases h), fun _ => ?_⟩
            refine go_put hL hS (by rw [look_li, if_neg hs]) mapTB intT ?_
            intro w5 I5 hL5 hS
            refine go_wr (by omega) (by omega) ?_
            refine go_ix hx (by omega) (by omega) ?_
            refine ld_int (hx.mono hS.sub) (by omega) (by omega) ?_
            intro c0 c1
            refine ⟨nth ws (e - 1 + 1) / 4, ⟨by decide, by rw [tdiv4 o3]; exact wrap_i64 (by omega) (by omega)⟩, rfl, rfl, rfl, rfl, ?_⟩
            have W2 : Fw ws N free k s (q ++ [e - 1]) (nth ws (e - 1 + 1) / 4) := Fw.step (by rw [show e - 1 + 1 = e from by omega]; exact W) hfr hs
            have hle := sub_len W2.nd W2.sub
            simp only [List.length_append, List.length_singleton] at hle
            refine loopEnd (k := (freeA ws (adr ws N) k).length - (q ++ [e - 1]).length) ⟨q ++ [e - 1], I5, by rw [← List.append_assoc, liE_snoc]; exact hL5, hS, W2, ⟨by omega, by omega⟩, rfl⟩ ?_
            simp only [List.length_append, List.length_singleton]
            omega
        · have hnf : e - 1 ∉ freeA ws (adr ws N) k := fun hf => by
            obtain ⟨f1, f2, f3⟩ := freeA_mem.1 hf
            rw [decide_eq_true f2, decide_eq_true f3] at hc2
            cases hc2
          exact ⟨vf (W.stop k0 (by omega) hi (.inl hnf)), hS.sub⟩
      · have hm9 : n9 ∉ adr ws N := by
          rcases wrap_pred he with ⟨h1, _⟩ | ⟨h1, h2⟩
          · rw [← hn9, h1]; exact hm
          · intro hm; have := hb.ok hm; have := this.1; omega
        rw [if_neg hm9]
        refine ⟨0, false, rfl, fun h => (by cases h), 0, fun h => (by cases h), 0, fun h => (by cases h), fun h => (by cases h), 0, fun h => (by cases h), fun h => (by cases h), fun h => (by cases h), fun _ => ?_⟩
        exact ⟨vf (W.stop k0 (by omega) hi (.inl fun hf => hm (freeA_mem.1 hf).1)), hS.sub⟩
    · simp only [decide_eq_true_eq, decide_eq_false_iff_not, Bool.and_eq_true, Bool.and_eq_false_iff, Bool.or_eq_true, Bool.or_eq_false_iff, Bool.not_eq_true', Bool.not_eq_false', Bool.not_true, Bool.not_false, Bool.false_eq_true, Bool.true_eq_false, Int.not_lt, Int.not_le, ge_iff_le, gt_iff_lt, Bool.not_eq_eq_eq_not, Bool.true_or, Bool.or_true, Bool.false_or, Bool.or_false, Bool.true_and, Bool.and_true, false_or, or_false, true_and, and_true, Decidable.not_not] at hi
      subst hi
      refine go_wr (by omega) (by omega) ?_
      exact ⟨rfl, rfl, rfl, rfl, ⟨_, I, hL, hS, by omega, by omega, W.next⟩, by omega⟩
  · simp only [decide_eq_true_eq, decide_eq_false_iff_not, Bool.and_eq_true, Bool.and_eq_false_iff, Bool.or_eq_true, Bool.or_eq_false_iff, Bool.not_eq_true', Bool.not_eq_false', Bool.not_true, Bool.not_false, Bool.false_eq_true, Bool.true_eq_false, Int.not_lt, Int.not_le, ge_iff_le, gt_iff_lt, Bool.not_eq_eq_eq_not, Bool.true_or, Bool.or_true, Bool.false_or, Bool.or_false, Bool.true_and, Bool.and_true, false_or, or_false, true_and, and_true, Decidable.not_not] at hk
    have hk4 : k = 4 := by omega
    subst hk4
    refine ⟨fun i w => St v w (I ++ []) ∧ 0 ≤ i ∧ i ≤ N ∧ ∀ a ∈ (adr ws N).take i.toNat, nth ws a = 0 → a ∈ s, fun i _ => (N - i).toNat, ⟨hS, by omega, by omega, by simp⟩, ?_⟩
    clear hS
    rintro i w ⟨hS, i0, i1, h2⟩
    dsimp only
    refine ⟨fun hi => ?_, fun hi => ?_⟩
    · simp only [decide_eq_true_eq, decide_eq_false_iff_not, Bool.and_eq_true, Bool.and_eq_false_iff, Bool.or_eq_true, Bool.or_eq_false_iff, Bool.not_eq_true', Bool.not_eq_false', Bool.not_true, Bool.not_false, Bool.false_eq_true, Bool.true_eq_false, Int.not_lt, Int.not_le, ge_iff_le, gt_iff_lt, Bool.not_eq_eq_eq_not, Bool.true_or, Bool.or_true, Bool.false_or, Bool.or_false, Bool.true_and, Bool.and_true, false_or, or_false, true_and, and_true, Decidable.not_not] at hi
      have hln : (adr ws N).length = N := adr_len
      have hm := nth_mem (l := adr ws N) i0 (by omega)
      have htk := take_nth (l := adr ws N) i0 (by omega)
      obtain ⟨o1, o2, o3, o4⟩ := hb.ok hm
      have o0 := adr_nn hm
      refine go_ix hz i0 (by omega) ?_
      refine ld_int (hz.mono hS.sub) i0 (by omega) ?_
      generalize hq : nth (adr ws N) i = a at *
      intro b0 b1
      refine go_ix hx (by omega) (by omega) ?_
      refine ld_int (hx.mono hS.sub) (by omega) (by omega) ?_
      intro c0 c1
      have next : (nth ws a = 0 → a ∈ s) → ∀ b ∈ (adr ws N).take (i + 1).toNat, nth ws b = 0 → b ∈ s := by
        intro hh b hb2
        rw [htk] at hb2
        rcases List.mem_append.1 hb2 with hb2 | hb2
        · exact h2 b hb2
        · rw [List.mem_singleton.1 hb2]; exact hh
      refine ⟨fun hz0 => ?_, fun hz0 => ?_⟩
      · simp only [decide_eq_true_eq, decide_eq_false_iff_not, Bool.and_eq_true, Bool.and_eq_false_iff, Bool.or_eq_true, Bool.or_eq_false_iff, Bool.not_eq_true', Bool.not_eq_false', Bool.not_true, Bool.not_false, Bool.false_eq_true, Bool.true_eq_false, Int.not_lt, Int.not_le, ge_iff_le, gt_iff_lt, Bool.not_eq_eq_eq_not, Bool.true_or, Bool.or_true, Bool.false_or, Bool.or_false, Bool.true_and, Bool.and_true, false_or, or_false, true_and, and_true, Decidable.not_not] at hz0
        refine go_look1 (hL.read hS) mapTB intT zeroBool ?_
        rw [look_li]
        by_cases hs : a ∈ s
        · rw [if_pos hs]
          refine ⟨true, rfl, fun h => (by cases h), fun _ => ?_⟩
          refine go_wr (by omega) (by omega) ?_
          exact ⟨rfl, rfl, rfl, rfl, ⟨hS, by omega, by omega, next fun _ => hs⟩, by omega⟩
        · rw [if_neg hs]
          exact ⟨false, rfl, fun _ => ⟨vf (V.bad hm hz0 hs), hS.sub⟩, fun h => (by cases h)⟩
      · simp only [decide_eq_true_eq, decide_eq_false_iff_not, Bool.and_eq_true, Bool.and_eq_false_iff, Bool.or_eq_true, Bool.or_eq_false_iff, Bool.not_eq_true', Bool.not_eq_false', Bool.not_true, Bool.not_false, Bool.false_eq_true, Bool.true_eq_false, Int.not_lt, Int.not_le, ge_iff_le, gt_iff_lt, Bool.not_eq_eq_eq_not, Bool.true_or, Bool.or_true, Bool.false_or, Bool.or_false, Bool.true_and, Bool.and_true, false_or, or_false, true_and, and_true, Decidable.not_not] at hz0
        refine go_wr (by omega) (by omega) ?_
        exact ⟨rfl, rfl, rfl, rfl, ⟨hS, by omega, by omega, next fun h => absurd h hz0⟩, by omega⟩
    · simp only [decide_eq_true_eq, decide_eq_false_iff_not, Bool.and_eq_true, Bool.and_eq_false_iff, Bool.or_eq_true, Bool.or_eq_false_iff, Bool.not_eq_true', Bool.not_eq_false', Bool.not_true, Bool.not_false, Bool.false_eq_true, Bool.true_eq_false, Int.not_lt, Int.not_le, ge_iff_le, gt_iff_lt, Bool.not_eq_eq_eq_not, Bool.true_or, Bool.or_true, Bool.false_or, Bool.or_false, Bool.true_and, Bool.and_true, false_or, or_false, true_and, and_true, Decidable.not_not] at hi
      rw [take_all (by rw [adr_len]; omega)] at h2
      exact ⟨by rw [@decide_eq_true _ (Classical.propDecidable _) (V.good hf4 h2)], hS.sub⟩
end
end Go.Vc

namespace Go.Vc
open Go Go.Proofs Go.RowKit
set_option linter.all false

def rawA (ws : List Int) (a : Int) : CellD := if 0 < nth ws a then ⟨nth ws a, nth ws (a + 1) / 4, fieldsA ws a⟩ else free0
section
variable {ws ad s q l list : List Int} {n i N : Nat} {k x a h e f : Int} {m : MemD}
theorem cut_fields (h0 : 0 ≤ a) (h1 : nxtA ws a ≤ ws.length) : (ws.take (a + 2 + szA ws a).toNat).drop (a + 2).toNat = fieldsA ws a := by
  have hb := szA_b ws a
  unfold nxtA at h1
  apply List.ext_getElem?
  intro j
  rw [List.getElem?_drop, List.getElem?_take]
  unfold fieldsA
  rw [List.getElem?_map]
  by_cases hj : j < (szA ws a).toNat
  · rw [if_pos (by omega), List.getElem?_range hj]
    have := nth_get (l := ws) (i := a + 2 + j) (by omega) (by omega)
    rw [show (a + 2 + (j : Int)).toNat = (a + 2).toNat + j from by omega] at this
    rw [this]; rfl
  · rw [if_neg (by omega), List.getElem?_eq_none (by simp; omega)]; rfl
theorem VM.ext_ (hb : nB ws n) : ∃ q, cellsL ws (adr ws n) = trimL (cellsL ws (adr ws n)) ++ List.replicate q free0 := by
  have h1 := trim_eq (cellsL ws (adr ws n))
  generalize hh : cellsL ws (adr ws n) = h at *
  refine ⟨h.length - trimN h [] h.length, ?_⟩
  rw [h1]
  conv => lhs; rw [← List.take_append_drop (trimN h [] h.length) h]
  congr 1
  apply List.ext_getElem
  · simp
  · intro j j1 j2
    simp only [List.length_drop] at j1
    rw [List.getElem_drop, List.getElem_replicate]
    have := (trimN_free (h := h) (pend := []) (n := h.length) (k := ((trimN h [] h.length + j : Nat) : Int)) (by omega) (by omega)).1
    rw [nth_nat (l := h) (by omega)] at this
    exact cellsL_free (ws := ws) (ad := adr ws n) _ (by rw [hh]; exact List.getElem_mem _) this
/-- a valid heap behind the trim is one in front of it -/
theorem cells_lz (hb : nB ws n) : vheap (trimL (cellsL ws (adr ws n))) ↔ LZ (cellsL ws (adr ws n)) [] [] := by
  obtain ⟨q, hq⟩ := VM.ext_ hb
  have hcn : ∀ c ∈ trimL (cellsL ws (adr ws n)), 0 ≤ c.count := fun c hc => cellsL_count hb c (by rw [hq]; exact List.mem_append_left _ hc)
  have E : Ext ⟨trimL (cellsL ws (adr ws n)), []⟩ ⟨cellsL ws (adr ws n), []⟩ := ⟨⟨q, hq⟩, rfl, fun p hp => (by cases hp)⟩
  constructor
  · intro hv
    exact E.lzB (vlazy_iff.1 (vheap_lz hv hcn)).1
  · intro L
    refine lz_vheap (vlazy_iff.2 ⟨E.lzT L, ?_⟩)
    intro hpos
    left
    have hpos' : 0 < (trimL (cellsL ws (adr ws n))).length := hpos
    show (nth (trimL (cellsL ws (adr ws n))) _).count ≠ 0
    rw [trim_eq] at hpos' ⊢
    simp only [List.length_take] at hpos'
    have hle := trimN_le (cellsL ws (adr ws n)) [] (cellsL ws (adr ws n)).length
    have := trimN_last (h := cellsL ws (adr ws n)) (pend := []) (n := (cellsL ws (adr ws n)).length) (by omega)
    rcases this with h1 | h1
    · have e : ((List.take (trimN (cellsL ws (adr ws n)) [] (cellsL ws (adr ws n)).length) (cellsL ws (adr ws n))).length : Int) = trimN (cellsL ws (adr ws n)) [] (cellsL ws (adr ws n)).length := by simp; omega
      rw [e]
      unfold nth List.getD at h1 ⊢
      rw [List.getElem?_take, if_pos (by omega)]; exact h1
    · cases h1
theorem VM.lz (V : VM m N) : LZ (cellsL m.words (adr m.words N)) [] [] := (cells_lz V.blocks).1 V.heap
/-- what a field of a live block is -/
theorem VM.field (V : VM m N) (ha : a ∈ adr m.words N) (hc : nth m.words a ≠ 0) (hf : f ∈ fieldsA m.words a) : (-999 ≤ f ∧ f ≤ 999) ∨ blkB m.words (adr m.words N) f = true := by
  have L := V.lz
  have hcell : cellA m.words (adr m.words N) a ∈ cellsL m.words (adr m.words N) := List.mem_map.2 ⟨a, ha, rfl⟩
  have hw := L.ptr _ hcell (mapW (adr m.words N) f) (by rw [cellA_live hc]; exact List.mem_map.2 ⟨f, hf, rfl⟩)
  by_cases hp : 1000 ≤ f
  · right
    have hm := (V.fields a ha f hf).1 hp
    rw [mapW_ptr hp] at hw
    obtain ⟨p0, p1, p2⟩ := idxI_mem hm
    obtain ⟨_, l2, l3⟩ := live_iff.1 (word_ptr hw (by omega))
    rw [show 1000 + idxI (adr m.words N) (f - 1000) - 1000 = idxI (adr m.words N) (f - 1000) from by omega] at l2 l3
    rw [nth_cellsL p0 p1, p2, cellA_count] at l3
    exact decide_eq_true ⟨hp, hm, l3⟩
  · rw [mapW_int hp] at hw
    rcases word_iff.1 hw with h1 | h1
    · exact .inl h1
    · exact absurd (live_iff.1 h1).1 hp
end

section
variable {u v w : World} {x y xf xg z s t : Sl} {mp : Vl} {l ws fs ad list free : List Int} {h g : List CellD} {m : MemD} {b n k f e : Int} {N i : Nat} {a : Addr} {I J K L R R1 : Items} {F F1 : Items → Items}

theorem c_implTrimR (hC : Cel a [x.val] I) (hx : Read w x h) (hS : St u w (I ++ R)) :
    Trip Try.prog 41 #[.pointer (some (a.add 0))] w fun r w' => ∃ I', r = .tuple #[] ∧ Cel a [(x.cut 0 (trimN h [] h.length) 3).val] I' ∧ St u w' (I' ++ R) := by
  have hn := hx.n
  have hl := hx.le
  refine of41 _ _ _ ?_
  unfold vc41
  refine ⟨x, Cel.load hC hS rfl, fun i w' => Sub w w' ∧ St u w' (I ++ R) ∧ 0 ≤ i ∧ i ≤ h.length ∧ ∀ j : Int, i ≤ j → j < h.length → (nth h j).count = 0, fun i _ => i.toNat, ⟨.refl w, hS, by omega, by omega, fun j h1 h2 => by omega⟩, ?_⟩
  clear hS
  rintro i w' ⟨hsw, hS, h0, h1, h2⟩
  dsimp only
  refine ⟨x, fun _ => Cel.load hC hS rfl, i - 1, fun hc => wrap_i64 (by omega) (by omega), fun hc => hx.ix (by simp only [decide_eq_true_eq, decide_eq_false_iff_not, Bool.and_eq_true, Bool.and_eq_false_iff, Bool.or_eq_true, Bool.or_eq_false_iff, Bool.not_eq_true', Bool.not_eq_false', Bool.not_true, Bool.not_false, Bool.false_eq_true, Bool.true_eq_false, Int.not_lt, Int.not_le, ge_iff_le, gt_iff_lt, Bool.not_eq_eq_eq_not, Bool.true_or, Bool.or_true, Bool.false_or, Bool.or_false, Bool.true_and, Bool.and_true, false_or, or_false, true_and, and_true, Decidable.not_not] at hc; omega) (by omega), ?_⟩
  refine ld_countg (hx.src hsw) (fun hc => ⟨by simp only [decide_eq_true_eq, decide_eq_false_iff_not, Bool.and_eq_true, Bool.and_eq_false_iff, Bool.or_eq_true, Bool.or_eq_false_iff, Bool.not_eq_true', Bool.not_eq_false', Bool.not_true, Bool.not_false, Bool.false_eq_true, Bool.true_eq_false, Int.not_lt, Int.not_le, ge_iff_le, gt_iff_lt, Bool.not_eq_eq_eq_not, Bool.true_or, Bool.or_true, Bool.false_or, Bool.or_false, Bool.true_and, Bool.and_true, false_or, or_false, true_and, and_true, Decidable.not_not] at hc; omega, by omega⟩) ?_
  refine ⟨fun hc => ?_, fun hc => ?_⟩
  · simp only [decide_eq_true_eq, decide_eq_false_iff_not, Bool.and_eq_true, Bool.and_eq_false_iff, Bool.or_eq_true, Bool.or_eq_false_iff, Bool.not_eq_true', Bool.not_eq_false', Bool.not_true, Bool.not_false, Bool.false_eq_true, Bool.true_eq_false, Int.not_lt, Int.not_le, ge_iff_le, gt_iff_lt, Bool.not_eq_eq_eq_not, Bool.true_or, Bool.or_true, Bool.false_or, Bool.or_false, Bool.true_and, Bool.and_true, false_or, or_false, true_and, and_true, Decidable.not_not] at hc
    refine go_wr (by omega) (by omega) ?_
    refine ⟨⟨hsw, hS, by omega, by omega, fun j j0 j1 => ?_⟩, by omega⟩
    by_cases e : j = i - 1
    · rw [e]; exact hc.2
    · exact h2 j (by omega) j1
  · simp only [decide_eq_true_eq, decide_eq_false_iff_not, Bool.and_eq_true, Bool.and_eq_false_iff, Bool.or_eq_true, Bool.or_eq_false_iff, Bool.not_eq_true', Bool.not_eq_false', Bool.not_true, Bool.not_false, Bool.false_eq_true, Bool.true_eq_false, Int.not_lt, Int.not_le, ge_iff_le, gt_iff_lt, Bool.not_eq_eq_eq_not, Bool.true_or, Bool.or_true, Bool.false_or, Bool.or_false, Bool.true_and, Bool.and_true, false_or, or_false, true_and, and_true, Decidable.not_not] at hc
    refine ⟨x, Cel.load hC hS rfl, ⟨by omega, by omega, ?_⟩, ?_⟩
    · obtain ⟨_, hr, _⟩ := hx; have := hr.2.1; omega
    · refine Cel.store hC hS (by simp) ?_
      intro w4 I4 hC hS
      simp [putR] at hC
      have e : trimN h [] h.length = i.toNat := trimN_eq (by omega) (fun j j0 j1 => ⟨h2 j (by omega) j1, by simp⟩) (fun hp => .inl (by rw [Int.toNat_of_nonneg h0]; rcases hc with hc | hc; omega; exact hc))
      refine ⟨I4, rfl, ?_, hS⟩
      rw [e, Int.toNat_of_nonneg h0]; exact hC
theorem trim_read {B : Nat} (hx : ReadB B w x h) : ReadB B w (x.cut 0 (trimN h [] h.length) 3) (trimL h) := by
  have hle := trimN_le h [] h.length
  have := hx.cut (lo := 0) (hi := (trimN h [] h.length : Int)) (by omega) (by omega) (by omega)
  rw [trim_eq]
  simpa [show Dat.sz CellD = 3 from rfl] using this
theorem trim_own (hx : OwnD x h I) : OwnD (x.cut 0 (trimN h [] h.length) 3) (trimL h) I := by
  have hle := trimN_le h [] h.length
  have := hx.cut (hi := (trimN h [] h.length : Int)) (by omega) (by omega)
  rw [trim_eq]
  simpa [show Dat.sz CellD = 3 from rfl] using this
theorem c_trimmed (hx : Read v x h) : Trip Try.prog 48 #[.agg #[x.val, mp.x]] v fun r w' => r = (x.cut 0 (trimN h [] h.length) 3).val ∧ Sub v w' := by
  refine of48 _ _ _ _ ?_
  unfold vc48
  refine St.box (vals := [.slice none 0 0]) (.refl v) fun a w3 I3 hC hS hs => ?_
  refine Cel.store hC hS (by simp) ?_
  intro w4 I4 hC hS
  simp [putR] at hC
  refine Trip.mono' (c_implTrimR (R := []) hC (hx.mono hS.sub) hS) ?_
  rintro _ w5 ⟨I5, rfl, hC, hS⟩
  exact ⟨rfl, _, Cel.load hC hS rfl, rfl, hS.sub⟩
end
end Go.Vc

namespace Go.Vc
open Go Go.Proofs Go.RowKit
set_option linter.all false
section
variable {u v w : World} {x y xf xg z s t : Sl} {mp : Vl} {l ws fs ad list free : List Int} {h g : List CellD} {m : MemD} {b n k f e : Int} {N i : Nat} {a : Addr} {I J K L R R1 : Items} {F F1 : Items → Items}

/-- the cells, of which the first are as they will be -/
def midC (ws ad : List Int) (i : Nat) : List CellD := (ad.take i).map (cellA ws ad) ++ (ad.drop i).map (rawA ws)
theorem midC_len : (midC ws ad i).length = ad.length := by simp [midC]; omega
theorem midC_count (hok : ∀ q ∈ ad, 0 ≤ nth ws q) {j : Nat} (hj : j < ad.length) : (nth (midC ws ad i) (j : Int)).count = nth ws (nth ad (j : Int)) := by
  have hm : nth ad (j : Int) ∈ ad := nth_mem (by omega) (by omega)
  have h0 := hok _ hm
  have hl : ((ad.take i).map (cellA ws ad)).length = min i ad.length := by simp
  by_cases hi : j < i
  · unfold midC
    rw [nth_left (by omega) (by omega)]
    have : nth ((ad.take i).map (cellA ws ad)) (j : Int) = cellA ws ad (nth ad (j : Int)) := by
      refine nth_of ?_
      rw [List.getElem?_map, List.getElem?_take, if_pos (by omega), nth_get (by omega) (by omega)]; rfl
    rw [this, cellA_count]
  · unfold midC
    rw [nth_right (by omega)]
    have : nth ((ad.drop i).map (rawA ws)) ((j : Int) - ((ad.take i).map (cellA ws ad)).length) = rawA ws (nth ad (j : Int)) := by
      refine nth_of ?_
      rw [List.getElem?_map, List.getElem?_drop, hl, show i + ((j : Int) - (min i ad.length : Nat)).toNat = (j : Int).toNat from by omega, nth_get (by omega) (by omega)]; rfl
    rw [this]
    unfold rawA
    split
    · rfl
    · show (0 : Int) = _; omega
theorem midC_nth {i : Int} (h0 : 0 ≤ i) (h1 : i < ad.length) : nth (midC ws ad i.toNat) i = rawA ws (nth ad i) := by
  have hl : ((ad.take i.toNat).map (cellA ws ad)).length = i.toNat := by simp; omega
  unfold midC
  rw [nth_right (by omega)]
  refine nth_of ?_
  rw [List.getElem?_map, List.getElem?_drop, hl, show i.toNat + (i - (i.toNat : Int)).toNat = i.toNat from by omega, nth_get h0 h1]; rfl
theorem midC_succ {i : Int} (h0 : 0 ≤ i) (h1 : i < ad.length) : (midC ws ad i.toNat).set i.toNat (cellA ws ad (nth ad i)) = midC ws ad (i + 1).toNat := by
  have hl : ((ad.take i.toNat).map (cellA ws ad)).length = i.toNat := by simp; omega
  unfold midC
  have hg := nth_get h0 h1
  have hlt : i.toNat < ad.length := by omega
  have e : ad[i.toNat] = nth ad i := by rw [List.getElem?_eq_getElem hlt] at hg; exact Option.some.inj hg
  rw [List.set_append, if_neg (by omega), hl, Nat.sub_self, List.drop_eq_getElem_cons hlt, List.map_cons, List.set_cons_zero, take_nth h0 h1, show (i + 1).toNat = i.toNat + 1 from by omega, List.map_append]
  simp

/-- an opened memory: its cells, the map of its addresses -/
def OpenM (m : MemD) (xc : Sl) (mp : Vl) (J : Items) : Prop := ∃ N J1 J2, VM m N ∧ OwnD xc (cellsL m.words (adr m.words N)) J1 ∧ MpO mp (ixE m.words N) J2 ∧ J = J1 ++ J2

theorem c_openMemory (hx : Read v x m.words) (hy : Read v y m.free) : Mk Try.prog 30 #[.agg #[x.val, y.val]] v fun r J => ∃ (xc : Sl) (mp : Vl), r = .tuple #[.agg #[xc.val, mp.x], .bool (vmemB m)] ∧ (vmemB m = true → OpenM m xc mp J) := by
  have bad : ¬ vmem m → ∀ w I (xc : Sl) (mp : Vl), St v w (I ++ []) → ∃ J, St v w J ∧ ∃ (xc' : Sl) (mp' : Vl), Value.tuple #[.agg #[xc.val, mp.x], .bool false] = .tuple #[.agg #[xc'.val, mp'.x], .bool (vmemB m)] ∧ (vmemB m = true → OpenM m xc' mp' J) :=
    fun hh w I xc mp hS => ⟨I, by simpa using hS, xc, mp, by rw [vmemB_f hh], fun h => by rw [vmemB_f hh] at h; cases h⟩
  refine of30 _ _ _ _ ?_
  unfold vc30
  have hxn := hx.n
  have hxl := hx.le
  have hyn := hy.n
  generalize hws : m.words = ws at *
  generalize hfree : m.free = free at *
  refine go_makeMap (.refl v) ?_
  intro mp w1 I1 hM hS hs
  refine ⟨_, rfl, ?_⟩
  refine ⟨fun za at_ zc w => ∃ (i : Nat) (JA JC JM : Items), at_ = posA ws i ∧ okTo ws i ∧ at_ ≤ ws.length ∧ Own v za (adr ws i) JA ∧ OwnD zc ((adr ws i).map (rawA ws)) JC ∧ MpO mp (ixE ws i) JM ∧ St v w (JA ++ (JC ++ (JM ++ []))) ∧ ∀ a ∈ adr ws i, nth ws a = 0 → ∀ f ∈ fieldsA ws a, f = 0,
    fun _ at_ _ _ => (ws.length - at_).toNat, ⟨0, [], [], I1, rfl, fun i hi => by omega, by omega, Own.nil v, OwnD.nil, hM, hS, fun a ha => by simp [adr] at ha⟩, ?_⟩
  clear hM hS
  rintro za at_ zc w ⟨i, JA, JC, JM, rfl, hok, hle, hA, hC, hM, hS, hz⟩
  dsimp only
  have hp0 := posA_nn ws i
  have hal : (adr ws i).length = i := adr_len
  have hzcn := hC.n
  rw [List.length_map, hal] at hzcn
  generalize hq : posA ws i = q at *
  refine ⟨fun hi => ?_, fun hi => ?_⟩
  · simp only [decide_eq_true_eq, decide_eq_false_iff_not, Bool.and_eq_true, Bool.and_eq_false_iff, Bool.or_eq_true, Bool.or_eq_false_iff, Bool.not_eq_true', Bool.not_eq_false', Bool.not_true, Bool.not_false, Bool.false_eq_true, Bool.true_eq_false, Int.not_lt, Int.not_le, ge_iff_le, gt_iff_lt, Bool.not_eq_eq_eq_not, Bool.true_or, Bool.or_true, Bool.false_or, Bool.or_false, Bool.true_and, Bool.and_true, false_or, or_false, true_and, and_true, Decidable.not_not] at hi
    refine go_wr (by omega) (by omega) ?_
    refine ⟨fun hc => hx.ix (by omega) (by omega), ?_⟩
    refine ld_intg (hx.mono hS.sub) (fun _ => ⟨by omega, by omega⟩) ?_
    refine ⟨q + 1, fun _ => wrap_i64 (by omega) (by omega), fun hc => hx.ix (by omega) (by simp only [decide_eq_true_eq, decide_eq_false_iff_not, Bool.and_eq_true, Bool.and_eq_false_iff, Bool.or_eq_true, Bool.or_eq_false_iff, Bool.not_eq_true', Bool.not_eq_false', Bool.not_true, Bool.not_false, Bool.false_eq_true, Bool.true_eq_false, Int.not_lt, Int.not_le, ge_iff_le, gt_iff_lt, Bool.not_eq_eq_eq_not, Bool.true_or, Bool.or_true, Bool.false_or, Bool.or_false, Bool.true_and, Bool.and_true, false_or, or_false, true_and, and_true, Decidable.not_not] at hc; omega), ?_⟩
    refine ld_intg (hx.mono hS.sub) (fun hc => ⟨by omega, by simp only [decide_eq_true_eq, decide_eq_false_iff_not, Bool.and_eq_true, Bool.and_eq_false_iff, Bool.or_eq_true, Bool.or_eq_false_iff, Bool.not_eq_true', Bool.not_eq_false', Bool.not_true, Bool.not_false, Bool.false_eq_true, Bool.true_eq_false, Int.not_lt, Int.not_le, ge_iff_le, gt_iff_lt, Bool.not_eq_eq_eq_not, Bool.true_or, Bool.or_true, Bool.false_or, Bool.or_false, Bool.true_and, Bool.and_true, false_or, or_false, true_and, and_true, Decidable.not_not] at hc; omega⟩) ?_
    have hsb := szA_b ws q
    have stk : ¬ okA ws q → ¬ vmem m := fun hno ⟨N, hV⟩ => stuck hok (by omega) (by rw [hq]; exact hno) ⟨N, by rw [← hws]; exact hV.blocks⟩
    refine ⟨fun hc => ?_, fun hc => ?_⟩
    · exact bad (stk fun ⟨o1, o2, o3, o4⟩ => by simp only [decide_eq_true_eq, decide_eq_false_iff_not, Bool.and_eq_true, Bool.and_eq_false_iff, Bool.or_eq_true, Bool.or_eq_false_iff, Bool.not_eq_true', Bool.not_eq_false', Bool.not_true, Bool.not_false, Bool.false_eq_true, Bool.true_eq_false, Int.not_lt, Int.not_le, ge_iff_le, gt_iff_lt, Bool.not_eq_eq_eq_not, Bool.true_or, Bool.or_true, Bool.false_or, Bool.or_false, Bool.true_and, Bool.and_true, false_or, or_false, true_and, and_true, Decidable.not_not] at hc; omega) w (JA ++ (JC ++ JM)) zc mp (by simpa using hS)
    simp only [decide_eq_true_eq, decide_eq_false_iff_not, Bool.and_eq_true, Bool.and_eq_false_iff, Bool.or_eq_true, Bool.or_eq_false_iff, Bool.not_eq_true', Bool.not_eq_false', Bool.not_true, Bool.not_false, Bool.false_eq_true, Bool.true_eq_false, Int.not_lt, Int.not_le, ge_iff_le, gt_iff_lt, Bool.not_eq_eq_eq_not, Bool.true_or, Bool.or_true, Bool.false_or, Bool.or_false, Bool.true_and, Bool.and_true, false_or, or_false, true_and, and_true, Decidable.not_not] at hc
    refine go_ix hx (by omega) (by omega) ?_
    refine ld_int (hx.mono hS.sub) (by omega) (by omega) ?_
    intro b0 b1
    refine go_wr (by omega) (by omega) ?_
    refine go_ix hx (by omega) (by omega) ?_
    refine ld_int (hx.mono hS.sub) (by omega) (by omega) ?_
    intro b2 b3
    refine go_wr (by omega) (by omega) ?_
    have hsz : Int.tmod (nth ws (q + 1)) 4 = szA ws q := by rw [tmod4 hc.2]; rfl
    rw [hsz]
    refine ⟨by decide, ?_⟩
    refine go_wr (by omega) (by omega) ?_
    refine ⟨fun hc2 => ?_, fun hc2 => ?_⟩
    · exact bad (stk fun ⟨o1, o2, o3, o4⟩ => by simp only [decide_eq_true_eq, decide_eq_false_iff_not, Bool.and_eq_true, Bool.and_eq_false_iff, Bool.or_eq_true, Bool.or_eq_false_iff, Bool.not_eq_true', Bool.not_eq_false', Bool.not_true, Bool.not_false, Bool.false_eq_true, Bool.true_eq_false, Int.not_lt, Int.not_le, ge_iff_le, gt_iff_lt, Bool.not_eq_eq_eq_not, Bool.true_or, Bool.or_true, Bool.false_or, Bool.or_false, Bool.true_and, Bool.and_true, false_or, or_false, true_and, and_true, Decidable.not_not] at hc2; unfold nxtA at o4; omega) w (JA ++ (JC ++ JM)) zc mp (by simpa using hS)
    simp only [decide_eq_true_eq, decide_eq_false_iff_not, Bool.and_eq_true, Bool.and_eq_false_iff, Bool.or_eq_true, Bool.or_eq_false_iff, Bool.not_eq_true', Bool.not_eq_false', Bool.not_true, Bool.not_false, Bool.false_eq_true, Bool.true_eq_false, Int.not_lt, Int.not_le, ge_iff_le, gt_iff_lt, Bool.not_eq_eq_eq_not, Bool.true_or, Bool.or_true, Bool.false_or, Bool.or_false, Bool.true_and, Bool.and_true, false_or, or_false, true_and, and_true, Decidable.not_not] at hc2
    have hoki : okA ws q := ⟨by omega, by omega, by omega, by unfold nxtA; omega⟩
    have hnew : q ∉ adr ws i := fun hm => by
      obtain ⟨j, hj, e⟩ := mem_adr.1 hm
      rw [← hq] at e
      have := posA_inj e
      omega
    have hp1 : posA ws (i + 1) = q + 2 + szA ws q := by rw [posA_succ, hq]
    have hok1 : okTo ws (i + 1) := fun j hj => by
      by_cases e : j = i
      · rw [e, hq]; exact hoki
      · exact hok j (by omega)
    have hadr : adr ws (i + 1) = adr ws i ++ [q] := by rw [adr_succ, hq]
    have hcut := cut_fields (ws := ws) (a := q) (by omega) hoki.2.2.2
    refine go_put hM hS (by rw [look_ix, if_neg hnew]) mapTI intT ?_
    intro w5 I5 hM5 hS
    rw [hzcn] at hM5
    have hM6 : MpO mp (ixE ws (i + 1)) I5 := by rw [ixE_succ, hq]; exact hM5
    refine St.build (α := Int) (l := [q]) hS (VsOf.cons (VOf.int ⟨by omega, by omega⟩) VsOf.nil) rfl (by decide) ?_
    intro x6 w6 I6 hO6 hS hs
    refine ⟨_, rfl, ?_⟩
    refine Own.append hA hS (Own.src hO6 hS) (by rw [hal]; simp; omega) (by decide) ?_
    intro x7 w7 I7 hA7 hS
    refine ⟨_, rfl, ?_⟩
    have hfr : Read w7 (x.cut (q + 2) (q + 2 + szA ws q) 1) (fieldsA ws q) := by
      have := (hx.mono hS.sub).cut (lo := q + 2) (hi := q + 2 + szA ws q) (by omega) (by omega) (by omega)
      rw [hcut] at this; exact this
    have hcutok : CutOk x (q + 2) (q + 2 + szA ws q) := ⟨by omega, by omega, by obtain ⟨_, hr, _⟩ := hx; have := hr.2.1; omega⟩
    refine ⟨fun hc3 => ?_, fun hc3 => ?_⟩
    · simp only [decide_eq_true_eq, decide_eq_false_iff_not, Bool.and_eq_true, Bool.and_eq_false_iff, Bool.or_eq_true, Bool.or_eq_false_iff, Bool.not_eq_true', Bool.not_eq_false', Bool.not_true, Bool.not_false, Bool.false_eq_true, Bool.true_eq_false, Int.not_lt, Int.not_le, ge_iff_le, gt_iff_lt, Bool.not_eq_eq_eq_not, Bool.true_or, Bool.or_true, Bool.false_or, Bool.or_false, Bool.true_and, Bool.and_true, false_or, or_false, true_and, and_true, Decidable.not_not] at hc3
      have hraw : rawA ws q = ⟨nth ws q, nth ws (q + 1) / 4, fieldsA ws q⟩ := if_pos hc3
      refine ⟨nth ws (q + 1) / 4, ⟨by decide, by rw [tdiv4 hc.2]; exact wrap_i64 (by omega) (by omega)⟩, ?_⟩
      refine go_wr (by omega) (by omega) ?_
      refine ⟨hcutok, ?_⟩
      refine Mk.usew (c_cloneInts hfr) hS ?_
      rintro _ w8 J8 ⟨z8, rfl, hZ⟩ hS hs8
      refine ⟨_, rfl, ?_⟩
      refine St.buildR hS ?_ ?_ ?_ ?_
      · simp [Value.cells]
      · rfl
      · decide
      intro x3 w3 I3 hB hS hs _
      refine ⟨_, rfl, ?_⟩
      refine OwnD.push' (J := J8) (a := rawA ws q) hC hS (hB.rd hS.items) ?_ (by simp [hal]; omega) (by decide) ?_
      · rw [hraw]
        exact ⟨z8, rfl, ⟨b0, b1⟩, ⟨by show _ ≤ nth ws (q + 1) / 4; omega, by show nth ws (q + 1) / 4 ≤ _; omega⟩, hZ.toAll⟩
      intro x9 w9 I9 hC9 hS
      refine ⟨_, rfl, rfl, rfl, rfl, rfl, rfl, ⟨i + 1, I7, I9, I5, hp1.symm, hok1, by omega, by rw [hadr]; exact hA7, by rw [hadr, List.map_append]; exact hC9, hM6, hS.to, ?_⟩, by omega⟩
      rw [hadr]; intro a ha ha0
      rcases List.mem_append.1 ha with ha | ha
      · exact hz a ha ha0
      · rw [List.mem_singleton.1 ha] at ha0; omega
    · simp only [decide_eq_true_eq, decide_eq_false_iff_not, Bool.and_eq_true, Bool.and_eq_false_iff, Bool.or_eq_true, Bool.or_eq_false_iff, Bool.not_eq_true', Bool.not_eq_false', Bool.not_true, Bool.not_false, Bool.false_eq_true, Bool.true_eq_false, Int.not_lt, Int.not_le, ge_iff_le, gt_iff_lt, Bool.not_eq_eq_eq_not, Bool.true_or, Bool.or_true, Bool.false_or, Bool.or_false, Bool.true_and, Bool.and_true, false_or, or_false, true_and, and_true, Decidable.not_not] at hc3
      have hq0 : nth ws q = 0 := by omega
      have hraw : rawA ws q = free0 := if_neg (by omega)
      refine go_wr (by omega) (by omega) ?_
      refine ⟨hcutok, _, c_implAllZero hfr, fun hz0 => ?_, fun hz0 => ?_⟩
      · refine bad (fun ⟨N, hV⟩ => ?_) w7 (I7 ++ (JC ++ I5)) zc mp ((hS.to : St v w7 (I7 ++ (JC ++ (I5 ++ [])))).perm (by simp))
        simp only [decide_eq_true_eq, decide_eq_false_iff_not, Bool.and_eq_true, Bool.and_eq_false_iff, Bool.or_eq_true, Bool.or_eq_false_iff, Bool.not_eq_true', Bool.not_eq_false', Bool.not_true, Bool.not_false, Bool.false_eq_true, Bool.true_eq_false, Int.not_lt, Int.not_le, ge_iff_le, gt_iff_lt, Bool.not_eq_eq_eq_not, Bool.true_or, Bool.or_true, Bool.false_or, Bool.or_false, Bool.true_and, Bool.and_true, false_or, or_false, true_and, and_true, Decidable.not_not] at hz0
        refine hz0 fun f hf => ?_
        have hbN := hV.blocks
        rw [hws] at hbN
        have hin : i < N := by
          rcases Nat.lt_or_ge i N with h1 | h1
          · exact h1
          · have := posA_le (ws := ws) (i := N) (i - N)
            rw [show N + (i - N) = i from by omega, hq] at this
            have := hbN.2
            omega
        have hF := hV.fields
        rw [hws] at hF
        exact (hF q (mem_adr.2 ⟨i, hin, hq.symm⟩) f hf).2 hq0
      · simp only [decide_eq_true_eq, decide_eq_false_iff_not, Bool.and_eq_true, Bool.and_eq_false_iff, Bool.or_eq_true, Bool.or_eq_false_iff, Bool.not_eq_true', Bool.not_eq_false', Bool.not_true, Bool.not_false, Bool.false_eq_true, Bool.true_eq_false, Int.not_lt, Int.not_le, ge_iff_le, gt_iff_lt, Bool.not_eq_eq_eq_not, Bool.true_or, Bool.or_true, Bool.false_or, Bool.or_false, Bool.true_and, Bool.and_true, false_or, or_false, true_and, and_true, Decidable.not_not] at hz0
        refine St.buildR hS ?_ ?_ ?_ ?_
        · simp [Value.cells]
        · rfl
        · decide
        intro x3 w3 I3 hB hS hs _
        refine ⟨_, rfl, ?_⟩
        refine OwnD.push (J := []) (cs := _) (a := rawA ws q) hC hS (hB.rd hS.items) ?_ ?_ (by simp [hal]; omega) (by decide) ?_
        · rw [hraw, hq0]; exact ⟨⟨none, 0, 0⟩, rfl, zero_in, zero_in, fun u => Own.nil u⟩
        · rw [hraw, hq0]; exact ⟨⟨none, 0, 0⟩, rfl, zero_in, zero_in, ReadB.nil⟩
        intro x9 w9 I9 hC9 hS
        rw [List.append_nil] at hC9
        refine ⟨_, rfl, rfl, rfl, rfl, rfl, rfl, ⟨i + 1, I7, I9, I5, hp1.symm, hok1, by omega, by rw [hadr]; exact hA7, by rw [hadr, List.map_append]; exact hC9, hM6, hS.to, ?_⟩, by omega⟩
        rw [hadr]; intro a ha ha0
        rcases List.mem_append.1 ha with ha | ha
        · exact hz a ha ha0
        · rw [List.mem_singleton.1 ha]; exact hz0
  · simp only [decide_eq_true_eq, decide_eq_false_iff_not, Bool.and_eq_true, Bool.and_eq_false_iff, Bool.or_eq_true, Bool.or_eq_false_iff, Bool.not_eq_true', Bool.not_eq_false', Bool.not_true, Bool.not_false, Bool.false_eq_true, Bool.true_eq_false, Int.not_lt, Int.not_le, ge_iff_le, gt_iff_lt, Bool.not_eq_eq_eq_not, Bool.true_or, Bool.or_true, Bool.false_or, Bool.or_false, Bool.true_and, Bool.and_true, false_or, or_false, true_and, and_true, Decidable.not_not] at hi
    have hb : nB ws i := ⟨hok, by rw [hq]; omega⟩
    have hbi := hb.le
    clear hok hle hq hi hp0
    have uniq : ∀ {N'}, VM m N' → VM m i := fun {N'} hV => by
      have := hV.blocks
      rw [hws] at this
      rw [hb.unique this]; exact hV
    have hadn : ∀ a ∈ adr ws i, 0 ≤ nth ws a := fun a ha => (hb.ok ha).2.1
    have hcnt : ∀ (j0 : Nat) (j : Nat), j < i → (nth (midC ws (adr ws i) j0) (j : Int)).count = nth ws (posA ws j) := fun j0 j hj => by
      rw [midC_count hadn (by rw [hal]; exact hj), nth_adr hj]
    have hraw0 : (adr ws i).map (rawA ws) = midC ws (adr ws i) 0 := by simp [midC]
    rw [hraw0] at hC
    refine Fn.use (c_freeValid (hx.mono hS.sub) (hy.mono hS.sub) (OwnD.read hC hS) (hM.read hS) (Own.read hA hS) (by rw [midC_len, hal]) (hcnt 0) hb) hS ?_
    intro w2 hS hs2
    refine ⟨_, rfl, fun hfv => ?_, fun hfv => ?_⟩
    · refine bad (fun ⟨N, hV⟩ => ?_) w2 (JA ++ (JC ++ JM)) zc mp (by simpa using hS)
      have : fvOk ws i free := ⟨by rw [← hfree]; exact hV.four, by rw [← hws, ← hfree]; exact (uniq hV).chains⟩
      rw [@decide_eq_true _ (Classical.propDecidable _) this] at hfv; cases hfv
    have hfvk : fvOk ws i free := by simpa using hfv
    have hzcn2 : zc.n = i := hzcn
    let okF : Int → Prop := fun f => (-999 ≤ f ∧ f ≤ 999) ∨ blkB ws (adr ws i) f = true
    refine ⟨fun j w => ∃ JC, OwnD zc (midC ws (adr ws i) j.toNat) JC ∧ St v w (JA ++ (JC ++ (JM ++ []))) ∧ 0 ≤ j ∧ j ≤ i ∧ ∀ a ∈ (adr ws i).take j.toNat, 0 < nth ws a → ∀ f ∈ fieldsA ws a, okF f, fun j _ => (i - j).toNat, ⟨JC, hC, hS, by omega, by omega, by simp⟩, ?_⟩
    clear hC hS
    rintro j w3 ⟨JC, hC, hS, j0, j1, h3⟩
    dsimp only
    refine ⟨fun hj => ?_, fun hj => ?_⟩
    · simp only [decide_eq_true_eq, decide_eq_false_iff_not, Bool.and_eq_true, Bool.and_eq_false_iff, Bool.or_eq_true, Bool.or_eq_false_iff, Bool.not_eq_true', Bool.not_eq_false', Bool.not_true, Bool.not_false, Bool.false_eq_true, Bool.true_eq_false, Int.not_lt, Int.not_le, ge_iff_le, gt_iff_lt, Bool.not_eq_eq_eq_not, Bool.true_or, Bool.or_true, Bool.false_or, Bool.or_false, Bool.true_and, Bool.and_true, false_or, or_false, true_and, and_true, Decidable.not_not] at hj
      have hjl : j < (adr ws i).length := by omega
      have hma := nth_mem j0 hjl
      have htk := take_nth j0 hjl
      have hoa := hb.ok hma
      have ha0 := adr_nn hma
      have hraw := midC_nth (ws := ws) j0 hjl
      generalize hqa : nth (adr ws i) j = q at *
      have hml : (midC ws (adr ws i) j.toNat).length = i := by rw [midC_len, hal]
      have hix := hC.ix j0 (by rw [hml]; omega)
      obtain ⟨row, K, Rest, ⟨f, rfl, hci, hti, hFF⟩, hperm, hcell, hback⟩ := hC.borrow (i := j) j0 (by rw [hml]; omega)
      rw [hraw] at hci hti hFF hcell hback
      have hfs : ∀ f ∈ (rawA ws q).fields, 0 < nth ws q ∧ f ∈ fieldsA ws q := fun f hf => by
        unfold rawA at hf
        split at hf
        · rename_i h; exact ⟨h, hf⟩
        · cases hf
      have hS2 : St v w3 (K ++ (Rest ++ (JA ++ (JM ++ [])))) := hS.perm (by
        refine List.Perm.symm ?_
        classical
        exact List.perm_iff_count.2 fun a => by have h1 := hperm.count_eq a; simp only [List.count_append] at *; omega)
      clear hS hC
      refine ⟨hix, f, hcell w3 (hS2.items (I := Rest)) 2 _ rfl, ?_⟩
      generalize hG : (rawA ws q).fields = G at *
      have hfn : f.n = G.length := (hFF v).n
      have hGl := (hFF v).le
      refine ⟨fun k w => ∃ K, (∀ u, Own u f ((G.take k.toNat).map (mapW (adr ws i)) ++ G.drop k.toNat) K) ∧ St v w (K ++ (Rest ++ (JA ++ (JM ++ [])))) ∧ 0 ≤ k ∧ k ≤ G.length ∧ ∀ g ∈ G.take k.toNat, okF g, fun k _ => (G.length - k).toNat, ⟨K, by simpa using hFF, hS2, by omega, by omega, by simp⟩, ?_⟩
      clear hFF hS2
      rintro k w4 ⟨K, hFF, hS, k0, k1, h4⟩
      dsimp only
      have hpl : ((G.take k.toNat).map (mapW (adr ws i))).length = k.toNat := by simp; omega
      have htot : ((G.take k.toNat).map (mapW (adr ws i)) ++ G.drop k.toNat).length = G.length := by simp; omega
      refine ⟨fun hk => ?_, fun hk => ?_⟩
      · simp only [decide_eq_true_eq, decide_eq_false_iff_not, Bool.and_eq_true, Bool.and_eq_false_iff, Bool.or_eq_true, Bool.or_eq_false_iff, Bool.not_eq_true', Bool.not_eq_false', Bool.not_true, Bool.not_false, Bool.false_eq_true, Bool.true_eq_false, Int.not_lt, Int.not_le, ge_iff_le, gt_iff_lt, Bool.not_eq_eq_eq_not, Bool.true_or, Bool.or_true, Bool.false_or, Bool.or_false, Bool.true_and, Bool.and_true, false_or, or_false, true_and, and_true, Decidable.not_not] at hk
        have htg := take_nth (l := G) k0 (by omega)
        have hmg := nth_mem (l := G) k0 (by omega)
        have hF := hFF v
        have hnk : nth ((G.take k.toNat).map (mapW (adr ws i)) ++ G.drop k.toNat) k = nth G k := by
          rw [nth_right (by omega)]
          refine nth_of ?_
          rw [List.getElem?_drop, hpl, show k.toNat + (k - (k.toNat : Int)).toNat = k.toNat from by omega, nth_get k0 (by omega)]
        refine go_oix hF k0 (by omega) ?_
        refine ld_int (Own.read hF hS) k0 (by omega) ?_
        rw [hnk]
        generalize hgk : nth G k = c at *
        intro b0 b1
        obtain ⟨hpos, hmf⟩ := hfs c hmg
        have nxt : okF c → ∀ g ∈ G.take (k + 1).toNat, okF g := fun hc g hg => by
          rw [htg] at hg
          rcases List.mem_append.1 hg with hg | hg
          · exact h4 g hg
          · rw [List.mem_singleton.1 hg]; exact hc
        have hset : ((G.take k.toNat).map (mapW (adr ws i)) ++ G.drop k.toNat).set k.toNat (mapW (adr ws i) c) = (G.take (k + 1).toNat).map (mapW (adr ws i)) ++ G.drop (k + 1).toNat := by
          have hlt : k.toNat < G.length := by omega
          rw [List.set_append, if_neg (by omega), hpl, Nat.sub_self, List.drop_eq_getElem_cons hlt, List.set_cons_zero, htg, List.map_append, show (k + 1).toNat = k.toNat + 1 from by omega]
          simp
        refine ⟨_, c_isInt, fun hi => ?_, fun hi => ?_⟩
        · simp only [decide_eq_true_eq, decide_eq_false_iff_not, Bool.and_eq_true, Bool.and_eq_false_iff, Bool.or_eq_true, Bool.or_eq_false_iff, Bool.not_eq_true', Bool.not_eq_false', Bool.not_true, Bool.not_false, Bool.false_eq_true, Bool.true_eq_false, Int.not_lt, Int.not_le, ge_iff_le, gt_iff_lt, Bool.not_eq_eq_eq_not, Bool.true_or, Bool.or_true, Bool.false_or, Bool.or_false, Bool.true_and, Bool.and_true, false_or, or_false, true_and, and_true, Decidable.not_not] at hi
          refine go_wr (by omega) (by omega) ?_
          refine ⟨rfl, rfl, rfl, rfl, rfl, rfl, ⟨K, fun u => ?_, hS, by omega, by omega, nxt (.inl ⟨by omega, by omega⟩)⟩, by omega⟩
          rw [← hset, mapW_int (by omega)]
          have e : ((G.take k.toNat).map (mapW (adr ws i)) ++ G.drop k.toNat).set k.toNat c = (G.take k.toNat).map (mapW (adr ws i)) ++ G.drop k.toNat := by
            have hlt : k.toNat < G.length := by omega
            rw [List.set_append, if_neg (by omega), hpl, Nat.sub_self, List.drop_eq_getElem_cons hlt, List.set_cons_zero]
            have : G[k.toNat] = c := by rw [← hgk, ← nth_nat hlt, Int.toNat_of_nonneg k0]
            rw [this]
          rw [e]; exact hFF u
        · have hni : ¬ (-999 ≤ c ∧ c ≤ 999) := fun h => by
            rw [decide_eq_true (show c ≥ -999 from h.1), decide_eq_true h.2] at hi; cases hi
          -- the cells as they stand
          have hraw2 : DatO.own [intV (rawA ws q).count, intV (rawA ws q).tag, f.val] (⟨(rawA ws q).count, (rawA ws q).tag, (G.take k.toNat).map (mapW (adr ws i)) ++ G.drop k.toNat⟩ : CellD) K := ⟨f, rfl, hci, hti, hFF⟩
          have hCk := hback _ K hraw2
          have hcnt2 : ∀ p : Nat, p < i → (nth ((midC ws (adr ws i) j.toNat).set j.toNat (⟨(rawA ws q).count, (rawA ws q).tag, (G.take k.toNat).map (mapW (adr ws i)) ++ G.drop k.toNat⟩ : CellD)) (p : Int)).count = nth ws (posA ws p) := fun p hp => by
            rw [nth_set _ _ _ _ j0 (by rw [hml]; omega) (by omega), ← hcnt j.toNat p hp]
            split
            · rename_i e
              rw [e, hraw]
            · rfl
          have hSr : St v w4 ((K ++ Rest) ++ (JA ++ (JM ++ []))) := hS.perm (by simp)
          refine ⟨_, _, c_liveBlock (OwnD.read hCk hSr) (hM.read hS) (by rw [List.length_set, hml]) hcnt2 (fun p hp => by have := hadn _ (mem_adr.2 ⟨p, hp, rfl⟩); exact this) (fun r hr => by have := (hb.ok hr).1; omega) ⟨b0, b1⟩, fun hl => ?_, fun hl => ?_⟩
          · refine bad (fun ⟨N, hV⟩ => ?_) w4 (K ++ (Rest ++ (JA ++ JM))) zc mp (by simpa using hS)
            have hV' := uniq hV
            have := hV'.field (a := q) (f := c) (by rw [hws]; exact hma) (by rw [hws]; omega) (by rw [hws]; exact hmf)
            rw [hws] at this
            rcases this with h1 | h1
            · exact hni h1
            · rw [h1] at hl; cases hl
          · simp only [decide_eq_true_eq, decide_eq_false_iff_not, Bool.and_eq_true, Bool.and_eq_false_iff, Bool.or_eq_true, Bool.or_eq_false_iff, Bool.not_eq_true', Bool.not_eq_false', Bool.not_true, Bool.not_false, Bool.false_eq_true, Bool.true_eq_false, Int.not_lt, Int.not_le, ge_iff_le, gt_iff_lt, Bool.not_eq_eq_eq_not, Bool.true_or, Bool.or_true, Bool.false_or, Bool.or_false, Bool.true_and, Bool.and_true, false_or, or_false, true_and, and_true, Decidable.not_not] at hl
            obtain ⟨l1, l2, l3⟩ := of_decide_eq_true hl
            have hbi2 : blkI ws (adr ws i) c = idxI (adr ws i) (c - 1000) := by unfold blkI; rw [hl, if_pos rfl]
            obtain ⟨p0, p1, p2⟩ := idxI_mem l2
            rw [hbi2]
            rw [hal] at p1
            refine ⟨hix, f, hcell w4 (hS.items (I := Rest)) 2 _ rfl, ?_⟩
            refine go_wr (by omega) (by omega) ?_
            refine go_oix hF k0 (by omega) ?_
            refine st_int hF hS k0 (by omega) ⟨by omega, by omega⟩ ?_
            intro w5 I5 hF5 hS
            refine go_wr (by omega) (by omega) ?_
            refine ⟨rfl, rfl, rfl, rfl, rfl, rfl, ⟨I5, ?_, hS, by omega, by omega, nxt (.inr hl)⟩, by omega⟩
            rw [← hset, mapW_ptr l1]
            exact hF5.toAll
      · simp only [decide_eq_true_eq, decide_eq_false_iff_not, Bool.and_eq_true, Bool.and_eq_false_iff, Bool.or_eq_true, Bool.or_eq_false_iff, Bool.not_eq_true', Bool.not_eq_false', Bool.not_true, Bool.not_false, Bool.false_eq_true, Bool.true_eq_false, Int.not_lt, Int.not_le, ge_iff_le, gt_iff_lt, Bool.not_eq_eq_eq_not, Bool.true_or, Bool.or_true, Bool.false_or, Bool.or_false, Bool.true_and, Bool.and_true, false_or, or_false, true_and, and_true, Decidable.not_not] at hk
        have hkG : k.toNat = G.length := by omega
        rw [hkG, List.take_length, List.drop_length, List.append_nil] at hFF
        rw [hkG, List.take_length] at h4
        have hcc : cellA ws (adr ws i) q = ⟨(rawA ws q).count, (rawA ws q).tag, G.map (mapW (adr ws i))⟩ := by
          have h0 := hadn q hma
          unfold cellA rawA
          by_cases hz0 : nth ws q = 0
          · have hG0 : G = [] := by rw [← hG]; unfold rawA; rw [if_neg (by omega)]
            rw [if_pos hz0, if_neg (by omega), hG0]; rfl
          · have hGf : G = fieldsA ws q := by rw [← hG]; unfold rawA; rw [if_pos (by omega)]
            rw [if_neg hz0, if_pos (by omega), hGf]
        have hCk := hback (cellA ws (adr ws i) q) K (by rw [hcc]; exact ⟨f, rfl, hci, hti, hFF⟩)
        have hsucc := midC_succ (ws := ws) j0 hjl
        rw [hqa] at hsucc
        rw [hsucc] at hCk
        refine go_wr (by omega) (by omega) ?_
        refine ⟨rfl, rfl, rfl, rfl, rfl, rfl, ⟨K ++ Rest, hCk, hS.perm ?_, by omega, by omega, ?_⟩, by omega⟩
        · classical
          exact List.perm_iff_count.2 fun a => by simp only [List.count_append]; omega
        · rw [htk]; intro a ha hpos f hf
          rcases List.mem_append.1 ha with ha | ha
          · exact h3 a ha hpos f hf
          · rw [List.mem_singleton.1 ha] at hpos hf
            refine h4 f ?_
            rw [← hG]; unfold rawA; rw [if_pos hpos]; exact hf
    · simp only [decide_eq_true_eq, decide_eq_false_iff_not, Bool.and_eq_true, Bool.and_eq_false_iff, Bool.or_eq_true, Bool.or_eq_false_iff, Bool.not_eq_true', Bool.not_eq_false', Bool.not_true, Bool.not_false, Bool.false_eq_true, Bool.true_eq_false, Int.not_lt, Int.not_le, ge_iff_le, gt_iff_lt, Bool.not_eq_eq_eq_not, Bool.true_or, Bool.or_true, Bool.false_or, Bool.or_false, Bool.true_and, Bool.and_true, false_or, or_false, true_and, and_true, Decidable.not_not] at hj
      have hji : j.toNat = (adr ws i).length := by omega
      rw [hji, List.take_length] at h3
      have hmid : midC ws (adr ws i) j.toNat = cellsL ws (adr ws i) := by rw [hji]; simp [midC, cellsL]
      rw [hmid] at hC
      refine Trip.mono' (c_trimmed (OwnD.read hC hS)) ?_
      rintro _ w4 ⟨rfl, hs4⟩
      replace hS := hS.sub_w hs4
      refine ⟨_, rfl, hs4, _, c_implValidHeap (trim_read (OwnD.read hC hS)), ?_⟩
      have hco : cOk ws (adr ws i) := fun a ha f hf => by
        have h0 := hadn a ha
        by_cases hz0 : nth ws a = 0
        · have := hz a ha hz0 f hf
          exact ⟨fun h => by omega, fun _ => this⟩
        · refine ⟨fun hp => ?_, fun h => absurd h hz0⟩
          rcases h3 a ha (by omega) f hf with h1 | h1
          · omega
          · exact (of_decide_eq_true h1).2.1
      have hVM : vheap (trimL (cellsL ws (adr ws i))) → VM m i := fun hvh => ⟨by rw [hws]; exact hb, by rw [hfree]; exact hfvk.1, by rw [hws]; exact hco, by rw [hws]; exact hvh, by rw [hws, hfree]; exact hfvk.2⟩
      have hvb : vheapB (trimL (cellsL ws (adr ws i))) = vmemB m := by
        apply Bool.eq_iff_iff.2
        rw [vheapB_iff, vmemB_iff]
        refine ⟨fun h => ⟨i, hVM h⟩, fun ⟨N, hV⟩ => ?_⟩
        have := (uniq hV).heap
        rw [hws] at this; exact this
      rw [hvb]
      refine ⟨JC ++ JM, (hS.to : St v w4 (JC ++ (JM ++ []))).perm (by simp), zc, mp, rfl, fun hvm => ⟨i, JC, JM, hVM (vheapB_iff.1 (hvb.trans hvm)), by rw [hws]; exact hC, by rw [hws]; exact hM, rfl⟩⟩
end
end Go.Vc

namespace Go.Vc
open Go Go.Proofs Go.RowKit
set_option linter.all false

/-- integers of one's own -/
def OwnI (x : Sl) (l : List Int) (J : Items) : Prop := ∀ u, Own u x l J
section
variable {u v w : World} {x y xf xg z s t : Sl} {mp : Vl} {l ws fs ad list free : List Int} {h g : List CellD} {m m' : MemD} {b n k f e : Int} {N i : Nat} {a : Addr} {I J K L R R1 : Items} {F F1 : Items → Items}

theorem Own.toI (h : Own u x l I) : OwnI x l I := h.toAll
theorem OwnI.read (h : OwnI x l I) (hS : St u w L) [p : Pos I L R F] : Read w x l := Own.read (h u) hS
theorem OwnI.nil : OwnI ⟨none, 0, 0⟩ [] [] := fun u => Own.nil u
theorem c_copyMemory (hx : Read v x m.words) (hy : Read v y m.free) : Mk Try.prog 37 #[.agg #[x.val, y.val]] v fun r J => ∃ t s, ∃ J1 J2, r = .agg #[t.val, s.val] ∧ OwnI t m.words J1 ∧ OwnI s m.free J2 ∧ J = J1 ++ J2 := by
  refine of37 _ _ _ _ ?_
  unfold vc37
  refine Mk.use (c_copyInts hx) (.refl v) ?_
  rintro _ w1 J1 ⟨t, rfl, hO⟩ hS hsub
  refine ⟨_, rfl, hsub, ?_⟩
  refine Mk.use (c_copyInts hy) hS ?_
  rintro _ w2 J2 ⟨s, rfl, hP⟩ hS hsub
  exact ⟨_, rfl, J1 ++ J2, (hS.to : St v w2 (J1 ++ (J2 ++ []))).perm (by simp), t, s, J1, J2, rfl, hO.toI, hP.toI, rfl⟩
theorem c_cloneMem (hx : Read v x m.words) (hy : Read v y m.free) : Mk Try.prog 33 #[.agg #[x.val, y.val]] v fun r J => ∃ t s, ∃ J1 J2, r = .agg #[t.val, s.val] ∧ OwnI t m.words J1 ∧ OwnI s m.free J2 ∧ J = J1 ++ J2 := by
  refine of33 _ _ _ _ ?_
  unfold vc33
  refine Mk.use (c_cloneInts hx) (.refl v) ?_
  rintro _ w1 J1 ⟨t, rfl, hO⟩ hS hsub
  refine ⟨_, rfl, hsub, ?_⟩
  refine Mk.use (c_cloneInts hy) hS ?_
  rintro _ w2 J2 ⟨s, rfl, hP⟩ hS hsub
  exact ⟨_, rfl, J1 ++ J2, (hS.to : St v w2 (J1 ++ (J2 ++ []))).perm (by simp), t, s, J1, J2, rfl, hO.toI, hP.toI, rfl⟩
def eqMB (m m' : MemD) : Bool := decide (m.words = m'.words) && decide (m.free = m'.free)
theorem eqMB_refl (m : MemD) : eqMB m m = true := by simp [eqMB]
theorem c_equalMemory (hx : Read v x m.words) (hy : Read v y m.free) (hs : Read v s m'.words) (ht : Read v t m'.free) : Fn Try.prog 12 #[.agg #[x.val, y.val], .agg #[s.val, t.val]] v (.bool (eqMB m m')) := by
  refine of12 _ _ _ _ _ _ ?_
  unfold vc12
  exact ⟨_, c_equalInts hx hs, _, fun _ => c_equalInts hy ht, rfl, .refl v⟩
/-! ### the heap -/
noncomputable def heapM (m : MemD) : List CellD := trimL (cellsL m.words (adrs m.words))
noncomputable def hoR (m : MemD) : List CellD := bif vmemB m then heapM m else []
theorem hoR_t (h : vmem m) : hoR m = heapM m := by unfold hoR; rw [vmemB_iff.2 h]; rfl
theorem hoR_f (h : ¬ vmem m) : hoR m = [] := by unfold hoR; rw [vmemB_f h]; rfl
theorem VM.ok_ (V : VM m N) : ∀ q ∈ adr m.words N, 0 ≤ q ∧ okA m.words q := fun q hq => ⟨adr_nn hq, V.blocks.ok hq⟩

theorem c_heapOf (hx : Read v x m.words) (hy : Read v y m.free) (V : VM m N) : Mk Try.prog 57 #[.agg #[x.val, y.val]] v fun r J => ∃ z : Sl, r = z.val ∧ OwnD z (heapM m) J := by
  refine of57 _ _ _ _ ?_
  unfold vc57
  refine Mk.use (c_addressesOf hx) (.refl v) ?_
  rintro _ w1 J1 ⟨z, rfl, hZ⟩ hS hsub
  replace hZ := hZ (hasB_t V.blocks)
  rw [adrs_eq V.blocks] at hZ
  refine ⟨_, _, rfl, ?_⟩
  refine Mk.usew (c_cellsOf (hx.mono hS.sub) (Own.read hZ hS) V.ok_) hS ?_
  rintro _ w2 J2 ⟨c, rfl, hC⟩ hS hsub2
  refine ⟨_, _, rfl, ?_⟩
  refine Trip.mono' (c_trim (hC V.fields) hS) ?_
  rintro _ w3 ⟨c3, rfl, hC3, hS⟩
  refine ⟨_, rfl, J2, (hS.to : St v w3 (J2 ++ [])).left, c3, rfl, ?_⟩
  unfold heapM
  rw [adrs_eq V.blocks]; exact hC3
theorem c_implHeapOf (hx : Read v x m.words) (hy : Read v y m.free) : Mk Try.prog 13 #[.agg #[x.val, y.val]] v fun r J => ∃ z : Sl, r = .tuple #[z.val, .bool (vmemB m)] ∧ OwnD z (hoR m) J := by
  refine of13 _ _ _ _ ?_
  unfold vc13
  refine Mk.use (c_openMemory hx hy) (.refl v) ?_
  rintro _ w1 J1 ⟨xc, mp, rfl, hM⟩ hS hsub
  refine ⟨_, _, _, rfl, fun hc => ?_, fun hc => ?_⟩
  · have hb : ¬ vmem m := fun h => by rw [vmemB_iff.2 h] at hc; cases hc
    exact ⟨[], hS.to, ⟨none, 0, 0⟩, by rw [vmemB_f hb]; rfl, by rw [hoR_f hb]; exact OwnD.nil⟩
  · simp only [decide_eq_true_eq, decide_eq_false_iff_not, Bool.and_eq_true, Bool.and_eq_false_iff, Bool.or_eq_true, Bool.or_eq_false_iff, Bool.not_eq_true', Bool.not_eq_false', Bool.not_true, Bool.not_false, Bool.false_eq_true, Bool.true_eq_false, Int.not_lt, Int.not_le, ge_iff_le, gt_iff_lt, Bool.not_eq_eq_eq_not, Bool.true_or, Bool.or_true, Bool.false_or, Bool.or_false, Bool.true_and, Bool.and_true, false_or, or_false, true_and, and_true, Decidable.not_not] at hc
    obtain ⟨N, J2, J3, V, hC, hMp, rfl⟩ := hM hc
    replace hS : St v w1 (J2 ++ (J3 ++ [])) := hS.perm (by simp)
    have hR := OwnD.read hC hS
    refine St.box (vals := [.slice none 0 0]) hS fun a w3 I3 hCl hS hs => ?_
    refine Cel.store hCl hS (by simp) ?_
    intro w4 I4 hCl hS
    simp [putR] at hCl
    refine Trip.mono' (c_implTrimR hCl (OwnD.read hC hS) hS) ?_
    rintro _ w5 ⟨I5, rfl, hCl, hS⟩
    refine ⟨rfl, _, Cel.load hCl hS rfl, J2, (hS.to : St v w5 (J2 ++ [])).left, _, by rw [hc], ?_⟩
    rw [hoR_t ⟨N, V⟩]
    unfold heapM
    rw [adrs_eq V.blocks]; exact trim_own hC
end
end Go.Vc

namespace Go.Vc
open Go Go.Proofs Go.RowKit
set_option linter.all false
section
variable {u v w : World} {x y xf xg z s t : Sl} {mp : Vl} {l ws fs ad list free : List Int} {h g : List CellD} {m m' : MemD} {b n k f e : Int} {N i : Nat} {a : Addr} {I J K L R R1 : Items} {F F1 : Items → Items}

theorem blkB_iff : blkB ws ad n = true ↔ 1000 ≤ n ∧ n - 1000 ∈ ad ∧ 0 < nth ws (n - 1000) := by unfold blkB; exact decide_eq_true_iff

theorem c_isBlock (hx : Read v x ws) (hb : nB ws N) (hn : InI n) : Fn Try.prog 36 #[.agg #[x.val, y.val], .int .i64 n] v (.bool (blkB ws (adr ws N) n)) := by
  refine of36 _ _ _ _ _ ?_
  unfold vc36
  have hxl := hx.le
  refine Mk.use (c_addressesOf hx) (.refl v) ?_
  rintro _ w1 J1 ⟨z, rfl, hZ⟩ hS hsub
  replace hZ := hZ (hasB_t hb)
  rw [adrs_eq hb] at hZ
  refine ⟨_, _, rfl, _, c_isPointer, n - 1000, fun hc => wrap_i64 (by simp only [decide_eq_true_eq, decide_eq_false_iff_not, Bool.and_eq_true, Bool.and_eq_false_iff, Bool.or_eq_true, Bool.or_eq_false_iff, Bool.not_eq_true', Bool.not_eq_false', Bool.not_true, Bool.not_false, Bool.false_eq_true, Bool.true_eq_false, Int.not_lt, Int.not_le, ge_iff_le, gt_iff_lt, Bool.not_eq_eq_eq_not, Bool.true_or, Bool.or_true, Bool.false_or, Bool.or_false, Bool.true_and, Bool.and_true, false_or, or_false, true_and, and_true, Decidable.not_not] at hc; omega) (by have := hn.2; omega), _, fun _ => c_specIsIn (Own.read hZ hS), n - 1000, fun hc => wrap_i64 (by simp only [decide_eq_true_eq, decide_eq_false_iff_not, Bool.and_eq_true, Bool.and_eq_false_iff, Bool.or_eq_true, Bool.or_eq_false_iff, Bool.not_eq_true', Bool.not_eq_false', Bool.not_true, Bool.not_false, Bool.false_eq_true, Bool.true_eq_false, Int.not_lt, Int.not_le, ge_iff_le, gt_iff_lt, Bool.not_eq_eq_eq_not, Bool.true_or, Bool.or_true, Bool.false_or, Bool.or_false, Bool.true_and, Bool.and_true, false_or, or_false, true_and, and_true, Decidable.not_not] at hc; omega) (by have := hn.2; omega), fun hc => ?_, ?_⟩
  · simp only [decide_eq_true_eq, decide_eq_false_iff_not, Bool.and_eq_true, Bool.and_eq_false_iff, Bool.or_eq_true, Bool.or_eq_false_iff, Bool.not_eq_true', Bool.not_eq_false', Bool.not_true, Bool.not_false, Bool.false_eq_true, Bool.true_eq_false, Int.not_lt, Int.not_le, ge_iff_le, gt_iff_lt, Bool.not_eq_eq_eq_not, Bool.true_or, Bool.or_true, Bool.false_or, Bool.or_false, Bool.true_and, Bool.and_true, false_or, or_false, true_and, and_true, Decidable.not_not] at hc
    have := hb.ok hc.2
    exact hx.ix (by omega) (by have := this.1; omega)
  refine ld_intg (hx.mono hS.sub) (fun hc => ?_) ?_
  · simp only [decide_eq_true_eq, decide_eq_false_iff_not, Bool.and_eq_true, Bool.and_eq_false_iff, Bool.or_eq_true, Bool.or_eq_false_iff, Bool.not_eq_true', Bool.not_eq_false', Bool.not_true, Bool.not_false, Bool.false_eq_true, Bool.true_eq_false, Int.not_lt, Int.not_le, ge_iff_le, gt_iff_lt, Bool.not_eq_eq_eq_not, Bool.true_or, Bool.or_true, Bool.false_or, Bool.or_false, Bool.true_and, Bool.and_true, false_or, or_false, true_and, and_true, Decidable.not_not] at hc
    have := hb.ok hc.2
    exact ⟨by omega, by have := this.1; omega⟩
  refine ⟨?_, hS.sub⟩
  congr 1
  apply Bool.eq_iff_iff.2
  rw [blkB_iff]
  simp only [decide_eq_true_eq, decide_eq_false_iff_not, Bool.and_eq_true, Bool.and_eq_false_iff, Bool.or_eq_true, Bool.or_eq_false_iff, Bool.not_eq_true', Bool.not_eq_false', Bool.not_true, Bool.not_false, Bool.false_eq_true, Bool.true_eq_false, Int.not_lt, Int.not_le, ge_iff_le, gt_iff_lt, Bool.not_eq_eq_eq_not, Bool.true_or, Bool.or_true, Bool.false_or, Bool.or_false, Bool.true_and, Bool.and_true, false_or, or_false, true_and, and_true, Decidable.not_not]
  exact ⟨fun h => ⟨h.1.1, h.1.2, h.2⟩, fun h => ⟨⟨h.1, h.2.1⟩, h.2.2⟩⟩

/-! ### the cell of a word -/
noncomputable def cofR (m : MemD) (n : Int) : Int := bif vmemB m && blkB m.words (adrs m.words) n then idxI (adrs m.words) (n - 1000) else -1
theorem cofR_of (h : ¬ (vmem m ∧ blkB m.words (adrs m.words) n = true)) : cofR m n = -1 := by
  unfold cofR
  have : (vmemB m && blkB m.words (adrs m.words) n) = false := by
    rw [Bool.and_eq_false_iff]
    by_cases hv : vmem m
    · right; cases hb : blkB m.words (adrs m.words) n with
      | true => exact absurd ⟨hv, hb⟩ h
      | false => rfl
    · exact .inl (vmemB_f hv)
  rw [this]; rfl

theorem VM.lb (V : VM m N) (hC : Read v x (cellsL m.words (adr m.words N))) (hM : MpR v mp (ixE m.words N)) (hn : InI n) (hl : m.words.length ≤ 1099511627776) :
    Fn Try.prog 31 #[.agg #[x.val, mp.x], .int .i64 n] v (.tuple #[.int .i64 (blkI m.words (adr m.words N) n), .bool (blkB m.words (adr m.words N) n)]) := by
  refine c_liveBlock hC hM (by rw [cellsL_len, adr_len]) (fun j hj => ?_) (fun j hj => ?_) (fun q hq => by have := (V.blocks.ok hq).1; omega) hn
  · rw [nth_cellsL (by omega) (by rw [adr_len]; omega), cellA_count, nth_adr hj]
  · exact (V.blocks.1 j hj).2.1

theorem c_implCellOf (hx : Read v x m.words) (hy : Read v y m.free) (hn : InI n) : Fn Try.prog 14 #[.agg #[x.val, y.val], .int .i64 n] v (.int .i64 (cofR m n)) := by
  refine of14 _ _ _ _ _ ?_
  unfold vc14
  have hxl := hx.le
  refine Mk.use (c_openMemory hx hy) (.refl v) ?_
  rintro _ w1 J1 ⟨xc, mp, rfl, hM⟩ hS hsub
  refine ⟨_, _, _, rfl, fun hc => ?_, fun hc => ?_⟩
  · have hb : ¬ vmem m := fun h => by rw [vmemB_iff.2 h] at hc; cases hc
    exact ⟨by rw [cofR_of (fun h => hb h.1)], hS.sub⟩
  · simp only [decide_eq_true_eq, decide_eq_false_iff_not, Bool.and_eq_true, Bool.and_eq_false_iff, Bool.or_eq_true, Bool.or_eq_false_iff, Bool.not_eq_true', Bool.not_eq_false', Bool.not_true, Bool.not_false, Bool.false_eq_true, Bool.true_eq_false, Int.not_lt, Int.not_le, ge_iff_le, gt_iff_lt, Bool.not_eq_eq_eq_not, Bool.true_or, Bool.or_true, Bool.false_or, Bool.or_false, Bool.true_and, Bool.and_true, false_or, or_false, true_and, and_true, Decidable.not_not] at hc
    obtain ⟨N, J2, J3, V, hC, hMp, rfl⟩ := hM hc
    have ha := adrs_eq V.blocks
    replace hS : St v w1 (J2 ++ (J3 ++ [])) := hS.perm (by simp)
    refine ⟨_, _, V.lb (OwnD.read hC hS) (hMp.read hS) hn hxl, fun hq => ?_, fun hq => ?_⟩
    · have hb : ¬ blkB m.words (adr m.words N) n = true := fun h => by rw [h] at hq; cases hq
      exact ⟨by rw [cofR_of (by rw [ha]; exact fun h => hb h.2)], hS.sub⟩
    · have hb : blkB m.words (adr m.words N) n = true := by simpa using hq
      refine ⟨?_, hS.sub⟩
      unfold cofR blkI
      rw [hc, ha, hb]; rfl
theorem c_implValidMemory (hx : Read v x m.words) (hy : Read v y m.free) : Fn Try.prog 20 #[.agg #[x.val, y.val]] v (.bool (vmemB m)) := by
  refine of20 _ _ _ _ ?_
  unfold vc20
  refine Mk.use (c_openMemory hx hy) (.refl v) ?_
  rintro _ w1 J1 ⟨xc, mp, rfl, hM⟩ hS hsub
  exact ⟨_, _, _, rfl, rfl, hS.sub⟩
/-! ### one reference more -/
/-- a word: an integer, or a pointer to a live block -/
noncomputable def wdM (m : MemD) (n : Int) : Prop := (-999 ≤ n ∧ n ≤ 999) ∨ blkB m.words (adrs m.words) n = true
def dupM (m : MemD) (n : Int) : MemD := if 1000 ≤ n then ⟨m.words.set (n - 1000).toNat (nth m.words (n - 1000) + 1), m.free⟩ else m
def dupOk (m : MemD) (n : Int) : Prop := vmem m ∧ wdM m n ∧ (1000 ≤ n → nth m.words (n - 1000) ≠ 999999)
noncomputable def dupB (m : MemD) (n : Int) : Bool := @decide (dupOk m n) (Classical.propDecidable _)
theorem dupB_t (h : dupOk m n) : dupB m n = true := by unfold dupB; exact @decide_eq_true _ (Classical.propDecidable _) h
theorem dupB_f (h : ¬ dupOk m n) : dupB m n = false := by unfold dupB; exact @decide_eq_false _ (Classical.propDecidable _) h
theorem dupB_iff : dupB m n = true ↔ dupOk m n := by unfold dupB; exact @decide_eq_true_iff _ (Classical.propDecidable _)
noncomputable def dupR (m : MemD) (n : Int) : MemD := bif dupB m n then dupM m n else ⟨[], []⟩
theorem dupR_t (h : dupOk m n) : dupR m n = dupM m n := by unfold dupR; rw [dupB_t h]; rfl
theorem dupR_f (h : ¬ dupOk m n) : dupR m n = ⟨[], []⟩ := by unfold dupR; rw [dupB_f h]; rfl
theorem wd_blk (h : wdM m n) (hp : 1000 ≤ n) : blkB m.words (adrs m.words) n = true := h.elim (fun h => by omega) id

theorem c_specDupBlock (hx : Read v x m.words) (hy : Read v y m.free) (hn : InI n) :
    Mk Try.prog 18 #[.agg #[x.val, y.val], .int .i64 n] v fun r J => ∃ x' y' : Sl, ∃ J1 J2, r = .tuple #[.agg #[x'.val, y'.val], .bool (dupB m n)] ∧ OwnI x' (dupR m n).words J1 ∧ OwnI y' (dupR m n).free J2 ∧ J = J1 ++ J2 := by
  refine of18 _ _ _ _ _ ?_
  unfold vc18
  have hxl := hx.le
  have bad : ¬ dupOk m n → ∀ w I, St v w (I ++ []) → ∃ J, St v w J ∧ ∃ x' y' : Sl, ∃ J1 J2, Value.tuple #[.agg #[.slice none 0 0, .slice none 0 0], .bool false] = .tuple #[.agg #[x'.val, y'.val], .bool (dupB m n)] ∧ OwnI x' (dupR m n).words J1 ∧ OwnI y' (dupR m n).free J2 ∧ J = J1 ++ J2 :=
    fun hb w I hS => ⟨[], hS.to, ⟨none, 0, 0⟩, ⟨none, 0, 0⟩, [], [], by rw [dupB_f hb]; rfl, by rw [dupR_f hb]; exact OwnI.nil, by rw [dupR_f hb]; exact OwnI.nil, rfl⟩
  refine ⟨_, c_validMemory hx hy, _, fun _ => c_inRange, ?_⟩
  by_cases hv : vmem m
  · obtain ⟨N, V⟩ := hv
    have ha := adrs_eq V.blocks
    rw [vmemB_iff.2 ⟨N, V⟩]
    refine ⟨_, fun _ _ => c_isBlock hx V.blocks hn, fun hc => bad (fun hd => ?_) v [] (.refl v), fun hc => ?_⟩
    · rcases hd.2.1 with h1 | h1
      · simp at hc; omega
      · rw [ha] at h1; rw [h1] at hc; simp at hc
    have hw : wdM m n := by
      unfold wdM
      rw [ha]
      by_cases hb : blkB m.words (adr m.words N) n = true
      · exact .inr hb
      · left; simp [hb] at hc; omega
    refine Mk.use (c_copyMemory hx hy) (.refl v) ?_
    rintro _ w1 _ ⟨t, s, J1, J2, rfl, hO, hP, rfl⟩ hS hsub
    replace hS : St v w1 (J1 ++ (J2 ++ [])) := hS.perm (by simp)
    refine ⟨_, _, rfl, _, c_isPointer, fun hq => ?_, fun hq => ?_⟩
    · simp only [decide_eq_true_eq, decide_eq_false_iff_not, Bool.and_eq_true, Bool.and_eq_false_iff, Bool.or_eq_true, Bool.or_eq_false_iff, Bool.not_eq_true', Bool.not_eq_false', Bool.not_true, Bool.not_false, Bool.false_eq_true, Bool.true_eq_false, Int.not_lt, Int.not_le, ge_iff_le, gt_iff_lt, Bool.not_eq_eq_eq_not, Bool.true_or, Bool.or_true, Bool.false_or, Bool.or_false, Bool.true_and, Bool.and_true, false_or, or_false, true_and, and_true, Decidable.not_not] at hq
      obtain ⟨b1, b2, b3⟩ := blkB_iff.1 (wd_blk hw hq)
      rw [ha] at b2
      have hok := V.blocks.ok b2
      have h2 := hn.2
      refine go_wr (by omega) (by omega) ?_
      refine go_ix hx (by omega) (by have := hok.1; omega) ?_
      refine ld_int (hx.mono hS.sub) (by omega) (by have := hok.1; omega) ?_
      intro c0 c1
      refine ⟨fun hz => bad (fun hd => ?_) w1 (J1 ++ J2) (hS.perm (by simp)), fun hz => ?_⟩
      · simp only [decide_eq_true_eq, decide_eq_false_iff_not, Bool.and_eq_true, Bool.and_eq_false_iff, Bool.or_eq_true, Bool.or_eq_false_iff, Bool.not_eq_true', Bool.not_eq_false', Bool.not_true, Bool.not_false, Bool.false_eq_true, Bool.true_eq_false, Int.not_lt, Int.not_le, ge_iff_le, gt_iff_lt, Bool.not_eq_eq_eq_not, Bool.true_or, Bool.or_true, Bool.false_or, Bool.or_false, Bool.true_and, Bool.and_true, false_or, or_false, true_and, and_true, Decidable.not_not] at hz; exact hd.2.2 hq hz
      simp only [decide_eq_true_eq, decide_eq_false_iff_not, Bool.and_eq_true, Bool.and_eq_false_iff, Bool.or_eq_true, Bool.or_eq_false_iff, Bool.not_eq_true', Bool.not_eq_false', Bool.not_true, Bool.not_false, Bool.false_eq_true, Bool.true_eq_false, Int.not_lt, Int.not_le, ge_iff_le, gt_iff_lt, Bool.not_eq_eq_eq_not, Bool.true_or, Bool.or_true, Bool.false_or, Bool.or_false, Bool.true_and, Bool.and_true, false_or, or_false, true_and, and_true, Decidable.not_not] at hz
      have hd : dupOk m n := ⟨⟨N, V⟩, hw, fun _ => hz⟩
      have hcb := V.lz.cell _ (List.mem_map.2 ⟨_, b2, rfl⟩ : cellA m.words (adr m.words N) (n - 1000) ∈ cellsL m.words (adr m.words N))
      rw [cellA_count] at hcb
      refine go_wr (by omega) (by omega) ?_
      refine go_wr (by omega) (by omega) ?_
      refine go_ix hx (by omega) (by have := hok.1; omega) ?_
      refine ld_int (hx.mono hS.sub) (by omega) (by have := hok.1; omega) ?_
      intro _ _
      refine go_wr (by omega) (by omega) ?_
      refine go_oix (hO v) (by omega) (by have := hok.1; omega) ?_
      refine st_int (hO v) hS (by omega) (by have := hok.1; omega) ⟨by omega, by omega⟩ ?_
      intro w2 I2 hO2 hS
      refine ⟨I2 ++ J2, hS.perm (by simp), t, s, I2, J2, by rw [dupB_t hd], ?_, ?_, rfl⟩
      · rw [dupR_t hd]; unfold dupM; rw [if_pos hq]; exact hO2.toI
      · rw [dupR_t hd]; unfold dupM; rw [if_pos hq]; exact hP
    · simp only [decide_eq_true_eq, decide_eq_false_iff_not, Bool.and_eq_true, Bool.and_eq_false_iff, Bool.or_eq_true, Bool.or_eq_false_iff, Bool.not_eq_true', Bool.not_eq_false', Bool.not_true, Bool.not_false, Bool.false_eq_true, Bool.true_eq_false, Int.not_lt, Int.not_le, ge_iff_le, gt_iff_lt, Bool.not_eq_eq_eq_not, Bool.true_or, Bool.or_true, Bool.false_or, Bool.or_false, Bool.true_and, Bool.and_true, false_or, or_false, true_and, and_true, Decidable.not_not] at hq
      have hd : dupOk m n := ⟨⟨N, V⟩, hw, fun h => by omega⟩
      refine ⟨J1 ++ J2, hS.perm (by simp), t, s, J1, J2, by rw [dupB_t hd], ?_, ?_, rfl⟩
      · rw [dupR_t hd]; unfold dupM; rw [if_neg (by omega)]; exact hO
      · rw [dupR_t hd]; unfold dupM; rw [if_neg (by omega)]; exact hP
  · rw [vmemB_f hv]
    exact ⟨true, fun _ h => (by cases h), fun hc => bad (fun hd => hv hd.1) v [] (.refl v), fun h => by simp at h⟩

theorem c_orNothing {q : Bool} : Fn Try.prog 45 #[.agg #[x.val, y.val], .bool q] v (bif q then .tuple #[.agg #[x.val, y.val], .bool true] else .tuple #[.agg #[.slice none 0 0, .slice none 0 0], .bool false]) := by
  refine of45 _ _ _ _ _ ?_
  unfold vc45
  cases q with
  | true => exact ⟨fun h => (by cases h), fun _ => ⟨rfl, .refl v⟩⟩
  | false => exact ⟨fun _ => ⟨rfl, .refl v⟩, fun h => (by cases h)⟩

end
end Go.Vc
