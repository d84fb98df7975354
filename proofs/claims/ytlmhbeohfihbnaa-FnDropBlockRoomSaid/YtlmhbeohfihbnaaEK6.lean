/- Part of the proofs about the heaps and memories: a law is joined in the text whose name ends in W and the law. -/
import Derived.Test.YtlmhbeohfihbnaaEK5
import Derived.Test.YtlmhbeohfihbnaaEE4
import Derived.Test.YtlmhbeohfihbnaaEGa
namespace Go.Vc
open Go
set_option linter.all false

def zeroF (ws : List Int) (a : Int) : Nat → List Int
  | 0 => ws
  | n + 1 => (zeroF ws a n).set (a + n).toNat 0
/-- the block at a, whose count is 0 now, is the first free one of its size -/
def relM (m : MemD) (a : Int) : MemD :=
  ⟨zeroF ((m.words.set a.toNat 0).set (a + 1).toNat (nth m.free (szA m.words a) * 4 + szA m.words a)) (a + 2) (szA m.words a).toNat, m.free.set (szA m.words a).toNat (a + 1)⟩
def lowM (m : MemD) (a : Int) : MemD := ⟨m.words.set a.toNat (nth m.words a - 1), m.free⟩
def dropW : Nat → MemD → Int → MemD
  | 0, m, _ => m
  | n + 1, m, w => if 1000 ≤ w then (if 0 < nth m.words (w - 1000) - 1 then lowM m (w - 1000) else (fieldsA m.words (w - 1000)).foldl (dropW n) (relM m (w - 1000))) else m

/-- what holds while words are dropped -/
structure MS (m : MemD) (N : Nat) (todo : List Int) : Prop where
  blocks : nB m.words N
  four : m.free.length = 4
  fields : cOk m.words (adr m.words N)
  lz : LZ (cellsL m.words (adr m.words N)) [] (todo.map (mapW (adr m.words N)))
  ptr : ∀ f ∈ todo, 1000 ≤ f → f - 1000 ∈ adr m.words N
  chains : ∀ k : Int, 0 ≤ k → k < 4 → ∃ l, Chain m.words (nth m.free k) l ∧ l.Nodup ∧ ∀ a, a ∈ l ↔ a ∈ freeA m.words (adr m.words N) k

section
variable {ws ws' ad s q l list todo t1 t2 : List Int} {n i j N : Nat} {k x a b h e f c w : Int} {m m' : MemD}

theorem chainOk_iff (hd : list.Nodup) : chainOk ws h list ↔ ∃ l, Chain ws h l ∧ l.Nodup ∧ ∀ a, a ∈ l ↔ a ∈ list := by
  constructor
  · rintro ⟨l, h1, h2, h3, h4⟩
    exact ⟨l, h1, h2, fun a => ⟨h3 a, fun ha => full_sub h2 h3 h4 ha⟩⟩
  · rintro ⟨l, h1, h2, h3⟩
    have e1 := sub_len h2 (fun a ha => (h3 a).1 ha)
    have e2 := sub_len hd (fun a ha => (h3 a).2 ha)
    exact ⟨l, h1, h2, fun a ha => (h3 a).1 ha, by omega⟩
theorem vm_ms : VM m N ↔ MS m N [] := by
  constructor
  · intro V
    exact ⟨V.blocks, V.four, V.fields, V.lz, fun f hf => (by cases hf), fun k k0 k1 => (chainOk_iff (freeA_nodup adr_nodup)).1 (V.chains k k0 k1)⟩
  · intro S
    exact ⟨S.blocks, S.four, S.fields, (cells_lz S.blocks).2 S.lz, fun k k0 k1 => (chainOk_iff (freeA_nodup adr_nodup)).2 (S.chains k k0 k1)⟩

theorem posA_congr (hs : ∀ i, i < n → szA ws' (posA ws i) = szA ws (posA ws i)) : ∀ i, i ≤ n → posA ws' i = posA ws i
  | 0, _ => rfl
  | i + 1, h => by
    rw [posA_succ, posA_succ, posA_congr hs i (by omega), hs i (by omega)]
theorem nB_congr (hb : nB ws N) (hl : ws'.length = ws.length) (hs : ∀ q ∈ adr ws N, szA ws' q = szA ws q ∧ 0 ≤ nth ws' q ∧ 0 ≤ nth ws' (q + 1)) : nB ws' N ∧ adr ws' N = adr ws N := by
  have hp := posA_congr (ws := ws) (ws' := ws') (n := N) (fun i hi => (hs _ (mem_adr.2 ⟨i, hi, rfl⟩)).1)
  refine ⟨⟨fun i hi => ?_, ?_⟩, ?_⟩
  · obtain ⟨o1, o2, o3, o4⟩ := hb.1 i hi
    obtain ⟨s1, s2, s3⟩ := hs _ (mem_adr.2 ⟨i, hi, rfl⟩)
    rw [hp i (by omega)]
    refine ⟨by omega, s2, s3, ?_⟩
    unfold nxtA at o4 ⊢
    rw [s1]; omega
  · rw [hp N (by omega), hl]; exact hb.2
  · unfold adr
    refine List.map_congr_left fun i hi => hp i ?_
    have : i < N := by simpa using hi
    omega

/-- ws' is ws but for the block at a -/
def UpdM (ws ws' : List Int) (a : Int) : Prop := ws'.length = ws.length ∧ ∀ i : Int, 0 ≤ i → (i < a ∨ nxtA ws a ≤ i) → nth ws' i = nth ws i
theorem UpdM.same (U : UpdM ws ws' a) (ha : a ∈ adr ws N) (hb : b ∈ adr ws N) (hne : b ≠ a) {j : Int} (j0 : 0 ≤ j) (j1 : j < 2 + szA ws b) : nth ws' (b + j) = nth ws (b + j) := by
  have hb0 := adr_nn hb
  have ha0 := adr_nn ha
  refine U.2 _ (by omega) ?_
  rcases adr_apart ha hb (Ne.symm hne) with h1 | h1
  · exact .inr (by omega)
  · left; unfold nxtA at h1; omega
theorem UpdM.same0 (U : UpdM ws ws' a) (ha : a ∈ adr ws N) (hb : b ∈ adr ws N) (hne : b ≠ a) : nth ws' b = nth ws b := by
  have := U.same ha hb hne (j := 0) (by omega) (by have := szA_b ws b; omega)
  simpa using this
theorem UpdM.same1 (U : UpdM ws ws' a) (ha : a ∈ adr ws N) (hb : b ∈ adr ws N) (hne : b ≠ a) : nth ws' (b + 1) = nth ws (b + 1) := U.same ha hb hne (by omega) (by have := szA_b ws b; omega)
theorem UpdM.sz (U : UpdM ws ws' a) (ha : a ∈ adr ws N) (hs : szA ws' a = szA ws a) (hb : b ∈ adr ws N) : szA ws' b = szA ws b := by
  by_cases e : b = a
  · rw [e]; exact hs
  · unfold szA; rw [U.same1 ha hb e]
theorem UpdM.fieldsA (U : UpdM ws ws' a) (ha : a ∈ adr ws N) (hb : b ∈ adr ws N) (hne : b ≠ a) : fieldsA ws' b = fieldsA ws b := by
  unfold Go.Vc.fieldsA
  have hs : szA ws' b = szA ws b := by unfold szA; rw [U.same1 ha hb hne]
  rw [hs]
  refine List.map_congr_left fun i hi => ?_
  have hi' : i < (szA ws b).toNat := by simpa using hi
  have := U.same ha hb hne (j := 2 + i) (by omega) (by omega)
  rw [show b + 2 + (i : Int) = b + (2 + i) from by omega]; exact this
theorem UpdM.cellA (U : UpdM ws ws' a) (ha : a ∈ adr ws N) (hb : b ∈ adr ws N) (hne : b ≠ a) : cellA ws' ad b = cellA ws ad b := by
  unfold Go.Vc.cellA
  rw [U.same0 ha hb hne, U.same1 ha hb hne, U.fieldsA ha hb hne]
theorem UpdM.nB (U : UpdM ws ws' a) (hb : nB ws N) (ha : a ∈ adr ws N) (hs : szA ws' a = szA ws a) (h0 : 0 ≤ nth ws' a) (h1 : 0 ≤ nth ws' (a + 1)) : Go.Vc.nB ws' N ∧ adr ws' N = adr ws N := by
  refine nB_congr hb U.1 fun q hq => ⟨U.sz ha hs hq, ?_⟩
  by_cases e : q = a
  · rw [e]; exact ⟨h0, h1⟩
  · rw [U.same0 ha hq e, U.same1 ha hq e]
    exact ⟨(hb.ok hq).2.1, (hb.ok hq).2.2.1⟩
theorem UpdM.cells (U : UpdM ws ws' a) (ha : a ∈ adr ws N) : cellsL ws' (adr ws N) = (cellsL ws (adr ws N)).set (idxI (adr ws N) a).toNat (Go.Vc.cellA ws' (adr ws N) a) := by
  obtain ⟨p0, p1, p2⟩ := idxI_mem ha
  refine nth_ext (by simp [cellsL]) fun k k0 k1 => ?_
  rw [cellsL_len] at k1
  rw [nth_cellsL k0 k1, nth_set _ _ _ _ p0 (by rw [cellsL_len]; exact p1) k0]
  split
  · rename_i e; rw [e, p2]
  · rename_i e
    have hm := nth_mem (l := adr ws N) k0 k1
    have hne : nth (adr ws N) k ≠ a := fun h => e (by rw [← h, idxI_of adr_nodup k0 k1])
    rw [nth_cellsL k0 k1, U.cellA ha hm hne]
theorem Chain.congr : ∀ {l : List Int} {h : Int}, (∀ b ∈ l, nth ws' (b + 1) = nth ws (b + 1)) → Chain ws h l → Chain ws' h l
  | [], h, _, hc => hc
  | b :: l, h, hs, hc => ⟨hc.1, by rw [hs b List.mem_cons_self]; exact Chain.congr (fun b hb => hs b (List.mem_cons_of_mem _ hb)) hc.2⟩

theorem set_upd (h0 : 0 ≤ a) (hx : a ≤ x) (hx2 : x < nxtA ws a) : UpdM ws (ws.set x.toNat c) a := by
  refine ⟨by simp, fun i i0 hi => ?_⟩
  unfold nth List.getD
  rw [List.getElem?_set, if_neg (by omega)]
theorem zeroF_len (ws : List Int) (a : Int) : ∀ n, (zeroF ws a n).length = ws.length
  | 0 => rfl
  | n + 1 => by simp [zeroF, zeroF_len ws a n]
theorem nth_zeroF (h0 : 0 ≤ a) : ∀ (n : Nat), a + n ≤ ws.length → ∀ i : Int, 0 ≤ i → nth (zeroF ws a n) i = if a ≤ i ∧ i < a + n then 0 else nth ws i
  | 0, _, i, _ => by rw [if_neg (by omega)]; rfl
  | n + 1, hl, i, i0 => by
    show nth ((zeroF ws a n).set (a + n).toNat 0) i = _
    rw [nth_set _ _ _ _ (by omega) (by rw [zeroF_len]; omega) i0, nth_zeroF h0 n (by omega) i i0]
    by_cases e : i = a + n
    · rw [if_pos e, if_pos (by omega)]
    · rw [if_neg e]
      by_cases e2 : a ≤ i ∧ i < a + n
      · rw [if_pos e2, if_pos (by omega)]
      · rw [if_neg e2, if_neg (by omega)]

/-- a count is changed; the block stays live -/
theorem MS.count (S : MS m N t1) (ha : a ∈ adr m.words N) (hc0 : 0 < nth m.words a) (hc : 0 < c) (t2 : List Int) (hptr : ∀ f ∈ t2, 1000 ≤ f → f - 1000 ∈ adr m.words N)
    (L : LZ ((cellsL m.words (adr m.words N)).set (idxI (adr m.words N) a).toNat ⟨c, (cellA m.words (adr m.words N) a).tag, (cellA m.words (adr m.words N) a).fields⟩) [] (t2.map (mapW (adr m.words N)))) :
    MS ⟨m.words.set a.toNat c, m.free⟩ N t2 ∧ adr (m.words.set a.toNat c) N = adr m.words N ∧
      cellsL (m.words.set a.toNat c) (adr m.words N) = (cellsL m.words (adr m.words N)).set (idxI (adr m.words N) a).toNat ⟨c, (cellA m.words (adr m.words N) a).tag, (cellA m.words (adr m.words N) a).fields⟩ := by
  have ha0 := adr_nn ha
  obtain ⟨o1, o2, o3, o4⟩ := S.blocks.ok ha
  have hsb := szA_b m.words a
  have U : UpdM m.words (m.words.set a.toNat c) a := set_upd ha0 (by omega) (by unfold nxtA; omega)
  have e0 : nth (m.words.set a.toNat c) a = c := by rw [nth_set _ _ _ _ ha0 (by omega) ha0, if_pos rfl]
  have ej : ∀ j : Int, 0 < j → nth (m.words.set a.toNat c) (a + j) = nth m.words (a + j) := fun j hj => by rw [nth_set _ _ _ _ ha0 (by omega) (by omega), if_neg (by omega)]
  have hs : szA (m.words.set a.toNat c) a = szA m.words a := by unfold szA; rw [ej 1 (by omega)]
  obtain ⟨hb, had⟩ := U.nB S.blocks ha hs (by omega) (by rw [ej 1 (by omega)]; exact o3)
  have hf : fieldsA (m.words.set a.toNat c) a = fieldsA m.words a := by
    unfold fieldsA
    rw [hs]
    refine List.map_congr_left fun i hi => ?_
    rw [show a + 2 + (i : Int) = a + (2 + i) from by omega]; exact ej _ (by omega)
  have hcell : cellA (m.words.set a.toNat c) (adr m.words N) a = ⟨c, (cellA m.words (adr m.words N) a).tag, (cellA m.words (adr m.words N) a).fields⟩ := by
    rw [cellA_live (by omega), cellA_live (by omega), e0, ej 1 (by omega), hf]
  have hcells := U.cells ha
  rw [hcell] at hcells
  have hz : ∀ b ∈ adr m.words N, (nth (m.words.set a.toNat c) b = 0 ↔ nth m.words b = 0) := fun b hb => by
    by_cases e : b = a
    · rw [e, e0]; omega
    · rw [U.same0 ha hb e]
  have hfree : ∀ k, freeA (m.words.set a.toNat c) (adr m.words N) k = freeA m.words (adr m.words N) k := fun k => by
    unfold freeA
    refine List.filter_congr fun b hb => ?_
    rw [U.sz ha hs hb]
    congr 1
    exact decide_eq_decide.2 (hz b hb)
  have hhead : ∀ b ∈ adr m.words N, nth (m.words.set a.toNat c) (b + 1) = nth m.words (b + 1) := fun b hb => by
    by_cases e : b = a
    · rw [e]; exact ej 1 (by omega)
    · exact U.same1 ha hb e
  refine ⟨⟨hb, S.four, ?_, ?_, ?_, fun k k0 k1 => ?_⟩, had, hcells⟩
  · show cOk (m.words.set a.toNat c) (adr (m.words.set a.toNat c) N)
    rw [had]
    intro b hb f hf2
    by_cases e : b = a
    · subst e
      rw [hf] at hf2
      refine ⟨(S.fields b ha f hf2).1, fun h => by omega⟩
    · rw [U.fieldsA ha hb e] at hf2
      rw [U.same0 ha hb e]
      exact S.fields b hb f hf2
  · show LZ (cellsL (m.words.set a.toNat c) (adr (m.words.set a.toNat c) N)) [] (t2.map (mapW (adr (m.words.set a.toNat c) N)))
    rw [had, hcells]; exact L
  · show ∀ f ∈ t2, 1000 ≤ f → f - 1000 ∈ adr (m.words.set a.toNat c) N
    rw [had]; exact hptr
  · obtain ⟨l, l1, l2, l3⟩ := S.chains k k0 k1
    refine ⟨l, ?_, l2, fun b => ?_⟩
    · exact Chain.congr (fun b hb => hhead b (freeA_mem.1 ((l3 b).1 hb)).1) l1
    · show b ∈ l ↔ b ∈ freeA (m.words.set a.toNat c) (adr (m.words.set a.toNat c) N) k
      rw [had, hfree]; exact l3 b

/-- a block is freed -/
theorem MS.rel (S : MS m N t1) (ha : a ∈ adr m.words N) (hc0 : 0 < nth m.words a) (t2 : List Int) (hptr : ∀ f ∈ t2, 1000 ≤ f → f - 1000 ∈ adr m.words N)
    (L : LZ ((cellsL m.words (adr m.words N)).set (idxI (adr m.words N) a).toNat free0) [] (t2.map (mapW (adr m.words N)))) (hfr : ∀ k : Int, 0 ≤ k → k < 4 → 0 ≤ nth m.free k) :
    MS (relM m a) N t2 ∧ adr (relM m a).words N = adr m.words N ∧ cellsL (relM m a).words (adr m.words N) = (cellsL m.words (adr m.words N)).set (idxI (adr m.words N) a).toNat free0 ∧ (relM m a).words.length = m.words.length := by
  have ha0 := adr_nn ha
  obtain ⟨o1, o2, o3, o4⟩ := S.blocks.ok ha
  have hsb := szA_b m.words a
  have hfk := hfr _ hsb.1 hsb.2
  unfold nxtA at o4
  have hlen : (relM m a).words.length = m.words.length := by simp [relM, zeroF_len]
  have hfour := S.four
  have hnth : ∀ i : Int, 0 ≤ i → nth (relM m a).words i = if a + 2 ≤ i ∧ i < a + 2 + szA m.words a then 0 else if i = a + 1 then nth m.free (szA m.words a) * 4 + szA m.words a else if i = a then 0 else nth m.words i := by
    intro i i0
    show nth (zeroF _ (a + 2) (szA m.words a).toNat) i = _
    rw [nth_zeroF (by omega) _ (by simp; omega) i i0, Int.toNat_of_nonneg hsb.1, nth_set _ _ _ _ (by omega) (by simp; omega) i0, nth_set _ _ _ _ ha0 (by omega) i0]
  have U : UpdM m.words (relM m a).words a := by
    refine ⟨hlen, fun i i0 hi => ?_⟩
    unfold nxtA at hi
    rw [hnth i i0, if_neg (by omega), if_neg (by omega), if_neg (by omega)]
  have e0 : nth (relM m a).words a = 0 := by rw [hnth a ha0, if_neg (by omega), if_neg (by omega), if_pos rfl]
  have e1 : nth (relM m a).words (a + 1) = nth m.free (szA m.words a) * 4 + szA m.words a := by rw [hnth _ (by omega), if_neg (by omega), if_pos rfl]
  have hs : szA (relM m a).words a = szA m.words a := by
    show nth (relM m a).words (a + 1) % 4 = _
    rw [e1]; omega
  obtain ⟨hb, had⟩ := U.nB S.blocks ha hs (by omega) (by rw [e1]; omega)
  have hcells := U.cells ha
  rw [cellA_free e0] at hcells
  have hfa : ∀ f ∈ fieldsA (relM m a).words a, f = 0 := fun f hf => by
    obtain ⟨k, k0, k1, rfl⟩ := mem_fieldsA.1 hf
    rw [hs] at k1
    rw [hnth _ (by omega), if_pos (by omega)]
  refine ⟨⟨hb, ?_, ?_, ?_, ?_, fun k k0 k1 => ?_⟩, had, hcells, hlen⟩
  · show (m.free.set _ _).length = 4
    simpa using S.four
  · rw [had]
    intro b hb f hf2
    by_cases e : b = a
    · subst e
      have := hfa f hf2
      exact ⟨fun h => by omega, fun _ => this⟩
    · rw [U.fieldsA ha hb e] at hf2
      rw [U.same0 ha hb e]
      exact S.fields b hb f hf2
  · rw [had, hcells]; exact L
  · rw [had]; exact hptr
  · obtain ⟨l, l1, l2, l3⟩ := S.chains k k0 k1
    have hal : a ∉ l := fun hm => by have := (freeA_mem.1 ((l3 a).1 hm)).2.1; omega
    have hl : Chain (relM m a).words (nth m.free k) l := Chain.congr (fun b hb => U.same1 ha (freeA_mem.1 ((l3 b).1 hb)).1 (fun e => hal (e ▸ hb))) l1
    have hmem : ∀ b, b ∈ freeA (relM m a).words (adr m.words N) k ↔ (b = a ∧ szA m.words a = k) ∨ b ∈ freeA m.words (adr m.words N) k := fun b => by
      rw [freeA_mem, freeA_mem]
      constructor
      · rintro ⟨h1, h2, h3⟩
        rw [U.sz ha hs h1] at h3
        by_cases e : b = a
        · exact .inl ⟨e, by rw [← e]; exact h3⟩
        · rw [U.same0 ha h1 e] at h2
          exact .inr ⟨h1, h2, h3⟩
      · rintro (⟨rfl, h2⟩ | ⟨h1, h2, h3⟩)
        · exact ⟨ha, e0, by rw [hs]; exact h2⟩
        · have e : b ≠ a := fun e => by rw [e] at h2; omega
          exact ⟨h1, by rw [U.same0 ha h1 e]; exact h2, by rw [U.sz ha hs h1]; exact h3⟩
    have hfk2 : nth (relM m a).free k = if k = szA m.words a then a + 1 else nth m.free k := by
      show nth (m.free.set (szA m.words a).toNat (a + 1)) k = _
      rw [nth_set _ _ _ _ hsb.1 (by omega) k0]
    rw [had]
    by_cases e : k = szA m.words a
    · refine ⟨a :: l, ?_, List.nodup_cons.2 ⟨hal, l2⟩, fun b => ?_⟩
      · rw [hfk2, if_pos e]
        refine ⟨rfl, ?_⟩
        rw [e1, ← e, show (nth m.free k * 4 + k) / 4 = nth m.free k from by omega]
        exact hl
      · rw [hmem, List.mem_cons, l3 b]
        constructor
        · rintro (h | h)
          · exact .inl ⟨h, e.symm⟩
          · exact .inr h
        · rintro (⟨h, _⟩ | h)
          · exact .inl h
          · exact .inr h
    · refine ⟨l, by rw [hfk2, if_neg e]; exact hl, l2, fun b => ?_⟩
      rw [hmem, l3 b]
      constructor
      · exact .inr
      · rintro (⟨_, h⟩ | h)
        · exact absurd h.symm e
        · exact h
theorem MS.free_nn (S : MS m N t1) (k0 : 0 ≤ k) (k1 : k < 4) : 0 ≤ nth m.free k := by
  obtain ⟨l, l1, l2, l3⟩ := S.chains k k0 k1
  cases l with
  | nil => rw [show nth m.free k = 0 from l1]; omega
  | cons b r =>
    have h1 := l1.1
    have h2 := adr_nn (freeA_mem.1 ((l3 b).1 List.mem_cons_self)).1
    omega
theorem MS.skip (S : MS m N (w :: todo)) (hw : ¬ 1000 ≤ w) : MS m N todo := by
  have L := S.lz
  rw [List.map_cons, mapW_int hw] at L
  exact ⟨S.blocks, S.four, S.fields, L.skip hw, fun f hf => S.ptr f (List.mem_cons_of_mem _ hf), S.chains⟩
theorem MS.live_ (S : MS m N (w :: todo)) (hw : 1000 ≤ w) : w - 1000 ∈ adr m.words N ∧ 0 < nth m.words (w - 1000) := by
  have hm := S.ptr w List.mem_cons_self hw
  have L := S.lz
  rw [List.map_cons, mapW_ptr hw] at L
  obtain ⟨p0, p1, p2⟩ := idxI_mem hm
  obtain ⟨l1, l2, l3⟩ := live_iff.1 (L.head (by omega))
  rw [show 1000 + idxI (adr m.words N) (w - 1000) - 1000 = idxI (adr m.words N) (w - 1000) from by omega, nth_cellsL p0 p1, p2, cellA_count] at l3
  exact ⟨hm, l3⟩

/-- the ends are the same -/
def Same (m : MemD) (N : Nat) (t1 : List Int) (m' : MemD) (t2 : List Int) : Prop :=
  ∀ X, Ends (cellsL m'.words (adr m.words N)) [] (t2.map (mapW (adr m.words N))) X → Ends (cellsL m.words (adr m.words N)) [] (t1.map (mapW (adr m.words N))) X

theorem MS.low (S : MS m N (w :: todo)) (hw : 1000 ≤ w) (hc : 0 < nth m.words (w - 1000) - 1) :
    MS (lowM m (w - 1000)) N todo ∧ adr (lowM m (w - 1000)).words N = adr m.words N ∧ nlive (cellsL (lowM m (w - 1000)).words (adr m.words N)) = nlive (cellsL m.words (adr m.words N)) ∧ Same m N (w :: todo) (lowM m (w - 1000)) todo := by
  obtain ⟨hm, hl⟩ := S.live_ hw
  obtain ⟨p0, p1, p2⟩ := idxI_mem hm
  have L := S.lz
  rw [List.map_cons, mapW_ptr hw] at L
  have L2 := L.lower (by omega)
  have hE := fun X => Ends.lower (a := X) L (by omega)
  have hnth : nth (cellsL m.words (adr m.words N)) (idxI (adr m.words N) (w - 1000)) = cellA m.words (adr m.words N) (w - 1000) := by rw [nth_cellsL p0 p1, p2]
  unfold lowerZ at L2 hE
  rw [show 1000 + idxI (adr m.words N) (w - 1000) - 1000 = idxI (adr m.words N) (w - 1000) from by omega] at L2 hE
  simp only [hnth, cellA_count] at L2 hE
  rw [if_neg (by omega)] at L2
  simp only [if_neg (show ¬ nth m.words (w - 1000) - 1 = 0 by omega)] at hE
  have ed : decC (cellA m.words (adr m.words N) (w - 1000)) = ⟨nth m.words (w - 1000) - 1, (cellA m.words (adr m.words N) (w - 1000)).tag, (cellA m.words (adr m.words N) (w - 1000)).fields⟩ := by unfold decC; rw [cellA_count]
  rw [ed] at L2 hE
  obtain ⟨S2, had, hcells⟩ := S.count hm hl hc todo (fun f hf => S.ptr f (List.mem_cons_of_mem _ hf)) L2
  refine ⟨S2, had, ?_, fun X hX => ?_⟩
  · show nlive (cellsL (m.words.set _ _) (adr m.words N)) = _
    rw [hcells]
    have := nlive_set (h := cellsL m.words (adr m.words N)) (k := idxI (adr m.words N) (w - 1000)) (c := ⟨nth m.words (w - 1000) - 1, (cellA m.words (adr m.words N) (w - 1000)).tag, (cellA m.words (adr m.words N) (w - 1000)).fields⟩) p0 (by rw [cellsL_len]; exact p1)
    rw [hnth, cellA_count, if_pos hl, if_pos (show 0 < nth m.words (w - 1000) - 1 from hc)] at this
    omega
  · have hX' : Ends (cellsL (m.words.set (w - 1000).toNat (nth m.words (w - 1000) - 1)) (adr m.words N)) [] (todo.map (mapW (adr m.words N))) X := hX
    rw [hcells] at hX'
    rw [List.map_cons, mapW_ptr hw]
    exact hE X hX'
theorem MS.free_ (S : MS m N (w :: todo)) (hw : 1000 ≤ w) (hc : ¬ 0 < nth m.words (w - 1000) - 1) :
    MS (relM m (w - 1000)) N (fieldsA m.words (w - 1000) ++ todo) ∧ adr (relM m (w - 1000)).words N = adr m.words N ∧ nlive (cellsL (relM m (w - 1000)).words (adr m.words N)) + 1 = nlive (cellsL m.words (adr m.words N)) ∧ Same m N (w :: todo) (relM m (w - 1000)) (fieldsA m.words (w - 1000) ++ todo) ∧ (relM m (w - 1000)).words.length = m.words.length := by
  obtain ⟨hm, hl⟩ := S.live_ hw
  obtain ⟨p0, p1, p2⟩ := idxI_mem hm
  have L := S.lz
  rw [List.map_cons, mapW_ptr hw] at L
  have L2 := L.lower (by omega)
  have hE := fun X => Ends.lower (a := X) L (by omega)
  have hnth : nth (cellsL m.words (adr m.words N)) (idxI (adr m.words N) (w - 1000)) = cellA m.words (adr m.words N) (w - 1000) := by rw [nth_cellsL p0 p1, p2]
  unfold lowerZ at L2 hE
  rw [show 1000 + idxI (adr m.words N) (w - 1000) - 1000 = idxI (adr m.words N) (w - 1000) from by omega] at L2 hE
  simp only [hnth, cellA_count] at L2 hE
  have hz : nth m.words (w - 1000) - 1 = 0 := by omega
  simp only [if_pos hz, List.nil_append] at L2 hE
  have hnd : nth ((cellsL m.words (adr m.words N)).set (idxI (adr m.words N) (w - 1000)).toNat (decC (cellA m.words (adr m.words N) (w - 1000)))) (idxI (adr m.words N) (w - 1000)) = decC (cellA m.words (adr m.words N) (w - 1000)) := by
    rw [nth_set _ _ _ _ p0 (by rw [cellsL_len]; exact p1) p0, if_pos rfl]
  have L3 := L2.popT
  have hE2 := fun X hX => hE X (Ends.pop L2 hX)
  rw [hnd, List.set_set] at L3
  simp only [hnd, List.set_set] at hE2
  have hfields : (decC (cellA m.words (adr m.words N) (w - 1000))).fields = (fieldsA m.words (w - 1000)).map (mapW (adr m.words N)) := by
    unfold decC; rw [cellA_live (by omega)]
  rw [hfields, ← List.map_append] at L3
  simp only [hfields, ← List.map_append] at hE2
  obtain ⟨S2, had, hcells, hlen⟩ := S.rel hm hl (fieldsA m.words (w - 1000) ++ todo) (fun f hf hp => by
    rcases List.mem_append.1 hf with hf | hf
    · exact (S.fields _ hm f hf).1 hp
    · exact S.ptr f (List.mem_cons_of_mem _ hf) hp) L3 (fun k k0 k1 => S.free_nn k0 k1)
  refine ⟨S2, had, ?_, fun X hX => ?_, hlen⟩
  · rw [hcells]
    have := nlive_set (h := cellsL m.words (adr m.words N)) (k := idxI (adr m.words N) (w - 1000)) (c := free0) p0 (by rw [cellsL_len]; exact p1)
    rw [hnth, cellA_count, if_pos hl, if_neg (by simp)] at this
    omega
  · rw [hcells] at hX
    rw [List.map_cons, mapW_ptr hw]
    exact hE2 X hX

/-- what dropping a word brings -/
structure Dropped (m : MemD) (N : Nat) (t1 : List Int) (m' : MemD) (t2 : List Int) : Prop where
  ms : MS m' N t2
  adr_ : adr m'.words N = adr m.words N
  live : nlive (cellsL m'.words (adr m.words N)) ≤ nlive (cellsL m.words (adr m.words N))
  same : Same m N t1 m' t2
  len : m'.words.length = m.words.length
theorem Dropped.trans {m2 : MemD} {t3 : List Int} (D : Dropped m N t1 m' t2) (E : Dropped m' N t2 m2 t3) : Dropped m N t1 m2 t3 := by
  have h1 := E.live
  have h2 := E.same
  unfold Same at h2
  rw [D.adr_] at h1 h2
  exact ⟨E.ms, E.adr_.trans D.adr_, Nat.le_trans h1 D.live, fun X hX => D.same X (h2 X hX), E.len.trans D.len⟩

theorem dropW_ok : ∀ (n : Nat) {m : MemD} {w : Int} {todo : List Int}, MS m N (w :: todo) → nlive (cellsL m.words (adr m.words N)) ≤ n → Dropped m N (w :: todo) (dropW (n + 1) m w) todo := by
  intro n
  induction n with
  | zero => ?_
  | succ n ih => ?_
  all_goals
    intro m w todo S hn
    show Dropped m N (w :: todo) (if 1000 ≤ w then _ else m) todo
    by_cases hw : 1000 ≤ w
    · rw [if_pos hw]
      by_cases hc : 0 < nth m.words (w - 1000) - 1
      · rw [if_pos hc]
        obtain ⟨h1, h2, h3, h4⟩ := S.low hw hc
        exact ⟨h1, h2, by omega, h4, by simp [lowM]⟩
      · rw [if_neg hc]
        obtain ⟨h1, h2, h3, h4, h5⟩ := S.free_ hw hc
        first
          | (exfalso; omega)
          | (
             have go : ∀ (fs : List Int) {m : MemD}, MS m N (fs ++ todo) → nlive (cellsL m.words (adr m.words N)) ≤ n → Dropped m N (fs ++ todo) (fs.foldl (dropW (n + 1)) m) todo := by
               intro fs
               induction fs with
               | nil => exact fun S _ => ⟨S, rfl, Nat.le_refl _, fun X hX => hX, rfl⟩
               | cons f r ihf =>
                 intro m S hn
                 have D := ih (todo := r ++ todo) S hn
                 have hlv := D.live
                 rw [List.foldl_cons]
                 exact D.trans (ihf D.ms (by rw [D.adr_]; omega))
             have D0 : Dropped m N (w :: todo) (relM m (w - 1000)) (fieldsA m.words (w - 1000) ++ todo) := ⟨h1, h2, by omega, h4, h5⟩
             exact D0.trans (go _ h1 (by rw [h2]; omega))
            )
    · rw [if_neg hw]
      refine ⟨S.skip hw, rfl, Nat.le_refl _, fun X hX => ?_, rfl⟩
      rw [List.map_cons, mapW_int hw]
      exact Ends.skip hw hX
/-- .. where it ends -/
theorem Dropped.end_ (D : Dropped m N t1 m' []) (S : MS m N t1) : cellsL m'.words (adr m.words N) = goneH (cellsL m.words (adr m.words N)) [] (t1.map (mapW (adr m.words N))) :=
  Ends.eq S.lz (D.same _ (Ends.nil_ _))
end
end Go.Vc

namespace Go.Vc
open Go Go.Proofs Go.RowKit
set_option linter.all false

section
variable {ws ad s q l list todo t1 t2 : List Int} {n i j N : Nat} {k x a b h e f c w : Int} {m m' : MemD}
theorem nth_set_off (h0 : 0 ≤ a) (h1 : a < ws.length) (hj : 0 < k) : nth (ws.set a.toNat c) (a + k) = nth ws (a + k) := by rw [nth_set _ _ _ _ h0 h1 (by omega), if_neg (by omega)]
theorem szA_set (h0 : 0 ≤ a) (h1 : a < ws.length) : szA (ws.set a.toNat c) a = szA ws a := by unfold szA; rw [nth_set_off h0 h1 (by omega)]
theorem fieldsA_set (h0 : 0 ≤ a) (h1 : a < ws.length) : fieldsA (ws.set a.toNat c) a = fieldsA ws a := by
  unfold fieldsA
  rw [szA_set h0 h1]
  refine List.map_congr_left fun i hi => ?_
  rw [show a + 2 + (i : Int) = a + (2 + i) from by omega]; exact nth_set_off h0 h1 (by omega)
theorem MS.free_le (S : MS m N t1) (k0 : 0 ≤ k) (k1 : k < 4) : nth m.free k ≤ m.words.length := by
  obtain ⟨l, l1, l2, l3⟩ := S.chains k k0 k1
  cases l with
  | nil => rw [show nth m.free k = 0 from l1]; omega
  | cons b r =>
    have h1 := l1.1
    have h2 := S.blocks.ok (freeA_mem.1 ((l3 b).1 List.mem_cons_self)).1
    have := h2.1
    omega
theorem dropW_int (hw : ¬ 1000 ≤ w) : dropW (n + 1) m w = m := if_neg hw
theorem dropW_low (hw : 1000 ≤ w) (hc : 0 < nth m.words (w - 1000) - 1) : dropW (n + 1) m w = lowM m (w - 1000) := by
  show (if 1000 ≤ w then _ else m) = _
  rw [if_pos hw, if_pos hc]
theorem dropW_free (hw : 1000 ≤ w) (hc : ¬ 0 < nth m.words (w - 1000) - 1) : dropW (n + 1) m w = (fieldsA m.words (w - 1000)).foldl (dropW n) (relM m (w - 1000)) := by
  show (if 1000 ≤ w then _ else m) = _
  rw [if_pos hw, if_neg hc]
end

section
variable {u v w : World} {x y xf xg z s t : Sl} {mp : Vl} {l ws fs ad list free todo : List Int} {h g : List CellD} {m m' : MemD} {b n k f e : Int} {N i : Nat} {a : Addr} {I J K L R R1 : Items} {F F1 : Items → Items}

def DbP (n : Nat) : Prop := ∀ (N : Nat) (m : MemD) (d : Int) (todo : List Int) (x y : Sl) (I J R : Items) (u w : World), MS m N (d :: todo) → nlive (cellsL m.words (adr m.words N)) ≤ n → InI d → OwnI x m.words I → OwnI y m.free J → St u w (I ++ (J ++ R)) →
    Trip Try.prog 58 #[.agg #[x.val, y.val], .int .i64 d] w fun r w' => ∃ x' y' I' J', r = .agg #[x'.val, y'.val] ∧ OwnI x' (dropW (n + 1) m d).words I' ∧ OwnI y' (dropW (n + 1) m d).free J' ∧ St u w' (I' ++ (J' ++ R))
theorem dropBlock_step (n : Nat) (ih : ∀ k, n = k + 1 → DbP k) : DbP n := by
  intro N m d todo x y I J R u w S hn hd hO hP hS
  refine of58 _ _ _ _ _ ?_
  unfold vc58
  have hxl := (hO u).le
  refine ⟨_, c_isPointer, fun hq => ?_, fun hq => ?_⟩
  · simp only [decide_eq_true_eq, decide_eq_false_iff_not, Bool.and_eq_true, Bool.and_eq_false_iff, Bool.or_eq_true, Bool.or_eq_false_iff, Bool.not_eq_true', Bool.not_eq_false', Bool.not_true, Bool.not_false, Bool.false_eq_true, Bool.true_eq_false, Int.not_lt, Int.not_le, ge_iff_le, gt_iff_lt, Bool.not_eq_eq_eq_not, Bool.true_or, Bool.or_true, Bool.false_or, Bool.or_false, Bool.true_and, Bool.and_true, false_or, or_false, true_and, and_true, Decidable.not_not] at hq
    exact ⟨x, y, I, J, rfl, by rw [dropW_int (by omega)]; exact hO, by rw [dropW_int (by omega)]; exact hP, hS⟩
  simp only [decide_eq_true_eq, decide_eq_false_iff_not, Bool.and_eq_true, Bool.and_eq_false_iff, Bool.or_eq_true, Bool.or_eq_false_iff, Bool.not_eq_true', Bool.not_eq_false', Bool.not_true, Bool.not_false, Bool.false_eq_true, Bool.true_eq_false, Int.not_lt, Int.not_le, ge_iff_le, gt_iff_lt, Bool.not_eq_eq_eq_not, Bool.true_or, Bool.or_true, Bool.false_or, Bool.or_false, Bool.true_and, Bool.and_true, false_or, or_false, true_and, and_true, Decidable.not_not] at hq
  obtain ⟨hm, hl⟩ := S.live_ hq
  have ha0 := adr_nn hm
  obtain ⟨o1, o2, o3, o4⟩ := S.blocks.ok hm
  have hsb := szA_b m.words (d - 1000)
  unfold nxtA at o4
  have hfour := S.four
  have hfO := (hP u).n
  refine go_wr (by omega) (by have := hd.2; omega) ?_
  refine go_oix (hO u) ha0 (by omega) ?_
  refine ld_int (hO.read hS) ha0 (by omega) ?_
  intro c0 c1
  refine go_wr (by omega) (by omega) ?_
  refine go_oix (hO u) ha0 (by omega) ?_
  refine st_int (hO u) hS ha0 (by omega) ⟨by omega, by omega⟩ ?_
  intro w1 I1 hO1 hS
  have hln1 : (m.words.set (d - 1000).toNat (nth m.words (d - 1000) - 1)).length = m.words.length := by simp
  have e0 : nth (m.words.set (d - 1000).toNat (nth m.words (d - 1000) - 1)) (d - 1000) = nth m.words (d - 1000) - 1 := by rw [nth_set _ _ _ _ ha0 (by omega) ha0, if_pos rfl]
  refine go_oix hO1 ha0 (by omega) ?_
  refine ld_int (Own.read hO1 hS) ha0 (by omega) ?_
  rw [e0]
  intro _ _
  refine ⟨fun hc => ?_, fun hc => ?_⟩
  · simp only [decide_eq_true_eq, decide_eq_false_iff_not, Bool.and_eq_true, Bool.and_eq_false_iff, Bool.or_eq_true, Bool.or_eq_false_iff, Bool.not_eq_true', Bool.not_eq_false', Bool.not_true, Bool.not_false, Bool.false_eq_true, Bool.true_eq_false, Int.not_lt, Int.not_le, ge_iff_le, gt_iff_lt, Bool.not_eq_eq_eq_not, Bool.true_or, Bool.or_true, Bool.false_or, Bool.or_false, Bool.true_and, Bool.and_true, false_or, or_false, true_and, and_true, Decidable.not_not] at hc
    exact ⟨x, y, I1, J, rfl, by rw [dropW_low hq hc]; exact hO1.toI, by rw [dropW_low hq hc]; exact hP, hS⟩
  simp only [decide_eq_true_eq, decide_eq_false_iff_not, Bool.and_eq_true, Bool.and_eq_false_iff, Bool.or_eq_true, Bool.or_eq_false_iff, Bool.not_eq_true', Bool.not_eq_false', Bool.not_true, Bool.not_false, Bool.false_eq_true, Bool.true_eq_false, Int.not_lt, Int.not_le, ge_iff_le, gt_iff_lt, Bool.not_eq_eq_eq_not, Bool.true_or, Bool.or_true, Bool.false_or, Bool.or_false, Bool.true_and, Bool.and_true, false_or, or_false, true_and, and_true, Decidable.not_not] at hc
  obtain ⟨S2, had, hlv, hsame, hlen2⟩ := S.free_ hq (by omega)
  obtain ⟨n, rfl⟩ : ∃ k, n = k + 1 := ⟨n - 1, by omega⟩
  replace ih : DbP n := ih n rfl
  have hz : nth m.words (d - 1000) - 1 = 0 := by omega
  rw [hz] at hO1 hln1
  have hsz1 : szA (m.words.set (d - 1000).toNat 0) (d - 1000) = szA m.words (d - 1000) := szA_set ha0 (by omega)
  have hhd : nth (m.words.set (d - 1000).toNat 0) (d - 1000 + 1) = nth m.words (d - 1000 + 1) := nth_set_off ha0 (by omega) (by omega)
  have hf0 := S.free_nn hsb.1 hsb.2
  have hf1 := S.free_le hsb.1 hsb.2
  have hrel : relM m (d - 1000) = ⟨zeroF ((m.words.set (d - 1000).toNat 0).set (d - 1000 + 1).toNat (nth m.free (szA m.words (d - 1000)) * 4 + szA m.words (d - 1000))) (d - 1000 + 2) (szA m.words (d - 1000)).toNat, m.free.set (szA m.words (d - 1000)).toNat (d - 1000 + 1)⟩ := rfl
  have hfl := fieldsA_len m.words (d - 1000)
  have hcut := cut_fields (ws := m.words.set (d - 1000).toNat 0) (a := d - 1000) ha0 (by unfold nxtA; rw [hsz1, hln1]; omega)
  rw [hsz1, fieldsA_set ha0 (by omega)] at hcut
  have hzs := c_sizeAt (n := d - 1000) (Own.read hO1 hS) ha0 (by rw [hln1]; omega) (by rw [hhd]; exact o3)
  rw [hsz1] at hzs
  have hFin : ∀ f ∈ fieldsA m.words (d - 1000), InI f := fun f hf => by
    obtain ⟨k, k0, k1, rfl⟩ := mem_fieldsA.1 hf
    obtain ⟨_, hin⟩ := (hO u).rowsI
    exact hin _ (nth_mem (by omega) (by omega))
  have hfree := dropW_free (n := n + 1) hq (show ¬ 0 < nth m.words (d - 1000) - 1 by omega)
  rw [hfree]
  clear hfree
  generalize hF : fieldsA m.words (d - 1000) = F at *
  generalize hsz : szA m.words (d - 1000) = sz at *
  refine ⟨_, hzs, ?_⟩
  refine go_wr (by omega) (by omega) ?_
  refine go_wr (by omega) (by omega) ?_
  refine go_wr (by omega) (by omega) ?_
  have hxn := hO1.n
  have hxc : x.n ≤ x.c := by obtain ⟨_, hr, _⟩ := Own.read hO1 hS; exact hr.2.1
  refine ⟨⟨by omega, by omega, by omega⟩, ?_⟩
  have hfr : Read w1 (x.cut (d - 1000 + 2) (d - 1000 + 2 + sz) 1) F := by
    have := (Own.read hO1 hS).cut (lo := d - 1000 + 2) (hi := d - 1000 + 2 + sz) (by omega) (by omega) (by rw [hln1]; omega)
    rw [hcut] at this; exact this
  refine Mk.usew (c_copyInts hfr) hS ?_
  rintro _ w2 K ⟨q, rfl, hK⟩ hS _
  replace hK : OwnI q F K := hK.toI
  refine ⟨_, rfl, ?_⟩
  refine go_wr (by omega) (by omega) ?_
  refine go_oix (hP u) hsb.1 (by omega) ?_
  refine ld_int (hP.read hS) hsb.1 (by omega) ?_
  intro _ _
  refine go_wr (by omega) (by omega) ?_
  refine go_wr (by omega) (by omega) ?_
  refine go_oix hO1 (by omega) (by omega) ?_
  refine st_int hO1 hS (by omega) (by omega) ⟨by omega, by omega⟩ ?_
  intro w3 I3 hO3 hS
  refine go_wr (by omega) (by omega) ?_
  refine go_oix (hP u) hsb.1 (by omega) ?_
  refine st_int (hP u) hS hsb.1 (by omega) ⟨by omega, by omega⟩ ?_
  intro w4 J4 hP4 hS
  replace hS : St u w4 (I3 ++ (J4 ++ (K ++ R))) := hS.to
  generalize hW : (m.words.set (d - 1000).toNat 0).set (d - 1000 + 1).toNat (nth m.free sz * 4 + sz) = W at *
  have hWl : W.length = m.words.length := by rw [← hW]; simp
  refine ⟨fun i w => ∃ I, OwnI x (zeroF W (d - 1000 + 2) i.toNat) I ∧ St u w (I ++ (J4 ++ (K ++ R))) ∧ 0 ≤ i ∧ i ≤ sz, fun i _ => (sz - i).toNat, ⟨I3, hO3.toI, hS, by omega, by omega⟩, ?_⟩
  clear hS hO3
  rintro i w5 ⟨I5, hO5, hS, i0, i1⟩
  dsimp only
  have hzl := zeroF_len W (d - 1000 + 2) i.toNat
  refine ⟨fun hi => ?_, fun hi => ?_⟩
  · simp only [decide_eq_true_eq, decide_eq_false_iff_not, Bool.and_eq_true, Bool.and_eq_false_iff, Bool.or_eq_true, Bool.or_eq_false_iff, Bool.not_eq_true', Bool.not_eq_false', Bool.not_true, Bool.not_false, Bool.false_eq_true, Bool.true_eq_false, Int.not_lt, Int.not_le, ge_iff_le, gt_iff_lt, Bool.not_eq_eq_eq_not, Bool.true_or, Bool.or_true, Bool.false_or, Bool.or_false, Bool.true_and, Bool.and_true, false_or, or_false, true_and, and_true, Decidable.not_not] at hi
    refine go_wr (by omega) (by omega) ?_
    refine go_wr (by omega) (by omega) ?_
    refine go_oix (hO5 u) (by omega) (by omega) ?_
    refine st_int (hO5 u) hS (by omega) (by omega) ⟨by omega, by omega⟩ ?_
    intro w6 I6 hO6 hS
    refine go_wr (by omega) (by omega) ?_
    refine ⟨rfl, rfl, rfl, rfl, ⟨I6, ?_, hS, by omega, by omega⟩, by omega⟩
    rw [show (i + 1).toNat = i.toNat + 1 from by omega]
    show OwnI x ((zeroF W (d - 1000 + 2) i.toNat).set (d - 1000 + 2 + (i.toNat : Int)).toNat 0) I6
    rw [Int.toNat_of_nonneg i0]; exact hO6.toI
  simp only [decide_eq_true_eq, decide_eq_false_iff_not, Bool.and_eq_true, Bool.and_eq_false_iff, Bool.or_eq_true, Bool.or_eq_false_iff, Bool.not_eq_true', Bool.not_eq_false', Bool.not_true, Bool.not_false, Bool.false_eq_true, Bool.true_eq_false, Int.not_lt, Int.not_le, ge_iff_le, gt_iff_lt, Bool.not_eq_eq_eq_not, Bool.true_or, Bool.or_true, Bool.false_or, Bool.or_false, Bool.true_and, Bool.and_true, false_or, or_false, true_and, and_true, Decidable.not_not] at hi
  have hisz : i.toNat = sz.toNat := by omega
  rw [hisz] at hO5
  have hO6 : OwnI x (relM m (d - 1000)).words I5 := by rw [hrel]; exact hO5
  have hP6 : OwnI y (relM m (d - 1000)).free J4 := by rw [hrel]; exact hP4.toI
  clear hO5 hP4 hrel
  refine ⟨fun j x y w => ∃ I J, OwnI x ((F.take j.toNat).foldl (dropW (n + 1)) (relM m (d - 1000))).words I ∧ OwnI y ((F.take j.toNat).foldl (dropW (n + 1)) (relM m (d - 1000))).free J ∧ St u w (I ++ (J ++ (K ++ R))) ∧ 0 ≤ j ∧ j ≤ sz ∧
      MS ((F.take j.toNat).foldl (dropW (n + 1)) (relM m (d - 1000))) N (F.drop j.toNat ++ todo) ∧ adr ((F.take j.toNat).foldl (dropW (n + 1)) (relM m (d - 1000))).words N = adr m.words N ∧ nlive (cellsL ((F.take j.toNat).foldl (dropW (n + 1)) (relM m (d - 1000))).words (adr m.words N)) ≤ n,
    fun j _ _ _ => (sz - j).toNat, ⟨I5, J4, hO6, hP6, hS, by omega, by omega, S2, had, by show nlive (cellsL (relM m (d - 1000)).words _) ≤ n; omega⟩, ?_⟩
  clear hO6 hP6 hS
  rintro j x y w7 ⟨I7, J7, hO7, hP7, hS, j0, j1, S7, had7, hlv7⟩
  dsimp only
  refine ⟨fun hj => ?_, fun hj => ?_⟩
  · simp only [decide_eq_true_eq, decide_eq_false_iff_not, Bool.and_eq_true, Bool.and_eq_false_iff, Bool.or_eq_true, Bool.or_eq_false_iff, Bool.not_eq_true', Bool.not_eq_false', Bool.not_true, Bool.not_false, Bool.false_eq_true, Bool.true_eq_false, Int.not_lt, Int.not_le, ge_iff_le, gt_iff_lt, Bool.not_eq_eq_eq_not, Bool.true_or, Bool.or_true, Bool.false_or, Bool.or_false, Bool.true_and, Bool.and_true, false_or, or_false, true_and, and_true, Decidable.not_not] at hj
    have htk := take_nth (l := F) j0 (by omega)
    have hjl : j.toNat < F.length := by omega
    have hmf := nth_mem (l := F) j0 (by omega)
    have hdr : F.drop j.toNat = nth F j :: F.drop (j + 1).toNat := by
      rw [List.drop_eq_getElem_cons hjl, show (j + 1).toNat = j.toNat + 1 from by omega, ← nth_nat hjl, Int.toNat_of_nonneg j0]
    have hfo : (F.take (j + 1).toNat).foldl (dropW (n + 1)) (relM m (d - 1000)) = dropW (n + 1) ((F.take j.toNat).foldl (dropW (n + 1)) (relM m (d - 1000))) (nth F j) := by rw [htk, List.foldl_append]; rfl
    rw [hdr] at S7
    have hq := hK.read hS
    refine go_ix hq j0 (by omega) ?_
    refine ld_int hq j0 (by omega) ?_
    intro _ _
    generalize hmk : (F.take j.toNat).foldl (dropW (n + 1)) (relM m (d - 1000)) = mk at *
    have D := dropW_ok n S7 (by rw [had7]; exact hlv7)
    refine Trip.mono' (ih _ _ _ _ _ _ _ _ _ _ _ S7 (by rw [had7]; exact hlv7) (hFin _ hmf) hO7 hP7 hS) ?_
    rintro _ w8 ⟨x8, y8, I8, J8, rfl, hO8, hP8, hS⟩
    refine ⟨_, _, rfl, ?_⟩
    refine go_wr (by omega) (by omega) ?_
    have hl8 := D.live
    rw [had7] at hl8
    refine ⟨rfl, rfl, ?_, by omega⟩
    rw [hfo]
    exact ⟨I8, J8, hO8, hP8, hS, by omega, by omega, D.ms, D.adr_.trans had7, by omega⟩
  · simp only [decide_eq_true_eq, decide_eq_false_iff_not, Bool.and_eq_true, Bool.and_eq_false_iff, Bool.or_eq_true, Bool.or_eq_false_iff, Bool.not_eq_true', Bool.not_eq_false', Bool.not_true, Bool.not_false, Bool.false_eq_true, Bool.true_eq_false, Int.not_lt, Int.not_le, ge_iff_le, gt_iff_lt, Bool.not_eq_eq_eq_not, Bool.true_or, Bool.or_true, Bool.false_or, Bool.or_false, Bool.true_and, Bool.and_true, false_or, or_false, true_and, and_true, Decidable.not_not] at hj
    rw [take_all (by omega)] at hO7 hP7
    exact ⟨x, y, I7, J7, rfl, hO7, hP7, hS.to⟩
theorem c_dropBlock : ∀ n : Nat, DbP n
  | 0 => dropBlock_step 0 fun k h => by omega
  | n + 1 => dropBlock_step (n + 1) fun k h => by
    have e : k = n := by omega
    rw [e]; exact c_dropBlock n
end
end Go.Vc

namespace Go.Vc
open Go Go.Proofs Go.RowKit
set_option linter.all false

section
variable {ws ws' l : List Int} {n : Nat} {k a v : Int}
theorem nth_extI (hl : ws.length = ws'.length) (hn : ∀ k : Int, 0 ≤ k → k < ws.length → nth ws k = nth ws' k) : ws = ws' := by
  apply List.ext_getElem hl
  intro i h1 h2
  rw [← nth_nat (l := ws) h1, ← nth_nat (l := ws') h2]
  exact hn i (by omega) (by omega)
theorem nth_mid3 (h0 : 0 ≤ a) (h1 : a + n ≤ ws.length) (k0 : 0 ≤ k) : nth (ws.take a.toNat ++ List.replicate n 0 ++ ws.drop (a.toNat + n)) k = if a ≤ k ∧ k < a + n then 0 else nth ws k := by
  unfold nth List.getD
  rw [List.append_assoc]
  by_cases h2 : k < a
  · rw [if_neg (by omega), List.getElem?_append_left (by simp; omega), List.getElem?_take, if_pos (by omega)]
  · rw [List.getElem?_append_right (by simp; omega)]
    have e : (List.take a.toNat ws).length = a.toNat := by simp; omega
    rw [e]
    by_cases h3 : k < a + n
    · rw [if_pos (by omega), List.getElem?_append_left (by simp; omega), List.getElem?_replicate, if_pos (by omega)]; rfl
    · rw [if_neg (by omega), List.getElem?_append_right (by simp; omega), List.getElem?_drop]
      congr 2
      simp; omega
theorem zeroF_mid (h0 : 0 ≤ a) (h1 : a + n ≤ ws.length) {j : Int} (j0 : 0 ≤ j) (j1 : j < a) : (ws.take a.toNat ++ List.replicate n 0 ++ ws.drop (a.toNat + n)).set j.toNat v = zeroF (ws.set j.toNat v) a n := by
  have hl : (ws.take a.toNat ++ List.replicate n 0 ++ ws.drop (a.toNat + n)).length = ws.length := by simp; omega
  refine nth_extI (by rw [List.length_set, hl, zeroF_len, List.length_set]) fun k k0 k1 => ?_
  rw [nth_set _ _ _ _ j0 (by omega) k0, nth_zeroF h0 _ (by simp; omega) k k0, nth_mid3 h0 h1 k0, nth_set _ _ _ _ j0 (by omega) k0]
  by_cases e : k = j
  · rw [if_pos e, if_neg (by omega), if_pos e]
  · rw [if_neg e]
    by_cases e2 : a ≤ k ∧ k < a + n
    · rw [if_pos e2, if_pos e2]
    · rw [if_neg e2, if_neg e2, if_neg e]
end

section
variable {u v w : World} {x y xf xg z s t : Sl} {mp : Vl} {l ws fs ad list free todo : List Int} {h g : List CellD} {m m' : MemD} {b n k f e : Int} {N i : Nat} {a : Addr} {I J K L R R1 : Items} {F F1 : Items → Items}

def DmP (n : Nat) : Prop := ∀ (N : Nat) (m : MemD) (d : Int) (todo : List Int) (a : Addr) (x y : Sl) (C I J R : Items) (u w : World), MS m N (d :: todo) → nlive (cellsL m.words (adr m.words N)) ≤ n → InI d → Cel a [x.val, y.val] C → OwnI x m.words I → OwnI y m.free J → St u w (C ++ (I ++ (J ++ R))) →
    Trip Try.prog 49 #[.pointer (some (a.add 0)), .int .i64 d] w fun r w' => ∃ I' J', r = .tuple #[] ∧ OwnI x (dropW (n + 1) m d).words I' ∧ OwnI y (dropW (n + 1) m d).free J' ∧ St u w' (C ++ (I' ++ (J' ++ R)))
theorem implDrop_step (n : Nat) (ih : ∀ k, n = k + 1 → DmP k) : DmP n := by
  intro N m d todo a x y C I J R u w S hn hd hC hO hP hS
  refine of49 _ _ _ _ ?_
  unfold vc49
  have hxl := (hO u).le
  refine ⟨fun hq => ?_, fun hq => ?_⟩
  · simp only [decide_eq_true_eq, decide_eq_false_iff_not, Bool.and_eq_true, Bool.and_eq_false_iff, Bool.or_eq_true, Bool.or_eq_false_iff, Bool.not_eq_true', Bool.not_eq_false', Bool.not_true, Bool.not_false, Bool.false_eq_true, Bool.true_eq_false, Int.not_lt, Int.not_le, ge_iff_le, gt_iff_lt, Bool.not_eq_eq_eq_not, Bool.true_or, Bool.or_true, Bool.false_or, Bool.or_false, Bool.true_and, Bool.and_true, false_or, or_false, true_and, and_true, Decidable.not_not] at hq
    exact ⟨I, J, rfl, by rw [dropW_int (by omega)]; exact hO, by rw [dropW_int (by omega)]; exact hP, hS⟩
  simp only [decide_eq_true_eq, decide_eq_false_iff_not, Bool.and_eq_true, Bool.and_eq_false_iff, Bool.or_eq_true, Bool.or_eq_false_iff, Bool.not_eq_true', Bool.not_eq_false', Bool.not_true, Bool.not_false, Bool.false_eq_true, Bool.true_eq_false, Int.not_lt, Int.not_le, ge_iff_le, gt_iff_lt, Bool.not_eq_eq_eq_not, Bool.true_or, Bool.or_true, Bool.false_or, Bool.or_false, Bool.true_and, Bool.and_true, false_or, or_false, true_and, and_true, Decidable.not_not] at hq
  obtain ⟨hm, hl⟩ := S.live_ hq
  have ha0 := adr_nn hm
  obtain ⟨o1, o2, o3, o4⟩ := S.blocks.ok hm
  have hsb := szA_b m.words (d - 1000)
  unfold nxtA at o4
  have hfour := S.four
  have hfO := (hP u).n
  refine go_wr (by omega) (by have := hd.2; omega) ?_
  refine ⟨x, Cel.load hC hS rfl, ?_⟩
  refine go_oix (hO u) ha0 (by omega) ?_
  refine ld_int (hO.read hS) ha0 (by omega) ?_
  intro c0 c1
  refine go_wr (by omega) (by omega) ?_
  refine go_oix (hO u) ha0 (by omega) ?_
  refine st_int (hO u) hS ha0 (by omega) ⟨by omega, by omega⟩ ?_
  intro w1 I1 hO1 hS
  have hln1 : (m.words.set (d - 1000).toNat (nth m.words (d - 1000) - 1)).length = m.words.length := by simp
  have e0 : nth (m.words.set (d - 1000).toNat (nth m.words (d - 1000) - 1)) (d - 1000) = nth m.words (d - 1000) - 1 := by rw [nth_set _ _ _ _ ha0 (by omega) ha0, if_pos rfl]
  refine ⟨x, Cel.load hC hS rfl, ?_⟩
  refine go_oix hO1 ha0 (by omega) ?_
  refine ld_int (Own.read hO1 hS) ha0 (by omega) ?_
  rw [e0]
  intro _ _
  refine ⟨fun hc => ?_, fun hc => ?_⟩
  · simp only [decide_eq_true_eq, decide_eq_false_iff_not, Bool.and_eq_true, Bool.and_eq_false_iff, Bool.or_eq_true, Bool.or_eq_false_iff, Bool.not_eq_true', Bool.not_eq_false', Bool.not_true, Bool.not_false, Bool.false_eq_true, Bool.true_eq_false, Int.not_lt, Int.not_le, ge_iff_le, gt_iff_lt, Bool.not_eq_eq_eq_not, Bool.true_or, Bool.or_true, Bool.false_or, Bool.or_false, Bool.true_and, Bool.and_true, false_or, or_false, true_and, and_true, Decidable.not_not] at hc
    exact ⟨I1, J, rfl, by rw [dropW_low hq hc]; exact hO1.toI, by rw [dropW_low hq hc]; exact hP, hS⟩
  simp only [decide_eq_true_eq, decide_eq_false_iff_not, Bool.and_eq_true, Bool.and_eq_false_iff, Bool.or_eq_true, Bool.or_eq_false_iff, Bool.not_eq_true', Bool.not_eq_false', Bool.not_true, Bool.not_false, Bool.false_eq_true, Bool.true_eq_false, Int.not_lt, Int.not_le, ge_iff_le, gt_iff_lt, Bool.not_eq_eq_eq_not, Bool.true_or, Bool.or_true, Bool.false_or, Bool.or_false, Bool.true_and, Bool.and_true, false_or, or_false, true_and, and_true, Decidable.not_not] at hc
  obtain ⟨S2, had, hlv, hsame, hlen2⟩ := S.free_ hq (by omega)
  obtain ⟨n, rfl⟩ : ∃ k, n = k + 1 := ⟨n - 1, by omega⟩
  replace ih : DmP n := ih n rfl
  have hz : nth m.words (d - 1000) - 1 = 0 := by omega
  rw [hz] at hO1 hln1
  have hsz1 : szA (m.words.set (d - 1000).toNat 0) (d - 1000) = szA m.words (d - 1000) := szA_set ha0 (by omega)
  have hhd : nth (m.words.set (d - 1000).toNat 0) (d - 1000 + 1) = nth m.words (d - 1000 + 1) := nth_set_off ha0 (by omega) (by omega)
  have hf0 := S.free_nn hsb.1 hsb.2
  have hf1 := S.free_le hsb.1 hsb.2
  have hrel : relM m (d - 1000) = ⟨zeroF ((m.words.set (d - 1000).toNat 0).set (d - 1000 + 1).toNat (nth m.free (szA m.words (d - 1000)) * 4 + szA m.words (d - 1000))) (d - 1000 + 2) (szA m.words (d - 1000)).toNat, m.free.set (szA m.words (d - 1000)).toNat (d - 1000 + 1)⟩ := rfl
  have hfl := fieldsA_len m.words (d - 1000)
  have hcut := cut_fields (ws := m.words.set (d - 1000).toNat 0) (a := d - 1000) ha0 (by unfold nxtA; rw [hsz1, hln1]; omega)
  rw [hsz1, fieldsA_set ha0 (by omega)] at hcut
  have hFin : ∀ f ∈ fieldsA m.words (d - 1000), InI f := fun f hf => by
    obtain ⟨k, k0, k1, rfl⟩ := mem_fieldsA.1 hf
    obtain ⟨_, hin⟩ := (hO u).rowsI
    exact hin _ (nth_mem (by omega) (by omega))
  have hfree := dropW_free (n := n + 1) hq (show ¬ 0 < nth m.words (d - 1000) - 1 by omega)
  rw [hfree]
  clear hfree
  have hsm : Int.tmod (nth m.words (d - 1000 + 1)) 4 = szA m.words (d - 1000) := by rw [tmod4 o3]; rfl
  generalize hF : fieldsA m.words (d - 1000) = F at *
  generalize hsz : szA m.words (d - 1000) = sz at *
  refine ⟨x, Cel.load hC hS rfl, ?_⟩
  refine go_wr (by omega) (by omega) ?_
  refine go_oix hO1 (by omega) (by omega) ?_
  refine ld_int (Own.read hO1 hS) (by omega) (by omega) ?_
  rw [hhd, hsm]
  intro _ _
  refine ⟨by decide, x, Cel.load hC hS rfl, ?_⟩
  refine go_wr (by omega) (by omega) ?_
  refine go_wr (by omega) (by omega) ?_
  refine go_wr (by omega) (by omega) ?_
  have hxn := hO1.n
  have hxc : x.n ≤ x.c := by obtain ⟨_, hr, _⟩ := Own.read hO1 hS; exact hr.2.1
  refine ⟨⟨by omega, by omega, by omega⟩, ?_⟩
  have hfr : Read w1 (x.cut (d - 1000 + 2) (d - 1000 + 2 + sz) 1) F := by
    have := (Own.read hO1 hS).cut (lo := d - 1000 + 2) (hi := d - 1000 + 2 + sz) (by omega) (by omega) (by rw [hln1]; omega)
    rw [hcut] at this; exact this
  refine Mk.usew (c_cloneInts hfr) hS ?_
  rintro _ w2 K ⟨q, rfl, hK⟩ hS _
  replace hK : OwnI q F K := hK.toI
  refine ⟨_, rfl, x, Cel.load hC hS rfl, ?_⟩
  refine go_wr (by omega) (by omega) ?_
  refine go_wr (by omega) (by omega) ?_
  refine go_wr (by omega) (by omega) ?_
  refine ⟨⟨by omega, by omega, by omega⟩, ?_⟩
  refine go_clear hO1 hS (by omega) (by omega) (by omega) ?_
  intro w3 I3 hO3 hS
  have e5 : (d - 1000 + 2 + sz - (d - 1000 + 2)).toNat = sz.toNat := by omega
  have e6 : (d - 1000 + 2 + sz).toNat = (d - 1000 + 2).toNat + sz.toNat := by omega
  rw [e5, e6] at hO3
  have hln3 : (List.take (d - 1000 + 2).toNat (m.words.set (d - 1000).toNat 0) ++ List.replicate sz.toNat 0 ++ List.drop ((d - 1000 + 2).toNat + sz.toNat) (m.words.set (d - 1000).toNat 0)).length = m.words.length := by simp; omega
  refine ⟨rfl, x, Cel.load hC hS rfl, ?_⟩
  refine go_wr (by omega) (by omega) ?_
  refine ⟨y, Cel.load hC hS rfl, ?_⟩
  refine go_oix (hP u) hsb.1 (by omega) ?_
  refine ld_int (hP.read hS) hsb.1 (by omega) ?_
  intro _ _
  refine go_wr (by omega) (by omega) ?_
  refine go_wr (by omega) (by omega) ?_
  refine go_oix hO3 (by omega) (by omega) ?_
  refine st_int hO3 hS (by omega) (by omega) ⟨by omega, by omega⟩ ?_
  intro w4 I4 hO4 hS
  rw [zeroF_mid (by omega) (by rw [hln1]; omega) (by omega) (by omega), Int.mul_comm 4] at hO4
  refine ⟨y, Cel.load hC hS rfl, ?_⟩
  refine go_wr (by omega) (by omega) ?_
  refine go_oix (hP u) hsb.1 (by omega) ?_
  refine st_int (hP u) hS hsb.1 (by omega) ⟨by omega, by omega⟩ ?_
  intro w5 J4 hP4 hS
  replace hS : St u w5 (C ++ (I4 ++ (J4 ++ (K ++ R)))) := hS.to
  have hO6 : OwnI x (relM m (d - 1000)).words I4 := by rw [hrel]; exact hO4.toI
  have hP6 : OwnI y (relM m (d - 1000)).free J4 := by rw [hrel]; exact hP4.toI
  have hqn := (hK u).n
  clear hO4 hP4 hrel hO3 hfr
  refine ⟨fun j w => ∃ I J, OwnI x ((F.take j.toNat).foldl (dropW (n + 1)) (relM m (d - 1000))).words I ∧ OwnI y ((F.take j.toNat).foldl (dropW (n + 1)) (relM m (d - 1000))).free J ∧ St u w (C ++ (I ++ (J ++ (K ++ R)))) ∧ 0 ≤ j ∧ j ≤ sz ∧
      MS ((F.take j.toNat).foldl (dropW (n + 1)) (relM m (d - 1000))) N (F.drop j.toNat ++ todo) ∧ adr ((F.take j.toNat).foldl (dropW (n + 1)) (relM m (d - 1000))).words N = adr m.words N ∧ nlive (cellsL ((F.take j.toNat).foldl (dropW (n + 1)) (relM m (d - 1000))).words (adr m.words N)) ≤ n,
    fun j _ => (sz - j).toNat, ⟨I4, J4, hO6, hP6, hS, by omega, by omega, S2, had, by show nlive (cellsL (relM m (d - 1000)).words _) ≤ n; omega⟩, ?_⟩
  clear hO6 hP6 hS
  rintro j w7 ⟨I7, J7, hO7, hP7, hS, j0, j1, S7, had7, hlv7⟩
  dsimp only
  refine ⟨fun hj => ?_, fun hj => ?_⟩
  · simp only [decide_eq_true_eq, decide_eq_false_iff_not, Bool.and_eq_true, Bool.and_eq_false_iff, Bool.or_eq_true, Bool.or_eq_false_iff, Bool.not_eq_true', Bool.not_eq_false', Bool.not_true, Bool.not_false, Bool.false_eq_true, Bool.true_eq_false, Int.not_lt, Int.not_le, ge_iff_le, gt_iff_lt, Bool.not_eq_eq_eq_not, Bool.true_or, Bool.or_true, Bool.false_or, Bool.or_false, Bool.true_and, Bool.and_true, false_or, or_false, true_and, and_true, Decidable.not_not] at hj
    have htk := take_nth (l := F) j0 (by omega)
    have hjl : j.toNat < F.length := by omega
    have hmf := nth_mem (l := F) j0 (by omega)
    have hdr : F.drop j.toNat = nth F j :: F.drop (j + 1).toNat := by
      rw [List.drop_eq_getElem_cons hjl, show (j + 1).toNat = j.toNat + 1 from by omega, ← nth_nat hjl, Int.toNat_of_nonneg j0]
    have hfo : (F.take (j + 1).toNat).foldl (dropW (n + 1)) (relM m (d - 1000)) = dropW (n + 1) ((F.take j.toNat).foldl (dropW (n + 1)) (relM m (d - 1000))) (nth F j) := by rw [htk, List.foldl_append]; rfl
    rw [hdr] at S7
    have hq := hK.read hS
    refine go_ix hq j0 (by omega) ?_
    refine ld_int hq j0 (by omega) ?_
    intro _ _
    generalize hmk : (F.take j.toNat).foldl (dropW (n + 1)) (relM m (d - 1000)) = mk at *
    have D := dropW_ok n S7 (by rw [had7]; exact hlv7)
    refine Trip.mono' (ih _ _ _ _ _ _ _ _ _ _ _ _ _ S7 (by rw [had7]; exact hlv7) (hFin _ hmf) hC hO7 hP7 hS) ?_
    rintro _ w8 ⟨I8, J8, rfl, hO8, hP8, hS⟩
    refine ⟨rfl, ?_⟩
    refine go_wr (by omega) (by omega) ?_
    have hl8 := D.live
    rw [had7] at hl8
    refine ⟨?_, by omega⟩
    rw [hfo]
    exact ⟨I8, J8, hO8, hP8, hS, by omega, by omega, D.ms, D.adr_.trans had7, by omega⟩
  · simp only [decide_eq_true_eq, decide_eq_false_iff_not, Bool.and_eq_true, Bool.and_eq_false_iff, Bool.or_eq_true, Bool.or_eq_false_iff, Bool.not_eq_true', Bool.not_eq_false', Bool.not_true, Bool.not_false, Bool.false_eq_true, Bool.true_eq_false, Int.not_lt, Int.not_le, ge_iff_le, gt_iff_lt, Bool.not_eq_eq_eq_not, Bool.true_or, Bool.or_true, Bool.false_or, Bool.or_false, Bool.true_and, Bool.and_true, false_or, or_false, true_and, and_true, Decidable.not_not] at hj
    rw [take_all (by omega)] at hO7 hP7
    exact ⟨I7, J7, rfl, hO7, hP7, hS.to⟩
theorem c_implMemDrop : ∀ n : Nat, DmP n
  | 0 => implDrop_step 0 fun k h => by omega
  | n + 1 => implDrop_step (n + 1) fun k h => by
    have e : k = n := by omega
    rw [e]; exact c_implMemDrop n

/-! ### one reference less -/
def dbOk (m : MemD) (n : Int) : Prop := vmem m ∧ wdM m n ∧ (1000 ≤ n → nth (refL (heapM m)) (idxI (adrs m.words) (n - 1000)) ≠ nth m.words (n - 1000))
noncomputable def dbB (m : MemD) (n : Int) : Bool := @decide (dbOk m n) (Classical.propDecidable _)
theorem dbB_t (h : dbOk m n) : dbB m n = true := by unfold dbB; exact @decide_eq_true _ (Classical.propDecidable _) h
theorem dbB_f (h : ¬ dbOk m n) : dbB m n = false := by unfold dbB; exact @decide_eq_false _ (Classical.propDecidable _) h
theorem dbB_iff : dbB m n = true ↔ dbOk m n := by unfold dbB; exact @decide_eq_true_iff _ (Classical.propDecidable _)
noncomputable def dbM (m : MemD) (n : Int) : MemD := dropW (nOf m.words + 1) m n
noncomputable def dbR (m : MemD) (n : Int) : MemD := bif dbB m n then dbM m n else ⟨[], []⟩
theorem dbR_t (h : dbOk m n) : dbR m n = dbM m n := by unfold dbR; rw [dbB_t h]; rfl
theorem dbR_f (h : ¬ dbOk m n) : dbR m n = ⟨[], []⟩ := by unfold dbR; rw [dbB_f h]; rfl

theorem VM.heapM_eq (V : VM m N) : heapM m = trimL (cellsL m.words (adr m.words N)) := by unfold heapM; rw [adrs_eq V.blocks]
theorem VM.vh (V : VM m N) : vheap (heapM m) := by rw [V.heapM_eq]; exact V.heap
theorem VM.cnn (V : VM m N) : ∀ c ∈ heapM m, 0 ≤ c.count := fun c hc => by
  obtain ⟨q, hq⟩ := VM.ext_ V.blocks
  exact cellsL_count V.blocks c (by rw [hq, ← V.heapM_eq]; exact List.mem_append_left _ hc)
theorem VM.ext (V : VM m N) : Ext ⟨heapM m, []⟩ ⟨cellsL m.words (adr m.words N), []⟩ := by
  obtain ⟨q, hq⟩ := VM.ext_ V.blocks
  exact ⟨⟨q, by rw [V.heapM_eq]; exact hq⟩, rfl, fun p hp => (by cases hp)⟩
/-- a live block's cell is not cut off -/
theorem VM.idx_lt (V : VM m N) (hb : blkB m.words (adr m.words N) n = true) : 0 ≤ idxI (adr m.words N) (n - 1000) ∧ idxI (adr m.words N) (n - 1000) < (heapM m).length ∧ nth (heapM m) (idxI (adr m.words N) (n - 1000)) = cellA m.words (adr m.words N) (n - 1000) := by
  obtain ⟨b1, b2, b3⟩ := blkB_iff.1 hb
  obtain ⟨p0, p1, p2⟩ := idxI_mem b2
  have hc : nth (cellsL m.words (adr m.words N)) (idxI (adr m.words N) (n - 1000)) = cellA m.words (adr m.words N) (n - 1000) := by rw [nth_cellsL p0 p1, p2]
  obtain ⟨t1, t2⟩ := trim_keeps (h := cellsL m.words (adr m.words N)) p0 (by rw [cellsL_len]; exact p1) (by rw [hc, cellA_count]; omega)
  rw [V.heapM_eq]
  exact ⟨p0, t1, t2.trans hc⟩
theorem VM.wd_word (V : VM m N) (hw : wdM m n) : word (heapM m) (mapW (adr m.words N) n) = true := by
  rcases hw with h1 | h1
  · rw [mapW_int (by omega)]; exact word_iff.2 (.inl h1)
  · rw [adrs_eq V.blocks] at h1
    obtain ⟨b1, b2, b3⟩ := blkB_iff.1 h1
    obtain ⟨p0, p1, p2⟩ := V.idx_lt h1
    rw [mapW_ptr b1]
    refine word_iff.2 (.inr (live_iff.2 ⟨by omega, by omega, ?_⟩))
    rw [show 1000 + idxI (adr m.words N) (n - 1000) - 1000 = idxI (adr m.words N) (n - 1000) from by omega, p2, cellA_count]; exact b3
theorem VM.dw (V : VM m N) (hd : dbOk m n) : dwOk (heapM m) (mapW (adr m.words N) n) := by
  refine ⟨V.vh, V.wd_word hd.2.1, fun hp => ?_⟩
  by_cases h1 : 1000 ≤ n
  · have hb := wd_blk hd.2.1 h1
    rw [adrs_eq V.blocks] at hb
    obtain ⟨p0, p1, p2⟩ := V.idx_lt hb
    have hne := hd.2.2 h1
    rw [adrs_eq V.blocks] at hne
    rw [mapW_ptr h1, show 1000 + idxI (adr m.words N) (n - 1000) - 1000 = idxI (adr m.words N) (n - 1000) from by omega, p2, cellA_count]
    exact fun e => hne e.symm
  · rw [mapW_int h1] at hp; exact absurd hp h1
theorem VM.ms1 (V : VM m N) (hd : dbOk m n) : MS m N [n] := by
  have S := vm_ms.1 V
  have D := V.dw hd
  have L : LZ (cellsL m.words (adr m.words N)) [] [mapW (adr m.words N) n] := by
    by_cases h1 : 1000 ≤ n
    · have hb := wd_blk hd.2.1 h1
      rw [adrs_eq V.blocks] at hb
      obtain ⟨p0, p1, p2⟩ := V.idx_lt hb
      have L0 := dw_lz D V.cnn (by rw [mapW_ptr h1]; omega)
      exact V.ext.lzB (z := ⟨heapM m, []⟩) L0
    · have L0 := V.lz
      have hw : word (cellsL m.words (adr m.words N)) n = true := by
        rcases hd.2.1 with h2 | h2
        · exact word_iff.2 (.inl h2)
        · exact absurd (blkB_iff.1 h2).1 h1
      rw [mapW_int h1]
      refine { L0 with ptrT := fun f hf => by rw [List.mem_singleton.1 hf]; exact hw, cnt := fun k k0 k1 hc => ?_ }
      have := L0.cnt k k0 k1 hc
      have e0 : cntF [] k = 0 := by simp [cntF]
      rw [cntF_cons, if_neg (by omega)]; omega
  refine ⟨S.blocks, S.four, S.fields, L, fun f hf hp => ?_, S.chains⟩
  rw [List.mem_singleton.1 hf] at hp ⊢
  have hb := wd_blk hd.2.1 hp
  rw [adrs_eq V.blocks] at hb
  exact (blkB_iff.1 hb).2.1
theorem VM.fuel (V : VM m N) : nlive (cellsL m.words (adr m.words N)) ≤ nOf m.words := by
  rw [nOf_eq V.blocks]
  refine Nat.le_trans List.countP_le_length ?_
  rw [cellsL_len, adr_len]; exact Nat.le_refl _
theorem VM.dropped (V : VM m N) (hd : dbOk m n) : Dropped m N [n] (dbM m n) [] := dropW_ok _ (V.ms1 hd) V.fuel
end
end Go.Vc

namespace Go.Vc
open Go Go.Proofs Go.RowKit
set_option linter.all false
section
variable {u v w : World} {x y xf xg z s t : Sl} {mp : Vl} {l ws fs ad list free todo : List Int} {h g : List CellD} {m m' : MemD} {b n k f e : Int} {N i : Nat} {a : Addr} {I J K L R R1 : Items} {F F1 : Items → Items}

theorem c_specDropBlock (hx : Read v x m.words) (hy : Read v y m.free) (hn : InI n) :
    Mk Try.prog 24 #[.agg #[x.val, y.val], .int .i64 n] v fun r J => ∃ x' y' : Sl, ∃ J1 J2, r = .tuple #[.agg #[x'.val, y'.val], .bool (dbB m n)] ∧ OwnI x' (dbR m n).words J1 ∧ OwnI y' (dbR m n).free J2 ∧ J = J1 ++ J2 := by
  refine of24 _ _ _ _ _ ?_
  unfold vc24
  have hxl := hx.le
  have bad : ¬ dbOk m n → ∀ w I, St v w (I ++ []) → ∃ J, St v w J ∧ ∃ x' y' : Sl, ∃ J1 J2, Value.tuple #[.agg #[.slice none 0 0, .slice none 0 0], .bool false] = .tuple #[.agg #[x'.val, y'.val], .bool (dbB m n)] ∧ OwnI x' (dbR m n).words J1 ∧ OwnI y' (dbR m n).free J2 ∧ J = J1 ++ J2 :=
    fun hb w I hS => ⟨[], hS.to, ⟨none, 0, 0⟩, ⟨none, 0, 0⟩, [], [], by rw [dbB_f hb]; rfl, by rw [dbR_f hb]; exact OwnI.nil, by rw [dbR_f hb]; exact OwnI.nil, rfl⟩
  refine ⟨_, c_validMemory hx hy, _, fun _ => c_inRange, ?_⟩
  by_cases hv : vmem m
  · obtain ⟨N, V⟩ := hv
    have ha := adrs_eq V.blocks
    rw [vmemB_iff.2 ⟨N, V⟩]
    refine ⟨_, fun _ _ => c_isBlock hx V.blocks hn, fun hc => bad (fun hd => ?_) v [] (.refl v), fun hc => ?_⟩
    · rcases hd.2.1 with h1 | h1
      · simp at hc; omega
      · rw [ha] at h1; rw [h1] at hc; simp at hc
    have hw : wdM m n := by
      unfold wdM
      rw [ha]
      by_cases hb : blkB m.words (adr m.words N) n = true
      · exact .inr hb
      · left; simp [hb] at hc; omega
    have tail : dbOk m n → ∀ (w : World) (I : Items), St v w (I ++ []) → Trip Try.prog 37 #[.agg #[x.val, y.val]] w fun r30 w31 =>
                ∃ x32 : Sl, ∃ x33 : Sl, r30 = .agg #[x32.val, x33.val] ∧
                Trip Try.prog 58 #[.agg #[x32.val, x33.val], .int .i64 n] w31 fun r34 w35 =>
                  ∃ x36 : Sl, ∃ x37 : Sl, r34 = .agg #[x36.val, x37.val] ∧
                  ∃ J, St v w35 J ∧ ∃ x' y' : Sl, ∃ J1 J2, Value.tuple #[.agg #[x36.val, x37.val], .bool true] = .tuple #[.agg #[x'.val, y'.val], .bool (dbB m n)] ∧ OwnI x' (dbR m n).words J1 ∧ OwnI y' (dbR m n).free J2 ∧ J = J1 ++ J2 := by
      intro hd w I hS
      refine Mk.use (c_copyMemory hx hy) hS ?_
      rintro _ w1 _ ⟨t, s, J1, J2, rfl, hO, hP, rfl⟩ hS hsub
      replace hS : St v w1 (J1 ++ (J2 ++ (I ++ []))) := hS.perm (by simp)
      refine ⟨_, _, rfl, ?_⟩
      refine Trip.mono' (c_dropBlock (nOf m.words) _ _ _ _ _ _ _ _ _ _ _ (V.ms1 hd) V.fuel hn hO hP hS) ?_
      rintro _ w2 ⟨x', y', J3, J4, rfl, hO2, hP2, hS⟩
      exact ⟨_, _, rfl, J3 ++ J4, (hS.to : St v w2 (J3 ++ (J4 ++ []))).perm (by simp), x', y', J3, J4, by rw [dbB_t hd], by rw [dbR_t hd]; exact hO2, by rw [dbR_t hd]; exact hP2, rfl⟩
    refine ⟨_, c_isPointer, fun hq => ?_, fun hq => ?_⟩
    · simp only [decide_eq_true_eq, decide_eq_false_iff_not, Bool.and_eq_true, Bool.and_eq_false_iff, Bool.or_eq_true, Bool.or_eq_false_iff, Bool.not_eq_true', Bool.not_eq_false', Bool.not_true, Bool.not_false, Bool.false_eq_true, Bool.true_eq_false, Int.not_lt, Int.not_le, ge_iff_le, gt_iff_lt, Bool.not_eq_eq_eq_not, Bool.true_or, Bool.or_true, Bool.false_or, Bool.or_false, Bool.true_and, Bool.and_true, false_or, or_false, true_and, and_true, Decidable.not_not] at hq
      have hb := wd_blk hw hq
      rw [ha] at hb
      obtain ⟨b1, b2, b3⟩ := blkB_iff.1 hb
      have hok := V.blocks.ok b2
      have h2 := hn.2
      obtain ⟨p0, p1, p2⟩ := V.idx_lt hb
      refine Mk.use (c_addressesOf hx) (.refl v) ?_
      rintro _ w1 J1 ⟨z, rfl, hZ⟩ hS hsub
      replace hZ := hZ (hasB_t V.blocks)
      rw [ha] at hZ
      refine ⟨_, _, rfl, ?_⟩
      refine go_wr (by omega) (by omega) ?_
      refine ⟨_, c_placeIn (Own.read hZ hS), ?_⟩
      refine go_wr (by omega) (by omega) ?_
      refine go_ix hx (by omega) (by have := hok.1; omega) ?_
      refine ld_int (hx.mono hS.sub) (by omega) (by have := hok.1; omega) ?_
      intro c0 c1
      refine Mk.use (c_heapOf hx hy V) hS ?_
      rintro _ w2 J2 ⟨c, rfl, hC⟩ hS hsub2
      refine ⟨_, rfl, hsub2, ?_⟩
      refine Mk.usew (c_refsOf (OwnD.read hC hS) (fun c hc => vheap_len V.vh c hc)) hS ?_
      rintro _ w3 J3 ⟨r, rfl, hR⟩ hS hsub3
      have hrl := length_refs (heapM m)
      refine ⟨_, rfl, hsub3, hR.ix p0 (by omega), ?_⟩
      refine ld_int (Own.read (u := v) hR.ofInts hS) p0 (by omega) ?_
      intro d0 d1
      refine ⟨fun hz => bad (fun hd => ?_) w3 (J3 ++ (J2 ++ J1)) (by simpa using hS), fun hz => ?_⟩
      · simp only [decide_eq_true_eq, decide_eq_false_iff_not, Bool.and_eq_true, Bool.and_eq_false_iff, Bool.or_eq_true, Bool.or_eq_false_iff, Bool.not_eq_true', Bool.not_eq_false', Bool.not_true, Bool.not_false, Bool.false_eq_true, Bool.true_eq_false, Int.not_lt, Int.not_le, ge_iff_le, gt_iff_lt, Bool.not_eq_eq_eq_not, Bool.true_or, Bool.or_true, Bool.false_or, Bool.or_false, Bool.true_and, Bool.and_true, false_or, or_false, true_and, and_true, Decidable.not_not] at hz
        have := hd.2.2 hq
        rw [ha] at this; exact this hz
      · simp only [decide_eq_true_eq, decide_eq_false_iff_not, Bool.and_eq_true, Bool.and_eq_false_iff, Bool.or_eq_true, Bool.or_eq_false_iff, Bool.not_eq_true', Bool.not_eq_false', Bool.not_true, Bool.not_false, Bool.false_eq_true, Bool.true_eq_false, Int.not_lt, Int.not_le, ge_iff_le, gt_iff_lt, Bool.not_eq_eq_eq_not, Bool.true_or, Bool.or_true, Bool.false_or, Bool.or_false, Bool.true_and, Bool.and_true, false_or, or_false, true_and, and_true, Decidable.not_not] at hz
        exact tail ⟨⟨N, V⟩, hw, fun _ => by rw [ha]; exact hz⟩ w3 (J3 ++ (J2 ++ J1)) (by simpa using hS)
    · simp only [decide_eq_true_eq, decide_eq_false_iff_not, Bool.and_eq_true, Bool.and_eq_false_iff, Bool.or_eq_true, Bool.or_eq_false_iff, Bool.not_eq_true', Bool.not_eq_false', Bool.not_true, Bool.not_false, Bool.false_eq_true, Bool.true_eq_false, Int.not_lt, Int.not_le, ge_iff_le, gt_iff_lt, Bool.not_eq_eq_eq_not, Bool.true_or, Bool.or_true, Bool.false_or, Bool.or_false, Bool.true_and, Bool.and_true, false_or, or_false, true_and, and_true, Decidable.not_not] at hq
      exact tail ⟨⟨N, V⟩, hw, fun h => by omega⟩ v [] (.refl v)
  · rw [vmemB_f hv]
    exact ⟨true, fun _ h => (by cases h), fun hc => bad (fun hd => hv hd.1) v [] (.refl v), fun h => by simp at h⟩

theorem c_RefsOf (hx : Read v x h) (hv : vheap h) (k0 : 0 ≤ k) (k1 : k < h.length) (hc : 0 < (nth h k).count) : Fn Try.prog 47 #[x.val, .int .i64 k] v (.int .i64 (nth (refL h) k)) := by
  refine of47 _ _ _ _ ?_
  unfold vc47
  have hxn := hx.n
  refine Mk.use (c_checkedHeap hx) (.refl v) ?_
  rintro _ w1 J1 ⟨y, rfl, hY⟩ hS hsub
  have hvb := vheapB_iff.2 hv
  replace hY := hY hvb
  rw [hvb]
  have hrl := length_refs h
  refine ⟨_, _, rfl, fun _ => hx.ix k0 (by omega), ?_⟩
  refine ld_countg (hx.src hS.sub) (fun _ => ⟨k0, by omega⟩) ?_
  refine ⟨fun hq => ?_, fun _ => ?_⟩
  · simp only [decide_eq_true_eq, decide_eq_false_iff_not, Bool.and_eq_true, Bool.and_eq_false_iff, Bool.or_eq_true, Bool.or_eq_false_iff, Bool.not_eq_true', Bool.not_eq_false', Bool.not_true, Bool.not_false, Bool.false_eq_true, Bool.true_eq_false, Int.not_lt, Int.not_le, ge_iff_le, gt_iff_lt, Bool.not_eq_eq_eq_not, Bool.true_or, Bool.or_true, Bool.false_or, Bool.or_false, Bool.true_and, Bool.and_true, false_or, or_false, true_and, and_true, Decidable.not_not] at hq; omega
  refine go_oix hY k0 (by omega) ?_
  refine ld_int (Own.read hY hS) k0 (by omega) ?_
  intro _ _
  exact ⟨rfl, hS.sub⟩

theorem c_implDropBlock (hx : Read v x m.words) (hy : Read v y m.free) (hn : InI n) :
    Mk Try.prog 19 #[.agg #[x.val, y.val], .int .i64 n] v fun r J => ∃ x' y' : Sl, ∃ J1 J2, r = .tuple #[.agg #[x'.val, y'.val], .bool (dbB m n)] ∧ OwnI x' (dbR m n).words J1 ∧ OwnI y' (dbR m n).free J2 ∧ J = J1 ++ J2 := by
  refine of19 _ _ _ _ _ ?_
  unfold vc19
  have hxl := hx.le
  have bad : ¬ dbOk m n → ∀ w I, St v w (I ++ []) → ∃ J, St v w J ∧ ∃ x' y' : Sl, ∃ J1 J2, Value.tuple #[.agg #[.slice none 0 0, .slice none 0 0], .bool false] = .tuple #[.agg #[x'.val, y'.val], .bool (dbB m n)] ∧ OwnI x' (dbR m n).words J1 ∧ OwnI y' (dbR m n).free J2 ∧ J = J1 ++ J2 :=
    fun hb w I hS => ⟨[], hS.to, ⟨none, 0, 0⟩, ⟨none, 0, 0⟩, [], [], by rw [dbB_f hb]; rfl, by rw [dbR_f hb]; exact OwnI.nil, by rw [dbR_f hb]; exact OwnI.nil, rfl⟩
  refine Mk.use (c_openMemory hx hy) (.refl v) ?_
  rintro _ w1 J1 ⟨xc, mp, rfl, hM⟩ hS hsub
  refine ⟨_, _, _, rfl, fun hc => bad (fun hd => ?_) w1 J1 hS, fun hc => ?_⟩
  · rw [vmemB_iff.2 hd.1] at hc; cases hc
  simp only [decide_eq_true_eq, decide_eq_false_iff_not, Bool.and_eq_true, Bool.and_eq_false_iff, Bool.or_eq_true, Bool.or_eq_false_iff, Bool.not_eq_true', Bool.not_eq_false', Bool.not_true, Bool.not_false, Bool.false_eq_true, Bool.true_eq_false, Int.not_lt, Int.not_le, ge_iff_le, gt_iff_lt, Bool.not_eq_eq_eq_not, Bool.true_or, Bool.or_true, Bool.false_or, Bool.or_false, Bool.true_and, Bool.and_true, false_or, or_false, true_and, and_true, Decidable.not_not] at hc
  obtain ⟨N, J2, J3, V, hC, hMp, rfl⟩ := hM hc
  have ha := adrs_eq V.blocks
  refine Mk.use (c_cloneMem hx hy) hS ?_
  rintro _ w2 _ ⟨t, s, J4, J5, rfl, hO, hP, rfl⟩ hS hsub
  replace hS : St v w2 (J4 ++ (J5 ++ (J2 ++ (J3 ++ [])))) := hS.perm (by simp)
  refine ⟨_, _, rfl, ?_⟩
  refine St.box (vals := [.slice none 0 0, .slice none 0 0]) hS fun a w3 I3 hCl hS hs => ?_
  refine Cel.store hCl hS (by simp) ?_
  intro w4 I4 hCl hS
  simp [putR] at hCl
  have hall : ∀ w, St v w (I4 ++ (J4 ++ (J5 ++ (J2 ++ (J3 ++ []))))) → St v w ((I4 ++ (J4 ++ (J5 ++ (J2 ++ J3)))) ++ []) := fun w h => by simpa using h
  refine ⟨_, _, V.lb (OwnD.read hC hS) (hMp.read hS) hn hxl, fun hq => ?_, fun hq => ?_⟩
  · have hb : ¬ blkB m.words (adrs m.words) n = true := fun h => by rw [ha] at h; rw [h] at hq; cases hq
    refine ⟨t, s, ⟨Cel.load hCl hS rfl, Cel.load hCl hS rfl⟩, _, c_isInt, ?_⟩
    refine Fn.use c_orNothing hS ?_
    intro w5 hS hs3
    by_cases hi : -999 ≤ n ∧ n ≤ 999
    · rw [decide_eq_true (show n ≥ -999 from hi.1), decide_eq_true hi.2]
      have hd : dbOk m n := ⟨⟨N, V⟩, .inl hi, fun h => by omega⟩
      have hm : dbM m n = m := dropW_int (by omega)
      exact ⟨t, s, true, rfl, J4 ++ J5, (hS.to : St v w5 (J4 ++ (J5 ++ []))).perm (by simp), t, s, J4, J5, by rw [dbB_t hd], by rw [dbR_t hd, hm]; exact hO, by rw [dbR_t hd, hm]; exact hP, rfl⟩
    · have hf : (decide (n ≥ -999) && decide (n ≤ 999)) = false := by
        rw [Bool.and_eq_false_iff]
        simp only [decide_eq_false_iff_not]; omega
      rw [hf]
      exact ⟨⟨none, 0, 0⟩, ⟨none, 0, 0⟩, false, rfl, bad (fun hd => hd.2.1.elim hi hb) w5 _ (hall w5 hS)⟩
  · have hb : blkB m.words (adr m.words N) n = true := by simpa using hq
    obtain ⟨b1, b2, b3⟩ := blkB_iff.1 hb
    obtain ⟨p0, p1, p2⟩ := V.idx_lt hb
    obtain ⟨q0, q1, q2⟩ := idxI_mem b2
    have hbi : blkI m.words (adr m.words N) n = idxI (adr m.words N) (n - 1000) := by unfold blkI; rw [if_pos hb]
    rw [hbi]
    have hcl : (cellsL m.words (adr m.words N)).length = (adr m.words N).length := cellsL_len
    refine ⟨hC.ix q0 (by omega), ?_⟩
    refine ld_count (OwnD.src hC hS) q0 (by omega) ?_
    rw [nth_cellsL q0 q1, q2, cellA_count]
    intro c0 c1
    have htr := trim_read (OwnD.read hC hS)
    rw [← V.heapM_eq] at htr
    refine Trip.mono' (c_trimmed (OwnD.read hC hS)) ?_
    rintro _ w5 ⟨rfl, hs5⟩
    replace hS := hS.sub_w hs5
    refine ⟨_, rfl, hs5, ?_⟩
    refine Fn.use (c_RefsOf (htr.mono hs5) V.vh p0 p1 (by rw [p2, cellA_count]; exact b3)) hS ?_
    intro w6 hS hs6
    refine ⟨_, rfl, hs6, fun hz => bad (fun hd => ?_) w6 _ (hall w6 hS), fun hz => ?_⟩
    · simp only [decide_eq_true_eq, decide_eq_false_iff_not, Bool.and_eq_true, Bool.and_eq_false_iff, Bool.or_eq_true, Bool.or_eq_false_iff, Bool.not_eq_true', Bool.not_eq_false', Bool.not_true, Bool.not_false, Bool.false_eq_true, Bool.true_eq_false, Int.not_lt, Int.not_le, ge_iff_le, gt_iff_lt, Bool.not_eq_eq_eq_not, Bool.true_or, Bool.or_true, Bool.false_or, Bool.or_false, Bool.true_and, Bool.and_true, false_or, or_false, true_and, and_true, Decidable.not_not] at hz
      have := hd.2.2 b1
      rw [ha] at this; exact this hz.symm
    simp only [decide_eq_true_eq, decide_eq_false_iff_not, Bool.and_eq_true, Bool.and_eq_false_iff, Bool.or_eq_true, Bool.or_eq_false_iff, Bool.not_eq_true', Bool.not_eq_false', Bool.not_true, Bool.not_false, Bool.false_eq_true, Bool.true_eq_false, Int.not_lt, Int.not_le, ge_iff_le, gt_iff_lt, Bool.not_eq_eq_eq_not, Bool.true_or, Bool.or_true, Bool.false_or, Bool.or_false, Bool.true_and, Bool.and_true, false_or, or_false, true_and, and_true, Decidable.not_not] at hz
    have hd : dbOk m n := ⟨⟨N, V⟩, .inr (by rw [ha]; exact hb), fun _ => by rw [ha]; exact fun e => hz e.symm⟩
    refine Trip.mono' (c_implMemDrop (nOf m.words) _ _ _ _ _ _ _ _ _ _ _ _ _ (V.ms1 hd) V.fuel hn hCl hO hP hS) ?_
    rintro _ w7 ⟨J6, J7, rfl, hO2, hP2, hS⟩
    exact ⟨rfl, t, s, ⟨Cel.load hCl hS rfl, Cel.load hCl hS rfl⟩, J6 ++ J7, (hS.to : St v w7 (J6 ++ (J7 ++ []))).perm (by simp), t, s, J6, J7, by rw [dbB_t hd], by rw [dbR_t hd]; exact hO2, by rw [dbR_t hd]; exact hP2, rfl⟩
end
end Go.Vc

namespace Go.Vc
open Go Go.Proofs Go.RowKit
set_option linter.all false

def setL (ws : List Int) (a : Int) (fs : List Int) : List Int := ws.take a.toNat ++ fs ++ ws.drop (a.toNat + fs.length)
def fillL (ws : List Int) (a tag : Int) (fs : List Int) : List Int := setL ((ws.set a.toNat 1).set (a + 1).toNat (tag * 4 + fs.length)) (a + 2) fs
def atM (m : MemD) (k : Int) : Int := if 0 < nth m.free k then nth m.free k - 1 else m.words.length
def baseM (m : MemD) (k : Nat) : List Int := if 0 < nth m.free (k : Int) then m.words else m.words ++ List.replicate (2 + k) 0
def afreeM (m : MemD) (k : Nat) : List Int := if 0 < nth m.free (k : Int) then m.free.set k (nth m.words (atM m k + 1) / 4) else m.free
def allocM (m : MemD) (tag : Int) (fs : List Int) : MemD := ⟨fillL (baseM m fs.length) (atM m fs.length) tag fs, afreeM m fs.length⟩
def abOk (m : MemD) (tag : Int) (fs : List Int) : Prop := vmem m ∧ 0 ≤ tag ∧ tag ≤ 99 ∧ fs.length ≤ 3 ∧ (∀ f ∈ fs, wdM m f) ∧ vmem (allocM m tag fs)
noncomputable def abB (m : MemD) (tag : Int) (fs : List Int) : Bool := @decide (abOk m tag fs) (Classical.propDecidable _)
theorem abB_t {m : MemD} {tag : Int} {fs : List Int} (h : abOk m tag fs) : abB m tag fs = true := by unfold abB; exact @decide_eq_true _ (Classical.propDecidable _) h
theorem abB_f {m : MemD} {tag : Int} {fs : List Int} (h : ¬ abOk m tag fs) : abB m tag fs = false := by unfold abB; exact @decide_eq_false _ (Classical.propDecidable _) h
noncomputable def abR (m : MemD) (tag : Int) (fs : List Int) : MemD := bif abB m tag fs then allocM m tag fs else ⟨[], []⟩
noncomputable def abN (m : MemD) (tag : Int) (fs : List Int) : Int := bif abB m tag fs then 1000 + atM m fs.length else 0

section
variable {ws ws' l fs : List Int} {n N : Nat} {k a v tag : Int} {m : MemD}
theorem setL_len (h0 : 0 ≤ a) (h1 : a + fs.length ≤ ws.length) : (setL ws a fs).length = ws.length := by unfold setL; simp; omega
theorem nth_setL (h0 : 0 ≤ a) (h1 : a + fs.length ≤ ws.length) (k0 : 0 ≤ k) : nth (setL ws a fs) k = if a ≤ k ∧ k < a + fs.length then nth fs (k - a) else nth ws k := by
  unfold setL nth List.getD
  rw [List.append_assoc]
  have e : (List.take a.toNat ws).length = a.toNat := by simp; omega
  by_cases h2 : k < a
  · rw [if_neg (by omega), List.getElem?_append_left (by omega), List.getElem?_take, if_pos (by omega)]
  · rw [List.getElem?_append_right (by omega), e]
    by_cases h3 : k < a + fs.length
    · rw [if_pos (by omega), List.getElem?_append_left (by omega), show k.toNat - a.toNat = (k - a).toNat from by omega]
    · rw [if_neg (by omega), List.getElem?_append_right (by omega), List.getElem?_drop]
      congr 2; omega
theorem setL_snoc (h0 : 0 ≤ a) (h1 : a + fs.length ≤ ws.length) (k0 : 0 ≤ k) (k1 : k < fs.length) : (setL ws a (fs.take k.toNat)).set (a + k).toNat (nth fs k) = setL ws a (fs.take (k + 1).toNat) := by
  have hl1 : (fs.take k.toNat).length = k.toNat := by simp; omega
  have hl2 : (fs.take (k + 1).toNat).length = (k + 1).toNat := by simp; omega
  have e1 := setL_len (ws := ws) (fs := fs.take k.toNat) h0 (by omega)
  have e2 := setL_len (ws := ws) (fs := fs.take (k + 1).toNat) h0 (by omega)
  refine nth_extI (by rw [List.length_set, e1, e2]) fun j j0 j1 => ?_
  rw [nth_set _ _ _ _ (by omega) (by omega) j0, nth_setL h0 (by omega) j0, nth_setL h0 (by omega) j0, hl1, hl2]
  have htk : ∀ (q : Int) (r : Nat), 0 ≤ q → q < r → nth (fs.take r) q = nth fs q := fun q r q0 q1 => by
    unfold nth List.getD
    rw [List.getElem?_take, if_pos (by omega)]
  by_cases e : j = a + k
  · rw [if_pos e, if_pos (by omega), htk _ _ (by omega) (by omega), show j - a = k from by omega]
  · rw [if_neg e]
    by_cases h2 : a ≤ j ∧ j < a + k.toNat
    · rw [if_pos h2, if_pos (by omega), htk _ _ (by omega) (by omega), htk _ _ (by omega) (by omega)]
    · rw [if_neg h2, if_neg (by omega)]
theorem setL_nil (ws : List Int) (a : Int) : setL ws a [] = ws := by unfold setL; simp
theorem abR_t (h : abOk m tag fs) : abR m tag fs = allocM m tag fs := by unfold abR; rw [abB_t h]; rfl
theorem abR_f (h : ¬ abOk m tag fs) : abR m tag fs = ⟨[], []⟩ := by unfold abR; rw [abB_f h]; rfl
theorem abN_t (h : abOk m tag fs) : abN m tag fs = 1000 + atM m fs.length := by unfold abN; rw [abB_t h]; rfl
theorem abN_f (h : ¬ abOk m tag fs) : abN m tag fs = 0 := by unfold abN; rw [abB_f h]; rfl
/-- the place of a new block -/
theorem VM.at_ (V : VM m N) (hk : n ≤ 3) : 0 ≤ atM m n ∧ atM m n + 2 + n ≤ (baseM m n).length ∧ 0 ≤ nth m.free (n : Int) ∧ (0 < nth m.free (n : Int) → atM m n = nth m.free (n : Int) - 1 ∧ atM m n ∈ freeA m.words (adr m.words N) n) := by
  have S := vm_ms.1 V
  have h0 := S.free_nn (k := (n : Int)) (by omega) (by omega)
  obtain ⟨l, l1, l2, l3⟩ := S.chains (n : Int) (by omega) (by omega)
  unfold atM baseM
  by_cases hp : 0 < nth m.free (n : Int)
  · rw [if_pos hp, if_pos hp]
    cases l with
    | nil => have : nth m.free (n : Int) = 0 := l1; omega
    | cons b r =>
      have h1 := l1.1
      have hb := (l3 b).1 List.mem_cons_self
      obtain ⟨f1, f2, f3⟩ := freeA_mem.1 hb
      obtain ⟨o1, o2, o3, o4⟩ := V.blocks.ok f1
      have := adr_nn f1
      unfold nxtA at o4
      have eb : nth m.free (n : Int) - 1 = b := by omega
      refine ⟨by omega, by omega, h0, fun _ => ⟨rfl, ?_⟩⟩
      rw [eb]; exact hb
  · rw [if_neg hp, if_neg hp]
    exact ⟨by omega, by simp; omega, h0, fun h => absurd h hp⟩
end

section
variable {u v w : World} {x y xf xg z s t : Sl} {mp : Vl} {l ws fs ad list free todo : List Int} {h g : List CellD} {m m' : MemD} {b n k f e tag at_ : Int} {N i : Nat} {a : Addr} {I J K L R R1 : Items} {F F1 : Items → Items}

theorem c_fill (hO : OwnI x ws I) (hf : Read u xf fs) (hS : St u w (I ++ R)) (h0 : 0 ≤ at_) (h1 : at_ + 2 + fs.length ≤ ws.length) (ht0 : 0 ≤ tag) (ht1 : tag ≤ 1000) (hl : fs.length ≤ 1000) :
    Trip Try.prog 39 #[.agg #[x.val, y.val], .int .i64 at_, .int .i64 tag, xf.val] w fun r w' => ∃ I', r = .agg #[x.val, y.val] ∧ OwnI x (fillL ws at_ tag fs) I' ∧ St u w' (I' ++ R) := by
  refine of39 _ _ _ _ _ _ _ ?_
  unfold vc39
  have hfn := hf.n
  have hxl := (hO u).le
  refine go_oix (hO u) h0 (by omega) ?_
  refine st_int (hO u) hS h0 (by omega) ⟨by omega, by omega⟩ ?_
  intro w1 I1 hO1 hS
  refine go_wr (by omega) (by omega) ?_
  refine go_wr (by omega) (by omega) ?_
  refine go_wr (by omega) (by omega) ?_
  refine go_oix hO1 (by omega) (by simp; omega) ?_
  refine st_int hO1 hS (by omega) (by simp; omega) ⟨by omega, by omega⟩ ?_
  intro w2 I2 hO2 hS
  rw [hfn] at hO2
  have hwl : ((ws.set at_.toNat 1).set (at_ + 1).toNat (tag * 4 + fs.length)).length = ws.length := by simp
  unfold fillL
  generalize (ws.set at_.toNat 1).set (at_ + 1).toNat (tag * 4 + fs.length) = W at *
  refine ⟨fun i w => ∃ I, OwnI x (setL W (at_ + 2) (fs.take i.toNat)) I ∧ St u w (I ++ R) ∧ 0 ≤ i ∧ i ≤ fs.length, fun i _ => (fs.length - i).toNat, ⟨I2, by rw [show (0 : Int).toNat = 0 from rfl, List.take_zero, setL_nil]; exact hO2.toI, hS, by omega, by omega⟩, ?_⟩
  clear hO1 hO2 hS hO
  rintro i w3 ⟨I3, hO, hS, i0, i1⟩
  dsimp only
  have htl : (fs.take i.toNat).length = i.toNat := by simp; omega
  have hsl := setL_len (ws := W) (fs := fs.take i.toNat) (a := at_ + 2) (by omega) (by omega)
  refine ⟨fun hi => ?_, fun hi => ?_⟩
  · simp only [decide_eq_true_eq, decide_eq_false_iff_not, Bool.and_eq_true, Bool.and_eq_false_iff, Bool.or_eq_true, Bool.or_eq_false_iff, Bool.not_eq_true', Bool.not_eq_false', Bool.not_true, Bool.not_false, Bool.false_eq_true, Bool.true_eq_false, Int.not_lt, Int.not_le, ge_iff_le, gt_iff_lt, Bool.not_eq_eq_eq_not, Bool.true_or, Bool.or_true, Bool.false_or, Bool.or_false, Bool.true_and, Bool.and_true, false_or, or_false, true_and, and_true, Decidable.not_not] at hi
    refine go_wr (by omega) (by omega) ?_
    refine go_wr (by omega) (by omega) ?_
    refine go_ix hf i0 (by omega) ?_
    refine ld_int (hf.mono hS.sub) i0 (by omega) ?_
    intro c0 c1
    refine go_oix (hO u) (by omega) (by omega) ?_
    refine st_int (hO u) hS (by omega) (by omega) ⟨c0, c1⟩ ?_
    intro w4 I4 hO4 hS
    refine go_wr (by omega) (by omega) ?_
    refine ⟨rfl, rfl, rfl, rfl, ⟨I4, ?_, hS, by omega, by omega⟩, by omega⟩
    rw [← setL_snoc (by omega) (by omega) i0 (by omega)]; exact hO4.toI
  · simp only [decide_eq_true_eq, decide_eq_false_iff_not, Bool.and_eq_true, Bool.and_eq_false_iff, Bool.or_eq_true, Bool.or_eq_false_iff, Bool.not_eq_true', Bool.not_eq_false', Bool.not_true, Bool.not_false, Bool.false_eq_true, Bool.true_eq_false, Int.not_lt, Int.not_le, ge_iff_le, gt_iff_lt, Bool.not_eq_eq_eq_not, Bool.true_or, Bool.or_true, Bool.false_or, Bool.or_false, Bool.true_and, Bool.and_true, false_or, or_false, true_and, and_true, Decidable.not_not] at hi
    rw [take_all (by omega)] at hO
    exact ⟨I3, rfl, hO, hS⟩

theorem wdB (hw : (decide (-999 ≤ n) && decide (n ≤ 999)) = true ∨ blkB m.words (adrs m.words) n = true) : wdM m n := by
  rcases hw with h | h
  · left; simp only [decide_eq_true_eq, decide_eq_false_iff_not, Bool.and_eq_true, Bool.and_eq_false_iff, Bool.or_eq_true, Bool.or_eq_false_iff, Bool.not_eq_true', Bool.not_eq_false', Bool.not_true, Bool.not_false, Bool.false_eq_true, Bool.true_eq_false, Int.not_lt, Int.not_le, ge_iff_le, gt_iff_lt, Bool.not_eq_eq_eq_not, Bool.true_or, Bool.or_true, Bool.false_or, Bool.or_false, Bool.true_and, Bool.and_true, false_or, or_false, true_and, and_true, Decidable.not_not] at h; exact h
  · exact .inr h

theorem c_specAllocBlock (hx : Read v x m.words) (hy : Read v y m.free) (hf : Read v xf fs) (hn : InI tag) (hlen : m.words.length ≤ 1000000000) :
    Mk Try.prog 11 #[.agg #[x.val, y.val], .int .i64 tag, xf.val] v fun r J => ∃ x' y' : Sl, ∃ J1 J2, r = .tuple #[.agg #[x'.val, y'.val], .int .i64 (abN m tag fs)] ∧ OwnI x' (abR m tag fs).words J1 ∧ OwnI y' (abR m tag fs).free J2 ∧ J = J1 ++ J2 := by
  refine of11 _ _ _ _ _ _ ?_
  unfold vc11
  have hxl := hx.le
  have hxn := hx.n
  have hfn := hf.n
  have bad : ¬ abOk m tag fs → ∀ w I, St v w (I ++ []) → ∃ J, St v w J ∧ ∃ x' y' : Sl, ∃ J1 J2, Value.tuple #[.agg #[.slice none 0 0, .slice none 0 0], .int .i64 0] = .tuple #[.agg #[x'.val, y'.val], .int .i64 (abN m tag fs)] ∧ OwnI x' (abR m tag fs).words J1 ∧ OwnI y' (abR m tag fs).free J2 ∧ J = J1 ++ J2 :=
    fun hb w I hS => ⟨[], hS.to, ⟨none, 0, 0⟩, ⟨none, 0, 0⟩, [], [], by rw [abN_f hb]; rfl, by rw [abR_f hb]; exact OwnI.nil, by rw [abR_f hb]; exact OwnI.nil, rfl⟩
  refine ⟨_, c_validMemory hx hy, _, fun _ => c_inRange, fun hc => bad (fun hd => ?_) v [] (.refl v), fun hc => ?_⟩
  · rw [vmemB_iff.2 hd.1, decide_eq_true hd.2.1, decide_eq_true hd.2.2.1] at hc
    have := hd.2.2.2.1
    simp at hc; omega
  simp only [decide_eq_true_eq, decide_eq_false_iff_not, Bool.and_eq_true, Bool.and_eq_false_iff, Bool.or_eq_true, Bool.or_eq_false_iff, Bool.not_eq_true', Bool.not_eq_false', Bool.not_true, Bool.not_false, Bool.false_eq_true, Bool.true_eq_false, Int.not_lt, Int.not_le, ge_iff_le, gt_iff_lt, Bool.not_eq_eq_eq_not, Bool.true_or, Bool.or_true, Bool.false_or, Bool.or_false, Bool.true_and, Bool.and_true, false_or, or_false, true_and, and_true, Decidable.not_not] at hc
  obtain ⟨⟨hv, ht0, ht1⟩, hfl⟩ := hc
  have hfl3 : fs.length ≤ 3 := by omega
  obtain ⟨N, V⟩ := vmemB_iff.1 hv
  have ha := adrs_eq V.blocks
  have hfour := V.four
  have hyn := hy.n
  refine ⟨fun i w => St v w [] ∧ 0 ≤ i ∧ i ≤ fs.length ∧ ∀ f ∈ fs.take i.toNat, wdM m f, fun i _ => (fs.length - i).toNat, ⟨.refl v, by omega, by omega, by simp⟩, ?_⟩
  rintro i w ⟨hS, i0, i1, h3⟩
  dsimp only
  refine ⟨fun hi => ?_, fun hi => ?_⟩
  · simp only [decide_eq_true_eq, decide_eq_false_iff_not, Bool.and_eq_true, Bool.and_eq_false_iff, Bool.or_eq_true, Bool.or_eq_false_iff, Bool.not_eq_true', Bool.not_eq_false', Bool.not_true, Bool.not_false, Bool.false_eq_true, Bool.true_eq_false, Int.not_lt, Int.not_le, ge_iff_le, gt_iff_lt, Bool.not_eq_eq_eq_not, Bool.true_or, Bool.or_true, Bool.false_or, Bool.or_false, Bool.true_and, Bool.and_true, false_or, or_false, true_and, and_true, Decidable.not_not] at hi
    have htk := take_nth (l := fs) i0 (by omega)
    have hmf := nth_mem (l := fs) i0 (by omega)
    refine go_ix hf i0 (by omega) ?_
    refine ld_int (hf.mono hS.sub) i0 (by omega) ?_
    intro c0 c1
    refine ⟨_, c_inRange, fun _ => hf.ix i0 (by omega), nth fs i, fun _ => ((hf.mono hS.sub).int i0 (by omega)).1, _, fun _ => c_isBlock (hx.mono hS.sub) V.blocks ⟨c0, c1⟩, fun hq => bad (fun hd => ?_) w [] hS, fun hq => ?_⟩
    · rcases hd.2.2.2.2.1 _ hmf with h1 | h1
      · rw [decide_eq_true h1.1, decide_eq_true h1.2] at hq; cases hq
      · rw [ha] at h1; rw [h1] at hq; simp at hq
    · have hw : wdM m (nth fs i) := wdB (by
        rw [ha]
        cases h1 : (decide (-999 ≤ nth fs i) && decide (nth fs i ≤ 999)) with
        | true => exact .inl rfl
        | false => right; rw [h1] at hq; simpa using hq)
      refine go_wr (by omega) (by omega) ?_
      refine ⟨rfl, rfl, rfl, rfl, ⟨hS, by omega, by omega, ?_⟩, by omega⟩
      rw [htk]; intro f hf
      rcases List.mem_append.1 hf with hf | hf
      · exact h3 f hf
      · rw [List.mem_singleton.1 hf]; exact hw
  simp only [decide_eq_true_eq, decide_eq_false_iff_not, Bool.and_eq_true, Bool.and_eq_false_iff, Bool.or_eq_true, Bool.or_eq_false_iff, Bool.not_eq_true', Bool.not_eq_false', Bool.not_true, Bool.not_false, Bool.false_eq_true, Bool.true_eq_false, Int.not_lt, Int.not_le, ge_iff_le, gt_iff_lt, Bool.not_eq_eq_eq_not, Bool.true_or, Bool.or_true, Bool.false_or, Bool.or_false, Bool.true_and, Bool.and_true, false_or, or_false, true_and, and_true, Decidable.not_not] at hi
  rw [take_all (by omega)] at h3
  obtain ⟨q0, q1, q2, q3⟩ := V.at_ hfl3
  refine Mk.use (c_copyMemory hx hy) hS ?_
  rintro _ w1 _ ⟨t, s, J1, J2, rfl, hO, hP, rfl⟩ hS hsub
  replace hS : St v w1 (J1 ++ (J2 ++ [])) := hS.perm (by simp)
  refine ⟨_, _, rfl, ?_⟩
  refine go_ix hy (by omega) (by omega) ?_
  refine ld_int (hy.mono hS.sub) (by omega) (by omega) ?_
  rw [hfn]
  intro c0 c1
  have tail : ∀ (w : World) (x3 y3 : Sl) (I3 K3 : Items), OwnI x3 (allocM m tag fs).words I3 → OwnI y3 (allocM m tag fs).free K3 → St v w (I3 ++ (K3 ++ [])) →
      ∃ q35 : Bool, (Trip Try.prog 34 #[.agg #[x3.val, y3.val]] w fun r36 w37 => r36 = .bool q35 ∧ Sub w w37) ∧
        ((!q35) = true → ∃ J, St v w J ∧ ∃ x' y' : Sl, ∃ J1 J2, Value.tuple #[.agg #[.slice none 0 0, .slice none 0 0], .int .i64 0] = .tuple #[.agg #[x'.val, y'.val], .int .i64 (abN m tag fs)] ∧ OwnI x' (abR m tag fs).words J1 ∧ OwnI y' (abR m tag fs).free J2 ∧ J = J1 ++ J2) ∧
        ((!q35) = false → ∃ n38 : Int, Wr .i64 (1000 + atM m fs.length) n38 ∧ ∃ J, St v w J ∧ ∃ x' y' : Sl, ∃ J1 J2, Value.tuple #[.agg #[x3.val, y3.val], .int .i64 n38] = .tuple #[.agg #[x'.val, y'.val], .int .i64 (abN m tag fs)] ∧ OwnI x' (abR m tag fs).words J1 ∧ OwnI y' (abR m tag fs).free J2 ∧ J = J1 ++ J2) := by
    intro w x3 y3 I3 K3 hO hP hS
    refine ⟨_, c_validMemory (m := allocM m tag fs) (hO.read hS) (hP.read hS), fun hq => bad (fun hd => ?_) w (I3 ++ K3) (by simpa using hS), fun hq => ?_⟩
    · rw [vmemB_iff.2 hd.2.2.2.2.2] at hq; cases hq
    · have hd : abOk m tag fs := ⟨⟨N, V⟩, ht0, ht1, hfl3, h3, vmemB_iff.1 (by simpa using hq)⟩
      have hb : atM m fs.length ≤ 1099511627776 + 2 := by
        have h4 := (hO v).le
        have h5 : (allocM m tag fs).words.length = (baseM m fs.length).length := by
          show (fillL _ _ _ _).length = _
          unfold fillL
          rw [setL_len (by omega) (by simp; omega)]; simp
        omega
      refine go_wr (by omega) (by omega) ?_
      exact ⟨I3 ++ K3, by simpa using hS, x3, y3, I3, K3, by rw [abN_t hd], by rw [abR_t hd]; exact hO, by rw [abR_t hd]; exact hP, rfl⟩
  refine ⟨fun hp => ?_, fun hp => ?_⟩
  · simp only [decide_eq_true_eq, decide_eq_false_iff_not, Bool.and_eq_true, Bool.and_eq_false_iff, Bool.or_eq_true, Bool.or_eq_false_iff, Bool.not_eq_true', Bool.not_eq_false', Bool.not_true, Bool.not_false, Bool.false_eq_true, Bool.true_eq_false, Int.not_lt, Int.not_le, ge_iff_le, gt_iff_lt, Bool.not_eq_eq_eq_not, Bool.true_or, Bool.or_true, Bool.false_or, Bool.or_false, Bool.true_and, Bool.and_true, false_or, or_false, true_and, and_true, Decidable.not_not] at hp
    obtain ⟨e1, e2⟩ := q3 hp
    obtain ⟨f1, f2, f3⟩ := freeA_mem.1 e2
    obtain ⟨o1, o2, o3, o4⟩ := V.blocks.ok f1
    have hbase : baseM m fs.length = m.words := if_pos hp
    have hafree : afreeM m fs.length = m.free.set fs.length (nth m.words (atM m fs.length + 1) / 4) := if_pos hp
    refine go_ix hy (by omega) (by omega) ?_
    refine ld_int (hy.mono hS.sub) (by omega) (by omega) ?_
    intro _ _
    refine go_wr (by omega) (by omega) ?_
    rw [← e1]
    refine go_wr (by omega) (by omega) ?_
    refine go_ix hx (by omega) (by omega) ?_
    refine ld_int (hx.mono hS.sub) (by omega) (by omega) ?_
    intro d0 d1
    refine ⟨nth m.words (atM m fs.length + 1) / 4, ⟨by decide, by rw [tdiv4 o3]; exact wrap_i64 (by omega) (by omega)⟩, ?_⟩
    refine go_oix (hP v) (by omega) (by omega) ?_
    refine st_int (hP v) hS (by omega) (by omega) ⟨by omega, by omega⟩ ?_
    intro w2 J3 hP3 hS
    refine Trip.mono' (c_fill (ws := baseM m fs.length) (at_ := atM m fs.length) (by rw [hbase]; exact hO) hf hS q0 q1 ht0 (by omega) (by omega)) ?_
    rintro _ w3 ⟨I3, rfl, hO3, hS⟩
    refine ⟨_, _, rfl, tail w3 t s I3 J3 hO3 ?_ hS⟩
    show OwnI s (afreeM m fs.length) J3
    rw [hafree, ← show ((fs.length : Int)).toNat = fs.length from rfl]
    exact hP3.toI
  · simp only [decide_eq_true_eq, decide_eq_false_iff_not, Bool.and_eq_true, Bool.and_eq_false_iff, Bool.or_eq_true, Bool.or_eq_false_iff, Bool.not_eq_true', Bool.not_eq_false', Bool.not_true, Bool.not_false, Bool.false_eq_true, Bool.true_eq_false, Int.not_lt, Int.not_le, ge_iff_le, gt_iff_lt, Bool.not_eq_eq_eq_not, Bool.true_or, Bool.or_true, Bool.false_or, Bool.or_false, Bool.true_and, Bool.and_true, false_or, or_false, true_and, and_true, Decidable.not_not] at hp
    have hbase : baseM m fs.length = m.words ++ List.replicate (2 + fs.length) 0 := if_neg (by omega)
    have hafree : afreeM m fs.length = m.free := if_neg (by omega)
    have hat : atM m fs.length = m.words.length := if_neg (by omega)
    refine go_wr (by omega) (by omega) ?_
    refine Mk.use (c_zeros (by omega) (by omega)) hS ?_
    rintro _ w2 J3 ⟨z, rfl, hZ⟩ hS hsub2
    refine ⟨_, rfl, hsub2, ?_⟩
    refine Own.append (hO v) hS (Own.src hZ hS) (by simp; omega) (by decide) ?_
    intro x5 w5 I5 hO5 hS
    refine ⟨_, rfl, ?_⟩
    rw [hxn]
    rw [show (2 + (fs.length : Int)).toNat = 2 + fs.length from by omega, ← hbase] at hO5
    replace hS : St v w5 (I5 ++ (J2 ++ [])) := hS.to
    have hf5 := c_fill (y := s) (at_ := atM m fs.length) hO5.toI hf hS q0 q1 ht0 (by omega) (by omega)
    rw [hat] at hf5
    refine Trip.mono' hf5 ?_
    rintro _ w3 ⟨I3, rfl, hO3, hS⟩
    rw [← hat] at hO3 ⊢
    refine ⟨_, _, rfl, tail w3 x5 s I3 J2 hO3 ?_ hS⟩
    show OwnI s (afreeM m fs.length) J2
    rw [hafree]; exact hP

theorem c_implAllocBlock (hx : Read v x m.words) (hy : Read v y m.free) (hf : Read v xf fs) (hn : InI tag) (hlen : m.words.length ≤ 1000000000) :
    Mk Try.prog 10 #[.agg #[x.val, y.val], .int .i64 tag, xf.val] v fun r J => ∃ x' y' : Sl, ∃ J1 J2, r = .tuple #[.agg #[x'.val, y'.val], .int .i64 (abN m tag fs)] ∧ OwnI x' (abR m tag fs).words J1 ∧ OwnI y' (abR m tag fs).free J2 ∧ J = J1 ++ J2 := by
  refine of10j _ _ _ _ _ _ ?_
  unfold vc10j
  have hxl := hx.le
  have hxn := hx.n
  have hfn := hf.n
  have bad : ¬ abOk m tag fs → ∀ w I, St v w (I ++ []) → ∃ J, St v w J ∧ ∃ x' y' : Sl, ∃ J1 J2, Value.tuple #[.agg #[.slice none 0 0, .slice none 0 0], .int .i64 0] = .tuple #[.agg #[x'.val, y'.val], .int .i64 (abN m tag fs)] ∧ OwnI x' (abR m tag fs).words J1 ∧ OwnI y' (abR m tag fs).free J2 ∧ J = J1 ++ J2 :=
    fun hb w I hS => ⟨[], hS.to, ⟨none, 0, 0⟩, ⟨none, 0, 0⟩, [], [], by rw [abN_f hb]; rfl, by rw [abR_f hb]; exact OwnI.nil, by rw [abR_f hb]; exact OwnI.nil, rfl⟩
  refine Mk.use (c_openMemory hx hy) (.refl v) ?_
  rintro _ w1 J1 ⟨xc, mp, rfl, hM⟩ hS hsub
  refine ⟨_, _, _, rfl, fun hc => bad (fun hd => ?_) w1 J1 hS, fun hc => ?_⟩
  · rw [vmemB_iff.2 hd.1] at hc
    have h1 := hd.2.1
    have h2 := hd.2.2.1
    have h3 := hd.2.2.2.1
    simp at hc; omega
  simp only [decide_eq_true_eq, decide_eq_false_iff_not, Bool.and_eq_true, Bool.and_eq_false_iff, Bool.or_eq_true, Bool.or_eq_false_iff, Bool.not_eq_true', Bool.not_eq_false', Bool.not_true, Bool.not_false, Bool.false_eq_true, Bool.true_eq_false, Int.not_lt, Int.not_le, ge_iff_le, gt_iff_lt, Bool.not_eq_eq_eq_not, Bool.true_or, Bool.or_true, Bool.false_or, Bool.or_false, Bool.true_and, Bool.and_true, false_or, or_false, true_and, and_true, Decidable.not_not] at hc
  obtain ⟨⟨⟨hv, ht0⟩, ht1⟩, hfl⟩ := hc
  have hfl3 : fs.length ≤ 3 := by omega
  obtain ⟨N, J2, J3, V, hC, hMp, rfl⟩ := hM hv
  have ha := adrs_eq V.blocks
  have hfour := V.four
  have hyn := hy.n
  replace hS : St v w1 (J2 ++ (J3 ++ [])) := hS.perm (by simp)
  refine ⟨fun i w => St v w (J2 ++ (J3 ++ [])) ∧ 0 ≤ i ∧ i ≤ fs.length ∧ ∀ f ∈ fs.take i.toNat, wdM m f, fun i _ => (fs.length - i).toNat, ⟨hS, by omega, by omega, by simp⟩, ?_⟩
  clear hS
  rintro i w ⟨hS, i0, i1, h3⟩
  dsimp only
  refine ⟨fun hi => ?_, fun hi => ?_⟩
  · simp only [decide_eq_true_eq, decide_eq_false_iff_not, Bool.and_eq_true, Bool.and_eq_false_iff, Bool.or_eq_true, Bool.or_eq_false_iff, Bool.not_eq_true', Bool.not_eq_false', Bool.not_true, Bool.not_false, Bool.false_eq_true, Bool.true_eq_false, Int.not_lt, Int.not_le, ge_iff_le, gt_iff_lt, Bool.not_eq_eq_eq_not, Bool.true_or, Bool.or_true, Bool.false_or, Bool.or_false, Bool.true_and, Bool.and_true, false_or, or_false, true_and, and_true, Decidable.not_not] at hi
    have htk := take_nth (l := fs) i0 (by omega)
    have hmf := nth_mem (l := fs) i0 (by omega)
    refine go_ix hf i0 (by omega) ?_
    refine ld_int (hf.mono hS.sub) i0 (by omega) ?_
    intro c0 c1
    refine ⟨_, _, V.lb (OwnD.read hC hS) (hMp.read hS) ⟨c0, c1⟩ hxl, _, fun _ => c_isInt, fun hq => bad (fun hd => ?_) w (J2 ++ J3) (by simpa using hS), fun hq => ?_⟩
    · rcases hd.2.2.2.2.1 _ hmf with h1 | h1
      · rw [decide_eq_true (show nth fs i ≥ -999 from h1.1), decide_eq_true h1.2] at hq; simp at hq
      · rw [ha] at h1; rw [h1] at hq; simp at hq
    · have hw : wdM m (nth fs i) := wdB (by
        rw [ha]
        cases h1 : blkB m.words (adr m.words N) (nth fs i) with
        | true => exact .inr rfl
        | false => left; rw [h1] at hq; simpa using hq)
      refine go_wr (by omega) (by omega) ?_
      refine ⟨rfl, rfl, rfl, rfl, rfl, rfl, ⟨hS, by omega, by omega, ?_⟩, by omega⟩
      rw [htk]; intro f hf
      rcases List.mem_append.1 hf with hf | hf
      · exact h3 f hf
      · rw [List.mem_singleton.1 hf]; exact hw
  simp only [decide_eq_true_eq, decide_eq_false_iff_not, Bool.and_eq_true, Bool.and_eq_false_iff, Bool.or_eq_true, Bool.or_eq_false_iff, Bool.not_eq_true', Bool.not_eq_false', Bool.not_true, Bool.not_false, Bool.false_eq_true, Bool.true_eq_false, Int.not_lt, Int.not_le, ge_iff_le, gt_iff_lt, Bool.not_eq_eq_eq_not, Bool.true_or, Bool.or_true, Bool.false_or, Bool.or_false, Bool.true_and, Bool.and_true, false_or, or_false, true_and, and_true, Decidable.not_not] at hi
  rw [take_all (by omega)] at h3
  obtain ⟨q0, q1, q2, q3⟩ := V.at_ hfl3
  refine Mk.use (c_cloneMem hx hy) hS ?_
  rintro _ w2 _ ⟨t, s, J4, J5, rfl, hO, hP, rfl⟩ hS hsub
  replace hS : St v w2 (J4 ++ (J5 ++ [])) := hS.perm (L' := J4 ++ (J5 ++ (J2 ++ (J3 ++ [])))) (by simp) |>.to
  refine ⟨_, _, rfl, ?_⟩
  refine go_oix (hP v) (by omega) (by omega) ?_
  refine ld_int (hP.read hS) (by omega) (by omega) ?_
  rw [hfn]
  intro c0 c1
  have hgo : -9223372036854775808 ≤ nth m.free (fs.length : Int) - 1 := by omega
  refine go_wr hgo (by omega) ?_
  have htn := (hO v).n
  refine ⟨fun at_ xw w => at_ = atM m fs.length ∧ ∃ I K, OwnI xw (baseM m fs.length) I ∧ OwnI s (afreeM m fs.length) K ∧ St v w (I ++ (K ++ [])), ⟨fun hp => ?_, fun hp => ?_⟩, ?_⟩
  · simp only [decide_eq_true_eq, decide_eq_false_iff_not, Bool.and_eq_true, Bool.and_eq_false_iff, Bool.or_eq_true, Bool.or_eq_false_iff, Bool.not_eq_true', Bool.not_eq_false', Bool.not_true, Bool.not_false, Bool.false_eq_true, Bool.true_eq_false, Int.not_lt, Int.not_le, ge_iff_le, gt_iff_lt, Bool.not_eq_eq_eq_not, Bool.true_or, Bool.or_true, Bool.false_or, Bool.or_false, Bool.true_and, Bool.and_true, false_or, or_false, true_and, and_true, Decidable.not_not] at hp
    have hbase : baseM m fs.length = m.words ++ List.replicate (2 + fs.length) 0 := if_neg (by omega)
    have hafree : afreeM m fs.length = m.free := if_neg (by omega)
    have hat : atM m fs.length = m.words.length := if_neg (by omega)
    refine go_wr (by omega) (by omega) ?_
    rw [show (2 + (fs.length : Int)) = ((2 + fs.length : Nat) : Int) from by omega]
    refine Own.appendZ intT (hO v) hS (by omega) (by omega) (by decide) ?_
    intro x5 w5 I5 hO5 hS
    exact ⟨_, rfl, rfl, rfl, rfl, rfl, rfl, rfl, rfl, by rw [hat]; omega, I5, J5, by rw [hbase]; exact hO5.toI, by rw [hafree]; exact hP, hS.to⟩
  · simp only [decide_eq_true_eq, decide_eq_false_iff_not, Bool.and_eq_true, Bool.and_eq_false_iff, Bool.or_eq_true, Bool.or_eq_false_iff, Bool.not_eq_true', Bool.not_eq_false', Bool.not_true, Bool.not_false, Bool.false_eq_true, Bool.true_eq_false, Int.not_lt, Int.not_le, ge_iff_le, gt_iff_lt, Bool.not_eq_eq_eq_not, Bool.true_or, Bool.or_true, Bool.false_or, Bool.or_false, Bool.true_and, Bool.and_true, false_or, or_false, true_and, and_true, Decidable.not_not] at hp
    have hpp : 0 < nth m.free (fs.length : Int) := by omega
    obtain ⟨e1, e2⟩ := q3 hpp
    obtain ⟨f1, f2, f3⟩ := freeA_mem.1 e2
    obtain ⟨o1, o2, o3, o4⟩ := V.blocks.ok f1
    have hbase : baseM m fs.length = m.words := if_pos hpp
    have hafree : afreeM m fs.length = m.free.set fs.length (nth m.words (atM m fs.length + 1) / 4) := if_pos hpp
    rw [← e1]
    refine go_wr (by omega) (by omega) ?_
    refine go_oix (hO v) (by omega) (by omega) ?_
    refine ld_int (hO.read hS) (by omega) (by omega) ?_
    intro d0 d1
    refine ⟨nth m.words (atM m fs.length + 1) / 4, ⟨by decide, by rw [tdiv4 o3]; exact wrap_i64 (by omega) (by omega)⟩, ?_⟩
    refine go_oix (hP v) (by omega) (by omega) ?_
    refine st_int (hP v) hS (by omega) (by omega) ⟨by omega, by omega⟩ ?_
    intro w5 K5 hP5 hS
    exact ⟨rfl, rfl, rfl, rfl, rfl, rfl, rfl, rfl, J4, K5, by rw [hbase]; exact hO, by rw [hafree, ← show ((fs.length : Int)).toNat = fs.length from rfl]; exact hP5.toI, hS⟩
  clear hO hP hS hC hMp
  rintro at_ xw w3 ⟨rfl, I, K, hO, hP, hS⟩
  have hbl := (hO v).le
  have hxw := (hO v).n
  generalize hat : atM m fs.length = at_ at *
  generalize hB : baseM m fs.length = B at *
  have hO1 := hO v
  refine ⟨fun w => ∃ I, Own v xw ((B.set at_.toNat 1).set (at_ + 1).toNat (4 * tag + fs.length)) I ∧ St v w (I ++ (K ++ [])), ?_, ?_⟩
  · have hst2 : ∀ (w : World) (I : Items), Own v xw (B.set at_.toNat 1) I → St v w (I ++ (K ++ [])) → (IxOk xw (at_ + 1) ∧ StoreAt w (elA xw (at_ + 1) 1) 0 [.int .i64 (4 * tag + fs.length)] fun w42 =>
        ((.sl x : SV) = .sl x) ∧ ((.sl y : SV) = .sl y) ∧ ((.sl (Sl.mk none 0 0) : SV) = .sl (Sl.mk none 0 0)) ∧ ((.sl (Sl.mk none 0 0) : SV) = .sl (Sl.mk none 0 0)) ∧ ((.sl xc : SV) = .sl xc) ∧ ((.v mp : SV) = .v mp) ∧ ((.sl xw : SV) = .sl xw) ∧ ((.sl s : SV) = .sl s) ∧
        ∃ I, Own v xw ((B.set at_.toNat 1).set (at_ + 1).toNat (4 * tag + fs.length)) I ∧ St v w42 (I ++ (K ++ []))) := by
      intro w I hO hS
      have hl1 : (B.set at_.toNat 1).length = B.length := by simp
      refine go_oix hO (by omega) (by omega) ?_
      refine st_int hO hS (by omega) (by omega) ⟨by omega, by omega⟩ ?_
      intro w5 I5 hO5 hS
      exact ⟨rfl, rfl, rfl, rfl, rfl, rfl, rfl, rfl, I5, hO5, hS⟩
    have hlt : at_ < B.length := by omega
    have a1 : -9223372036854775808 ≤ at_ + 1 := by omega
    have a2 : at_ + 1 ≤ 9223372036854775807 := by omega
    have a3 : -9223372036854775808 ≤ 4 * tag := by omega
    have a4 : 4 * tag ≤ 9223372036854775807 := by omega
    have a5 : -9223372036854775808 ≤ 4 * tag + (fs.length : Int) := by omega
    have a6 : 4 * tag + (fs.length : Int) ≤ 9223372036854775807 := by omega
    have one : InI 1 := ⟨by omega, by omega⟩
    refine go_oix hO1 q0 hlt ?_
    clear q3 q1
    repeat' (first
      | exact hst2 _ _ hO2 hS2
      | (refine go_wr a1 a2 ?_)
      | (refine go_wr a3 a4 ?_)
      | (refine go_wr a5 a6 ?_)
      | (refine st_int hO1 hS q0 hlt one ?_; intro w2 I2 hO2 hS2)
      | (with_reducible refine And.intro ?_ ?_))
  · clear hO1 hS hO
    rintro w4 ⟨I4, hO, hS⟩
    refine go_wr (by omega) (by omega) ?_
    have hl4 := hO.n
    have hll : ((B.set at_.toNat 1).set (at_ + 1).toNat (4 * tag + fs.length)).length = B.length := by simp
    refine ⟨⟨by omega, by omega⟩, ?_⟩
    refine go_copy hO hS (hf.mono hS.sub) (by omega) (by omega) (by omega) ?_
    intro w5 I5 hO5 hS
    refine ⟨_, rfl, ?_⟩
    have hfill : (allocM m tag fs).words = setL ((B.set at_.toNat 1).set (at_ + 1).toNat (4 * tag + fs.length)) (at_ + 2) fs := by
      show fillL (baseM m fs.length) (atM m fs.length) tag fs = _
      unfold fillL
      rw [hat, hB, Int.mul_comm tag 4]
    have hO6 : OwnI xw (allocM m tag fs).words I5 := by rw [hfill]; exact hO5.toI
    have hP6 : OwnI s (allocM m tag fs).free K := hP
    refine ⟨_, c_implValidMemory (m := allocM m tag fs) (hO6.read hS) (hP6.read hS), fun hq => bad (fun hd => ?_) w5 (I5 ++ K) (by simpa using hS), fun hq => ?_⟩
    · rw [vmemB_iff.2 hd.2.2.2.2.2] at hq; cases hq
    · have hd : abOk m tag fs := ⟨⟨N, V⟩, ht0, by omega, hfl3, h3, vmemB_iff.1 (by simpa using hq)⟩
      refine go_wr (by omega) (by omega) ?_
      exact ⟨I5 ++ K, by simpa using hS, xw, s, I5, K, by rw [abN_t hd, hat], by rw [abR_t hd]; exact hO6, by rw [abR_t hd]; exact hP6, rfl⟩
end
end Go.Vc
