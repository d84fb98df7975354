/- Part of the proofs about the heaps and memories: a law is joined in the text whose name ends in W and the law. -/
import Derived.Test.YtmjainglhgefoaaEK5
import Derived.Test.YtmjainglhgefoaaEE4
import Derived.Test.YtmjainglhgefoaaEGa
namespace Go.Vc
open Go
set_option linter.all false

def lowM (m : MemD) (a : Int) : MemD := ⟨m.words.set a.toNat (nth m.words a - 1), m.free⟩
/-- what holds while words are dropped -/
structure MS (m : MemD) (N : Nat) (todo : List Int) : Prop where
  blocks : nB m.words N
  four : m.free.length = 4
  fields : cOk m.words (adr m.words N)
  lz : LZ (cellsL m.words (adr m.words N)) [] (todo.map (mapW (adr m.words N)))
  ptr : ∀ f ∈ todo, 1000 ≤ f → f - 1000 ∈ adr m.words N
  chains : ∀ k : Int, 0 ≤ k → k < 4 → ∃ l, Chain m.words (nth m.free k) l ∧ l.Nodup ∧ ∀ a, a ∈ l ↔ a ∈ freeA m.words (adr m.words N) k

section
variable {ws ws' ad s q l list todo t1 t2 : List Int} {n i j N : Nat} {k x a b h e f c w : Int} {m m' : MemD}

theorem chainOk_iff (hd : list.Nodup) : chainOk ws h list ↔ ∃ l, Chain ws h l ∧ l.Nodup ∧ ∀ a, a ∈ l ↔ a ∈ list := by
  constructor
  · rintro ⟨l, h1, h2, h3, h4⟩
    exact ⟨l, h1, h2, fun a => ⟨h3 a, fun ha => full_sub h2 h3 h4 ha⟩⟩
  · rintro ⟨l, h1, h2, h3⟩
    have e1 := sub_len h2 (fun a ha => (h3 a).1 ha)
    have e2 := sub_len hd (fun a ha => (h3 a).2 ha)
    exact ⟨l, h1, h2, fun a ha => (h3 a).1 ha, by omega⟩
theorem vm_ms : VM m N ↔ MS m N [] := by
  constructor
  · intro V
    exact ⟨V.blocks, V.four, V.fields, V.lz, fun f hf => (by cases hf), fun k k0 k1 => (chainOk_iff (freeA_nodup adr_nodup)).1 (V.chains k k0 k1)⟩
  · intro S
    exact ⟨S.blocks, S.four, S.fields, (cells_lz S.blocks).2 S.lz, fun k k0 k1 => (chainOk_iff (freeA_nodup adr_nodup)).2 (S.chains k k0 k1)⟩

theorem posA_congr (hs : ∀ i, i < n → szA ws' (posA ws i) = szA ws (posA ws i)) : ∀ i, i ≤ n → posA ws' i = posA ws i
  | 0, _ => rfl
  | i + 1, h => by
    rw [posA_succ, posA_succ, posA_congr hs i (by omega), hs i (by omega)]
theorem nB_congr (hb : nB ws N) (hl : ws'.length = ws.length) (hs : ∀ q ∈ adr ws N, szA ws' q = szA ws q ∧ 0 ≤ nth ws' q ∧ 0 ≤ nth ws' (q + 1)) : nB ws' N ∧ adr ws' N = adr ws N := by
  have hp := posA_congr (ws := ws) (ws' := ws') (n := N) (fun i hi => (hs _ (mem_adr.2 ⟨i, hi, rfl⟩)).1)
  refine ⟨⟨fun i hi => ?_, ?_⟩, ?_⟩
  · obtain ⟨o1, o2, o3, o4⟩ := hb.1 i hi
    obtain ⟨s1, s2, s3⟩ := hs _ (mem_adr.2 ⟨i, hi, rfl⟩)
    rw [hp i (by omega)]
    refine ⟨by omega, s2, s3, ?_⟩
    unfold nxtA at o4 ⊢
    rw [s1]; omega
  · rw [hp N (by omega), hl]; exact hb.2
  · unfold adr
    refine List.map_congr_left fun i hi => hp i ?_
    have : i < N := by simpa using hi
    omega

/-- ws' is ws but for the block at a -/
def UpdM (ws ws' : List Int) (a : Int) : Prop := ws'.length = ws.length ∧ ∀ i : Int, 0 ≤ i → (i < a ∨ nxtA ws a ≤ i) → nth ws' i = nth ws i
theorem UpdM.same (U : UpdM ws ws' a) (ha : a ∈ adr ws N) (hb : b ∈ adr ws N) (hne : b ≠ a) {j : Int} (j0 : 0 ≤ j) (j1 : j < 2 + szA ws b) : nth ws' (b + j) = nth ws (b + j) := by
  have hb0 := adr_nn hb
  have ha0 := adr_nn ha
  refine U.2 _ (by omega) ?_
  rcases adr_apart ha hb (Ne.symm hne) with h1 | h1
  · exact .inr (by omega)
  · left; unfold nxtA at h1; omega
theorem UpdM.same0 (U : UpdM ws ws' a) (ha : a ∈ adr ws N) (hb : b ∈ adr ws N) (hne : b ≠ a) : nth ws' b = nth ws b := by
  have := U.same ha hb hne (j := 0) (by omega) (by have := szA_b ws b; omega)
  simpa using this
theorem UpdM.same1 (U : UpdM ws ws' a) (ha : a ∈ adr ws N) (hb : b ∈ adr ws N) (hne : b ≠ a) : nth ws' (b + 1) = nth ws (b + 1) := U.same ha hb hne (by omega) (by have := szA_b ws b; omega)
theorem UpdM.sz (U : UpdM ws ws' a) (ha : a ∈ adr ws N) (hs : szA ws' a = szA ws a) (hb : b ∈ adr ws N) : szA ws' b = szA ws b := by
  by_cases e : b = a
  · rw [e]; exact hs
  · unfold szA; rw [U.same1 ha hb e]
theorem UpdM.fieldsA (U : UpdM ws ws' a) (ha : a ∈ adr ws N) (hb : b ∈ adr ws N) (hne : b ≠ a) : fieldsA ws' b = fieldsA ws b := by
  unfold Go.Vc.fieldsA
  have hs : szA ws' b = szA ws b := by unfold szA; rw [U.same1 ha hb hne]
  rw [hs]
  refine List.map_congr_left fun i hi => ?_
  have hi' : i < (szA ws b).toNat := by simpa using hi
  have := U.same ha hb hne (j := 2 + i) (by omega) (by omega)
  rw [show b + 2 + (i : Int) = b + (2 + i) from by omega]; exact this
theorem UpdM.cellA (U : UpdM ws ws' a) (ha : a ∈ adr ws N) (hb : b ∈ adr ws N) (hne : b ≠ a) : cellA ws' ad b = cellA ws ad b := by
  unfold Go.Vc.cellA
  rw [U.same0 ha hb hne, U.same1 ha hb hne, U.fieldsA ha hb hne]
theorem UpdM.nB (U : UpdM ws ws' a) (hb : nB ws N) (ha : a ∈ adr ws N) (hs : szA ws' a = szA ws a) (h0 : 0 ≤ nth ws' a) (h1 : 0 ≤ nth ws' (a + 1)) : Go.Vc.nB ws' N ∧ adr ws' N = adr ws N := by
  refine nB_congr hb U.1 fun q hq => ⟨U.sz ha hs hq, ?_⟩
  by_cases e : q = a
  · rw [e]; exact ⟨h0, h1⟩
  · rw [U.same0 ha hq e, U.same1 ha hq e]
    exact ⟨(hb.ok hq).2.1, (hb.ok hq).2.2.1⟩
theorem UpdM.cells (U : UpdM ws ws' a) (ha : a ∈ adr ws N) : cellsL ws' (adr ws N) = (cellsL ws (adr ws N)).set (idxI (adr ws N) a).toNat (Go.Vc.cellA ws' (adr ws N) a) := by
  obtain ⟨p0, p1, p2⟩ := idxI_mem ha
  refine nth_ext (by simp [cellsL]) fun k k0 k1 => ?_
  rw [cellsL_len] at k1
  rw [nth_cellsL k0 k1, nth_set _ _ _ _ p0 (by rw [cellsL_len]; exact p1) k0]
  split
  · rename_i e; rw [e, p2]
  · rename_i e
    have hm := nth_mem (l := adr ws N) k0 k1
    have hne : nth (adr ws N) k ≠ a := fun h => e (by rw [← h, idxI_of adr_nodup k0 k1])
    rw [nth_cellsL k0 k1, U.cellA ha hm hne]
theorem Chain.congr : ∀ {l : List Int} {h : Int}, (∀ b ∈ l, nth ws' (b + 1) = nth ws (b + 1)) → Chain ws h l → Chain ws' h l
  | [], h, _, hc => hc
  | b :: l, h, hs, hc => ⟨hc.1, by rw [hs b List.mem_cons_self]; exact Chain.congr (fun b hb => hs b (List.mem_cons_of_mem _ hb)) hc.2⟩

theorem set_upd (h0 : 0 ≤ a) (hx : a ≤ x) (hx2 : x < nxtA ws a) : UpdM ws (ws.set x.toNat c) a := by
  refine ⟨by simp, fun i i0 hi => ?_⟩
  unfold nth List.getD
  rw [List.getElem?_set, if_neg (by omega)]
/-- a count is changed; the block stays live -/
theorem MS.count (S : MS m N t1) (ha : a ∈ adr m.words N) (hc0 : 0 < nth m.words a) (hc : 0 < c) (t2 : List Int) (hptr : ∀ f ∈ t2, 1000 ≤ f → f - 1000 ∈ adr m.words N)
    (L : LZ ((cellsL m.words (adr m.words N)).set (idxI (adr m.words N) a).toNat ⟨c, (cellA m.words (adr m.words N) a).tag, (cellA m.words (adr m.words N) a).fields⟩) [] (t2.map (mapW (adr m.words N)))) :
    MS ⟨m.words.set a.toNat c, m.free⟩ N t2 ∧ adr (m.words.set a.toNat c) N = adr m.words N ∧
      cellsL (m.words.set a.toNat c) (adr m.words N) = (cellsL m.words (adr m.words N)).set (idxI (adr m.words N) a).toNat ⟨c, (cellA m.words (adr m.words N) a).tag, (cellA m.words (adr m.words N) a).fields⟩ := by
  have ha0 := adr_nn ha
  obtain ⟨o1, o2, o3, o4⟩ := S.blocks.ok ha
  have hsb := szA_b m.words a
  have U : UpdM m.words (m.words.set a.toNat c) a := set_upd ha0 (by omega) (by unfold nxtA; omega)
  have e0 : nth (m.words.set a.toNat c) a = c := by rw [nth_set _ _ _ _ ha0 (by omega) ha0, if_pos rfl]
  have ej : ∀ j : Int, 0 < j → nth (m.words.set a.toNat c) (a + j) = nth m.words (a + j) := fun j hj => by rw [nth_set _ _ _ _ ha0 (by omega) (by omega), if_neg (by omega)]
  have hs : szA (m.words.set a.toNat c) a = szA m.words a := by unfold szA; rw [ej 1 (by omega)]
  obtain ⟨hb, had⟩ := U.nB S.blocks ha hs (by omega) (by rw [ej 1 (by omega)]; exact o3)
  have hf : fieldsA (m.words.set a.toNat c) a = fieldsA m.words a := by
    unfold fieldsA
    rw [hs]
    refine List.map_congr_left fun i hi => ?_
    rw [show a + 2 + (i : Int) = a + (2 + i) from by omega]; exact ej _ (by omega)
  have hcell : cellA (m.words.set a.toNat c) (adr m.words N) a = ⟨c, (cellA m.words (adr m.words N) a).tag, (cellA m.words (adr m.words N) a).fields⟩ := by
    rw [cellA_live (by omega), cellA_live (by omega), e0, ej 1 (by omega), hf]
  have hcells := U.cells ha
  rw [hcell] at hcells
  have hz : ∀ b ∈ adr m.words N, (nth (m.words.set a.toNat c) b = 0 ↔ nth m.words b = 0) := fun b hb => by
    by_cases e : b = a
    · rw [e, e0]; omega
    · rw [U.same0 ha hb e]
  have hfree : ∀ k, freeA (m.words.set a.toNat c) (adr m.words N) k = freeA m.words (adr m.words N) k := fun k => by
    unfold freeA
    refine List.filter_congr fun b hb => ?_
    rw [U.sz ha hs hb]
    congr 1
    exact decide_eq_decide.2 (hz b hb)
  have hhead : ∀ b ∈ adr m.words N, nth (m.words.set a.toNat c) (b + 1) = nth m.words (b + 1) := fun b hb => by
    by_cases e : b = a
    · rw [e]; exact ej 1 (by omega)
    · exact U.same1 ha hb e
  refine ⟨⟨hb, S.four, ?_, ?_, ?_, fun k k0 k1 => ?_⟩, had, hcells⟩
  · show cOk (m.words.set a.toNat c) (adr (m.words.set a.toNat c) N)
    rw [had]
    intro b hb f hf2
    by_cases e : b = a
    · subst e
      rw [hf] at hf2
      refine ⟨(S.fields b ha f hf2).1, fun h => by omega⟩
    · rw [U.fieldsA ha hb e] at hf2
      rw [U.same0 ha hb e]
      exact S.fields b hb f hf2
  · show LZ (cellsL (m.words.set a.toNat c) (adr (m.words.set a.toNat c) N)) [] (t2.map (mapW (adr (m.words.set a.toNat c) N)))
    rw [had, hcells]; exact L
  · show ∀ f ∈ t2, 1000 ≤ f → f - 1000 ∈ adr (m.words.set a.toNat c) N
    rw [had]; exact hptr
  · obtain ⟨l, l1, l2, l3⟩ := S.chains k k0 k1
    refine ⟨l, ?_, l2, fun b => ?_⟩
    · exact Chain.congr (fun b hb => hhead b (freeA_mem.1 ((l3 b).1 hb)).1) l1
    · show b ∈ l ↔ b ∈ freeA (m.words.set a.toNat c) (adr (m.words.set a.toNat c) N) k
      rw [had, hfree]; exact l3 b

theorem MS.free_nn (S : MS m N t1) (k0 : 0 ≤ k) (k1 : k < 4) : 0 ≤ nth m.free k := by
  obtain ⟨l, l1, l2, l3⟩ := S.chains k k0 k1
  cases l with
  | nil => rw [show nth m.free k = 0 from l1]; omega
  | cons b r =>
    have h1 := l1.1
    have h2 := adr_nn (freeA_mem.1 ((l3 b).1 List.mem_cons_self)).1
    omega
theorem MS.skip (S : MS m N (w :: todo)) (hw : ¬ 1000 ≤ w) : MS m N todo := by
  have L := S.lz
  rw [List.map_cons, mapW_int hw] at L
  exact ⟨S.blocks, S.four, S.fields, L.skip hw, fun f hf => S.ptr f (List.mem_cons_of_mem _ hf), S.chains⟩
theorem MS.live_ (S : MS m N (w :: todo)) (hw : 1000 ≤ w) : w - 1000 ∈ adr m.words N ∧ 0 < nth m.words (w - 1000) := by
  have hm := S.ptr w List.mem_cons_self hw
  have L := S.lz
  rw [List.map_cons, mapW_ptr hw] at L
  obtain ⟨p0, p1, p2⟩ := idxI_mem hm
  obtain ⟨l1, l2, l3⟩ := live_iff.1 (L.head (by omega))
  rw [show 1000 + idxI (adr m.words N) (w - 1000) - 1000 = idxI (adr m.words N) (w - 1000) from by omega, nth_cellsL p0 p1, p2, cellA_count] at l3
  exact ⟨hm, l3⟩

/-- the ends are the same -/
def Same (m : MemD) (N : Nat) (t1 : List Int) (m' : MemD) (t2 : List Int) : Prop :=
  ∀ X, Ends (cellsL m'.words (adr m.words N)) [] (t2.map (mapW (adr m.words N))) X → Ends (cellsL m.words (adr m.words N)) [] (t1.map (mapW (adr m.words N))) X

theorem MS.low (S : MS m N (w :: todo)) (hw : 1000 ≤ w) (hc : 0 < nth m.words (w - 1000) - 1) :
    MS (lowM m (w - 1000)) N todo ∧ adr (lowM m (w - 1000)).words N = adr m.words N ∧ nlive (cellsL (lowM m (w - 1000)).words (adr m.words N)) = nlive (cellsL m.words (adr m.words N)) ∧ Same m N (w :: todo) (lowM m (w - 1000)) todo := by
  obtain ⟨hm, hl⟩ := S.live_ hw
  obtain ⟨p0, p1, p2⟩ := idxI_mem hm
  have L := S.lz
  rw [List.map_cons, mapW_ptr hw] at L
  have L2 := L.lower (by omega)
  have hE := fun X => Ends.lower (a := X) L (by omega)
  have hnth : nth (cellsL m.words (adr m.words N)) (idxI (adr m.words N) (w - 1000)) = cellA m.words (adr m.words N) (w - 1000) := by rw [nth_cellsL p0 p1, p2]
  unfold lowerZ at L2 hE
  rw [show 1000 + idxI (adr m.words N) (w - 1000) - 1000 = idxI (adr m.words N) (w - 1000) from by omega] at L2 hE
  simp only [hnth, cellA_count] at L2 hE
  rw [if_neg (by omega)] at L2
  simp only [if_neg (show ¬ nth m.words (w - 1000) - 1 = 0 by omega)] at hE
  have ed : decC (cellA m.words (adr m.words N) (w - 1000)) = ⟨nth m.words (w - 1000) - 1, (cellA m.words (adr m.words N) (w - 1000)).tag, (cellA m.words (adr m.words N) (w - 1000)).fields⟩ := by unfold decC; rw [cellA_count]
  rw [ed] at L2 hE
  obtain ⟨S2, had, hcells⟩ := S.count hm hl hc todo (fun f hf => S.ptr f (List.mem_cons_of_mem _ hf)) L2
  refine ⟨S2, had, ?_, fun X hX => ?_⟩
  · show nlive (cellsL (m.words.set _ _) (adr m.words N)) = _
    rw [hcells]
    have := nlive_set (h := cellsL m.words (adr m.words N)) (k := idxI (adr m.words N) (w - 1000)) (c := ⟨nth m.words (w - 1000) - 1, (cellA m.words (adr m.words N) (w - 1000)).tag, (cellA m.words (adr m.words N) (w - 1000)).fields⟩) p0 (by rw [cellsL_len]; exact p1)
    rw [hnth, cellA_count, if_pos hl, if_pos (show 0 < nth m.words (w - 1000) - 1 from hc)] at this
    omega
  · have hX' : Ends (cellsL (m.words.set (w - 1000).toNat (nth m.words (w - 1000) - 1)) (adr m.words N)) [] (todo.map (mapW (adr m.words N))) X := hX
    rw [hcells] at hX'
    rw [List.map_cons, mapW_ptr hw]
    exact hE X hX'
/-- what dropping a word brings -/
structure Dropped (m : MemD) (N : Nat) (t1 : List Int) (m' : MemD) (t2 : List Int) : Prop where
  ms : MS m' N t2
  adr_ : adr m'.words N = adr m.words N
  live : nlive (cellsL m'.words (adr m.words N)) ≤ nlive (cellsL m.words (adr m.words N))
  same : Same m N t1 m' t2
  len : m'.words.length = m.words.length
theorem Dropped.trans {m2 : MemD} {t3 : List Int} (D : Dropped m N t1 m' t2) (E : Dropped m' N t2 m2 t3) : Dropped m N t1 m2 t3 := by
  have h1 := E.live
  have h2 := E.same
  unfold Same at h2
  rw [D.adr_] at h1 h2
  exact ⟨E.ms, E.adr_.trans D.adr_, Nat.le_trans h1 D.live, fun X hX => D.same X (h2 X hX), E.len.trans D.len⟩

/-- .. where it ends -/
theorem Dropped.end_ (D : Dropped m N t1 m' []) (S : MS m N t1) : cellsL m'.words (adr m.words N) = goneH (cellsL m.words (adr m.words N)) [] (t1.map (mapW (adr m.words N))) :=
  Ends.eq S.lz (D.same _ (Ends.nil_ _))
end
end Go.Vc

namespace Go.Vc
open Go Go.Proofs Go.RowKit
set_option linter.all false

section
variable {ws ad s q l list todo t1 t2 : List Int} {n i j N : Nat} {k x a b h e f c w : Int} {m m' : MemD}
end

section
variable {u v w : World} {x y xf xg z s t : Sl} {mp : Vl} {l ws fs ad list free todo : List Int} {h g : List CellD} {m m' : MemD} {b n k f e : Int} {N i : Nat} {a : Addr} {I J K L R R1 : Items} {F F1 : Items → Items}

end
end Go.Vc

namespace Go.Vc
open Go Go.Proofs Go.RowKit
set_option linter.all false

section
variable {ws ws' l : List Int} {n : Nat} {k a v : Int}
theorem nth_extI (hl : ws.length = ws'.length) (hn : ∀ k : Int, 0 ≤ k → k < ws.length → nth ws k = nth ws' k) : ws = ws' := by
  apply List.ext_getElem hl
  intro i h1 h2
  rw [← nth_nat (l := ws) h1, ← nth_nat (l := ws') h2]
  exact hn i (by omega) (by omega)
end

section
variable {u v w : World} {x y xf xg z s t : Sl} {mp : Vl} {l ws fs ad list free todo : List Int} {h g : List CellD} {m m' : MemD} {b n k f e : Int} {N i : Nat} {a : Addr} {I J K L R R1 : Items} {F F1 : Items → Items}

/-! ### one reference less -/
theorem VM.heapM_eq (V : VM m N) : heapM m = trimL (cellsL m.words (adr m.words N)) := by unfold heapM; rw [adrs_eq V.blocks]
theorem VM.ext (V : VM m N) : Ext ⟨heapM m, []⟩ ⟨cellsL m.words (adr m.words N), []⟩ := by
  obtain ⟨q, hq⟩ := VM.ext_ V.blocks
  exact ⟨⟨q, by rw [V.heapM_eq]; exact hq⟩, rfl, fun p hp => (by cases hp)⟩
theorem VM.fuel (V : VM m N) : nlive (cellsL m.words (adr m.words N)) ≤ nOf m.words := by
  rw [nOf_eq V.blocks]
  refine Nat.le_trans List.countP_le_length ?_
  rw [cellsL_len, adr_len]; exact Nat.le_refl _
end
end Go.Vc

namespace Go.Vc
open Go Go.Proofs Go.RowKit
set_option linter.all false
section
variable {u v w : World} {x y xf xg z s t : Sl} {mp : Vl} {l ws fs ad list free todo : List Int} {h g : List CellD} {m m' : MemD} {b n k f e : Int} {N i : Nat} {a : Addr} {I J K L R R1 : Items} {F F1 : Items → Items}

end
end Go.Vc

namespace Go.Vc
open Go Go.Proofs Go.RowKit
set_option linter.all false

def setL (ws : List Int) (a : Int) (fs : List Int) : List Int := ws.take a.toNat ++ fs ++ ws.drop (a.toNat + fs.length)
def fillL (ws : List Int) (a tag : Int) (fs : List Int) : List Int := setL ((ws.set a.toNat 1).set (a + 1).toNat (tag * 4 + fs.length)) (a + 2) fs
def atM (m : MemD) (k : Int) : Int := if 0 < nth m.free k then nth m.free k - 1 else m.words.length
def baseM (m : MemD) (k : Nat) : List Int := if 0 < nth m.free (k : Int) then m.words else m.words ++ List.replicate (2 + k) 0
def afreeM (m : MemD) (k : Nat) : List Int := if 0 < nth m.free (k : Int) then m.free.set k (nth m.words (atM m k + 1) / 4) else m.free
def allocM (m : MemD) (tag : Int) (fs : List Int) : MemD := ⟨fillL (baseM m fs.length) (atM m fs.length) tag fs, afreeM m fs.length⟩
def abOk (m : MemD) (tag : Int) (fs : List Int) : Prop := vmem m ∧ 0 ≤ tag ∧ tag ≤ 99 ∧ fs.length ≤ 3 ∧ (∀ f ∈ fs, wdM m f) ∧ vmem (allocM m tag fs)
noncomputable def abB (m : MemD) (tag : Int) (fs : List Int) : Bool := @decide (abOk m tag fs) (Classical.propDecidable _)
theorem abB_t {m : MemD} {tag : Int} {fs : List Int} (h : abOk m tag fs) : abB m tag fs = true := by unfold abB; exact @decide_eq_true _ (Classical.propDecidable _) h
theorem abB_f {m : MemD} {tag : Int} {fs : List Int} (h : ¬ abOk m tag fs) : abB m tag fs = false := by unfold abB; exact @decide_eq_false _ (Classical.propDecidable _) h
noncomputable def abR (m : MemD) (tag : Int) (fs : List Int) : MemD := bif abB m tag fs then allocM m tag fs else ⟨[], []⟩
noncomputable def abN (m : MemD) (tag : Int) (fs : List Int) : Int := bif abB m tag fs then 1000 + atM m fs.length else 0

section
variable {ws ws' l fs : List Int} {n N : Nat} {k a v tag : Int} {m : MemD}
theorem setL_len (h0 : 0 ≤ a) (h1 : a + fs.length ≤ ws.length) : (setL ws a fs).length = ws.length := by unfold setL; simp; omega
theorem nth_setL (h0 : 0 ≤ a) (h1 : a + fs.length ≤ ws.length) (k0 : 0 ≤ k) : nth (setL ws a fs) k = if a ≤ k ∧ k < a + fs.length then nth fs (k - a) else nth ws k := by
  unfold setL nth List.getD
  rw [List.append_assoc]
  have e : (List.take a.toNat ws).length = a.toNat := by simp; omega
  by_cases h2 : k < a
  · rw [if_neg (by omega), List.getElem?_append_left (by omega), List.getElem?_take, if_pos (by omega)]
  · rw [List.getElem?_append_right (by omega), e]
    by_cases h3 : k < a + fs.length
    · rw [if_pos (by omega), List.getElem?_append_left (by omega), show k.toNat - a.toNat = (k - a).toNat from by omega]
    · rw [if_neg (by omega), List.getElem?_append_right (by omega), List.getElem?_drop]
      congr 2; omega
theorem setL_snoc (h0 : 0 ≤ a) (h1 : a + fs.length ≤ ws.length) (k0 : 0 ≤ k) (k1 : k < fs.length) : (setL ws a (fs.take k.toNat)).set (a + k).toNat (nth fs k) = setL ws a (fs.take (k + 1).toNat) := by
  have hl1 : (fs.take k.toNat).length = k.toNat := by simp; omega
  have hl2 : (fs.take (k + 1).toNat).length = (k + 1).toNat := by simp; omega
  have e1 := setL_len (ws := ws) (fs := fs.take k.toNat) h0 (by omega)
  have e2 := setL_len (ws := ws) (fs := fs.take (k + 1).toNat) h0 (by omega)
  refine nth_extI (by rw [List.length_set, e1, e2]) fun j j0 j1 => ?_
  rw [nth_set _ _ _ _ (by omega) (by omega) j0, nth_setL h0 (by omega) j0, nth_setL h0 (by omega) j0, hl1, hl2]
  have htk : ∀ (q : Int) (r : Nat), 0 ≤ q → q < r → nth (fs.take r) q = nth fs q := fun q r q0 q1 => by
    unfold nth List.getD
    rw [List.getElem?_take, if_pos (by omega)]
  by_cases e : j = a + k
  · rw [if_pos e, if_pos (by omega), htk _ _ (by omega) (by omega), show j - a = k from by omega]
  · rw [if_neg e]
    by_cases h2 : a ≤ j ∧ j < a + k.toNat
    · rw [if_pos h2, if_pos (by omega), htk _ _ (by omega) (by omega), htk _ _ (by omega) (by omega)]
    · rw [if_neg h2, if_neg (by omega)]
theorem setL_nil (ws : List Int) (a : Int) : setL ws a [] = ws := by unfold setL; simp
theorem abR_t (h : abOk m tag fs) : abR m tag fs = allocM m tag fs := by unfold abR; rw [abB_t h]; rfl
theorem abR_f (h : ¬ abOk m tag fs) : abR m tag fs = ⟨[], []⟩ := by unfold abR; rw [abB_f h]; rfl
theorem abN_t (h : abOk m tag fs) : abN m tag fs = 1000 + atM m fs.length := by unfold abN; rw [abB_t h]; rfl
theorem abN_f (h : ¬ abOk m tag fs) : abN m tag fs = 0 := by unfold abN; rw [abB_f h]; rfl
/-- the place of a new block -/
theorem VM.at_ (V : VM m N) (hk : n ≤ 3) : 0 ≤ atM m n ∧ atM m n + 2 + n ≤ (baseM m n).length ∧ 0 ≤ nth m.free (n : Int) ∧ (0 < nth m.free (n : Int) → atM m n = nth m.free (n : Int) - 1 ∧ atM m n ∈ freeA m.words (adr m.words N) n) := by
  have S := vm_ms.1 V
  have h0 := S.free_nn (k := (n : Int)) (by omega) (by omega)
  obtain ⟨l, l1, l2, l3⟩ := S.chains (n : Int) (by omega) (by omega)
  unfold atM baseM
  by_cases hp : 0 < nth m.free (n : Int)
  · rw [if_pos hp, if_pos hp]
    cases l with
    | nil => have : nth m.free (n : Int) = 0 := l1; omega
    | cons b r =>
      have h1 := l1.1
      have hb := (l3 b).1 List.mem_cons_self
      obtain ⟨f1, f2, f3⟩ := freeA_mem.1 hb
      obtain ⟨o1, o2, o3, o4⟩ := V.blocks.ok f1
      have := adr_nn f1
      unfold nxtA at o4
      have eb : nth m.free (n : Int) - 1 = b := by omega
      refine ⟨by omega, by omega, h0, fun _ => ⟨rfl, ?_⟩⟩
      rw [eb]; exact hb
  · rw [if_neg hp, if_neg hp]
    exact ⟨by omega, by simp; omega, h0, fun h => absurd h hp⟩
end

section
variable {u v w : World} {x y xf xg z s t : Sl} {mp : Vl} {l ws fs ad list free todo : List Int} {h g : List CellD} {m m' : MemD} {b n k f e tag at_ : Int} {N i : Nat} {a : Addr} {I J K L R R1 : Items} {F F1 : Items → Items}

theorem c_fill (hO : OwnI x ws I) (hf : Read u xf fs) (hS : St u w (I ++ R)) (h0 : 0 ≤ at_) (h1 : at_ + 2 + fs.length ≤ ws.length) (ht0 : 0 ≤ tag) (ht1 : tag ≤ 1000) (hl : fs.length ≤ 1000) :
    Trip Try.prog 101 #[.agg #[x.val, y.val], .int .i64 at_, .int .i64 tag, xf.val] w fun r w' => ∃ I', r = .agg #[x.val, y.val] ∧ OwnI x (fillL ws at_ tag fs) I' ∧ St u w' (I' ++ R) := by
  refine of101 _ _ _ _ _ _ _ ?_
  unfold vc101
  have hfn := hf.n
  have hxl := (hO u).le
  refine go_oix (hO u) h0 (by omega) ?_
  refine st_int (hO u) hS h0 (by omega) ⟨by omega, by omega⟩ ?_
  intro w1 I1 hO1 hS
  refine go_wr (by omega) (by omega) ?_
  refine go_wr (by omega) (by omega) ?_
  refine go_wr (by omega) (by omega) ?_
  refine go_oix hO1 (by omega) (by simp; omega) ?_
  refine st_int hO1 hS (by omega) (by simp; omega) ⟨by omega, by omega⟩ ?_
  intro w2 I2 hO2 hS
  rw [hfn] at hO2
  have hwl : ((ws.set at_.toNat 1).set (at_ + 1).toNat (tag * 4 + fs.length)).length = ws.length := by simp
  unfold fillL
  generalize (ws.set at_.toNat 1).set (at_ + 1).toNat (tag * 4 + fs.length) = W at *
  refine ⟨fun i w => ∃ I, OwnI x (setL W (at_ + 2) (fs.take i.toNat)) I ∧ St u w (I ++ R) ∧ 0 ≤ i ∧ i ≤ fs.length, fun i _ => (fs.length - i).toNat, ⟨I2, by rw [show (0 : Int).toNat = 0 from rfl, List.take_zero, setL_nil]; exact hO2.toI, hS, by omega, by omega⟩, ?_⟩
  clear hO1 hO2 hS hO
  rintro i w3 ⟨I3, hO, hS, i0, i1⟩
  dsimp only
  have htl : (fs.take i.toNat).length = i.toNat := by simp; omega
  have hsl := setL_len (ws := W) (fs := fs.take i.toNat) (a := at_ + 2) (by omega) (by omega)
  refine ⟨fun hi => ?_, fun hi => ?_⟩
  · simp only [decide_eq_true_eq, decide_eq_false_iff_not, Bool.and_eq_true, Bool.and_eq_false_iff, Bool.or_eq_true, Bool.or_eq_false_iff, Bool.not_eq_true', Bool.not_eq_false', Bool.not_true, Bool.not_false, Bool.false_eq_true, Bool.true_eq_false, Int.not_lt, Int.not_le, ge_iff_le, gt_iff_lt, Bool.not_eq_eq_eq_not, Bool.true_or, Bool.or_true, Bool.false_or, Bool.or_false, Bool.true_and, Bool.and_true, false_or, or_false, true_and, and_true, Decidable.not_not] at hi
    refine go_wr (by omega) (by omega) ?_
    refine go_wr (by omega) (by omega) ?_
    refine go_ix hf i0 (by omega) ?_
    refine ld_int (hf.mono hS.sub) i0 (by omega) ?_
    intro c0 c1
    refine go_oix (hO u) (by omega) (by omega) ?_
    refine st_int (hO u) hS (by omega) (by omega) ⟨c0, c1⟩ ?_
    intro w4 I4 hO4 hS
    refine go_wr (by omega) (by omega) ?_
    refine ⟨rfl, rfl, rfl, rfl, ⟨I4, ?_, hS, by omega, by omega⟩, by omega⟩
    rw [← setL_snoc (by omega) (by omega) i0 (by omega)]; exact hO4.toI
  · simp only [decide_eq_true_eq, decide_eq_false_iff_not, Bool.and_eq_true, Bool.and_eq_false_iff, Bool.or_eq_true, Bool.or_eq_false_iff, Bool.not_eq_true', Bool.not_eq_false', Bool.not_true, Bool.not_false, Bool.false_eq_true, Bool.true_eq_false, Int.not_lt, Int.not_le, ge_iff_le, gt_iff_lt, Bool.not_eq_eq_eq_not, Bool.true_or, Bool.or_true, Bool.false_or, Bool.or_false, Bool.true_and, Bool.and_true, false_or, or_false, true_and, and_true, Decidable.not_not] at hi
    rw [take_all (by omega)] at hO
    exact ⟨I3, rfl, hO, hS⟩

theorem wdB (hw : (decide (-999 ≤ n) && decide (n ≤ 999)) = true ∨ blkB m.words (adrs m.words) n = true) : wdM m n := by
  rcases hw with h | h
  · left; simp only [decide_eq_true_eq, decide_eq_false_iff_not, Bool.and_eq_true, Bool.and_eq_false_iff, Bool.or_eq_true, Bool.or_eq_false_iff, Bool.not_eq_true', Bool.not_eq_false', Bool.not_true, Bool.not_false, Bool.false_eq_true, Bool.true_eq_false, Int.not_lt, Int.not_le, ge_iff_le, gt_iff_lt, Bool.not_eq_eq_eq_not, Bool.true_or, Bool.or_true, Bool.false_or, Bool.or_false, Bool.true_and, Bool.and_true, false_or, or_false, true_and, and_true, Decidable.not_not] at h; exact h
  · exact .inr h

theorem c_specAllocBlock (hx : Read v x m.words) (hy : Read v y m.free) (hf : Read v xf fs) (hn : InI tag) (hlen : m.words.length ≤ 1000000000) :
    Mk Try.prog 40 #[.agg #[x.val, y.val], .int .i64 tag, xf.val] v fun r J => ∃ x' y' : Sl, ∃ J1 J2, r = .tuple #[.agg #[x'.val, y'.val], .int .i64 (abN m tag fs)] ∧ OwnI x' (abR m tag fs).words J1 ∧ OwnI y' (abR m tag fs).free J2 ∧ J = J1 ++ J2 := by
  refine of40 _ _ _ _ _ _ ?_
  unfold vc40
  have hxl := hx.le
  have hxn := hx.n
  have hfn := hf.n
  have bad : ¬ abOk m tag fs → ∀ w I, St v w (I ++ []) → ∃ J, St v w J ∧ ∃ x' y' : Sl, ∃ J1 J2, Value.tuple #[.agg #[.slice none 0 0, .slice none 0 0], .int .i64 0] = .tuple #[.agg #[x'.val, y'.val], .int .i64 (abN m tag fs)] ∧ OwnI x' (abR m tag fs).words J1 ∧ OwnI y' (abR m tag fs).free J2 ∧ J = J1 ++ J2 :=
    fun hb w I hS => ⟨[], hS.to, ⟨none, 0, 0⟩, ⟨none, 0, 0⟩, [], [], by rw [abN_f hb]; rfl, by rw [abR_f hb]; exact OwnI.nil, by rw [abR_f hb]; exact OwnI.nil, rfl⟩
  refine ⟨_, c_validMemory hx hy, _, fun _ => c_inRange, fun hc => bad (fun hd => ?_) v [] (.refl v), fun hc => ?_⟩
  · rw [vmemB_iff.2 hd.1, decide_eq_true hd.2.1, decide_eq_true hd.2.2.1] at hc
    have := hd.2.2.2.1
    simp at hc; omega
  simp only [decide_eq_true_eq, decide_eq_false_iff_not, Bool.and_eq_true, Bool.and_eq_false_iff, Bool.or_eq_true, Bool.or_eq_false_iff, Bool.not_eq_true', Bool.not_eq_false', Bool.not_true, Bool.not_false, Bool.false_eq_true, Bool.true_eq_false, Int.not_lt, Int.not_le, ge_iff_le, gt_iff_lt, Bool.not_eq_eq_eq_not, Bool.true_or, Bool.or_true, Bool.false_or, Bool.or_false, Bool.true_and, Bool.and_true, false_or, or_false, true_and, and_true, Decidable.not_not] at hc
  obtain ⟨⟨hv, ht0, ht1⟩, hfl⟩ := hc
  have hfl3 : fs.length ≤ 3 := by omega
  obtain ⟨N, V⟩ := vmemB_iff.1 hv
  have ha := adrs_eq V.blocks
  have hfour := V.four
  have hyn := hy.n
  refine ⟨fun i w => St v w [] ∧ 0 ≤ i ∧ i ≤ fs.length ∧ ∀ f ∈ fs.take i.toNat, wdM m f, fun i _ => (fs.length - i).toNat, ⟨.refl v, by omega, by omega, by simp⟩, ?_⟩
  rintro i w ⟨hS, i0, i1, h3⟩
  dsimp only
  refine ⟨fun hi => ?_, fun hi => ?_⟩
  · simp only [decide_eq_true_eq, decide_eq_false_iff_not, Bool.and_eq_true, Bool.and_eq_false_iff, Bool.or_eq_true, Bool.or_eq_false_iff, Bool.not_eq_true', Bool.not_eq_false', Bool.not_true, Bool.not_false, Bool.false_eq_true, Bool.true_eq_false, Int.not_lt, Int.not_le, ge_iff_le, gt_iff_lt, Bool.not_eq_eq_eq_not, Bool.true_or, Bool.or_true, Bool.false_or, Bool.or_false, Bool.true_and, Bool.and_true, false_or, or_false, true_and, and_true, Decidable.not_not] at hi
    have htk := take_nth (l := fs) i0 (by omega)
    have hmf := nth_mem (l := fs) i0 (by omega)
    refine go_ix hf i0 (by omega) ?_
    refine ld_int (hf.mono hS.sub) i0 (by omega) ?_
    intro c0 c1
    refine ⟨_, c_inRange, fun _ => hf.ix i0 (by omega), nth fs i, fun _ => ((hf.mono hS.sub).int i0 (by omega)).1, _, fun _ => c_isBlock (hx.mono hS.sub) V.blocks ⟨c0, c1⟩, fun hq => bad (fun hd => ?_) w [] hS, fun hq => ?_⟩
    · rcases hd.2.2.2.2.1 _ hmf with h1 | h1
      · rw [decide_eq_true h1.1, decide_eq_true h1.2] at hq; cases hq
      · rw [ha] at h1; rw [h1] at hq; simp at hq
    · have hw : wdM m (nth fs i) := wdB (by
        rw [ha]
        cases h1 : (decide (-999 ≤ nth fs i) && decide (nth fs i ≤ 999)) with
        | true => exact .inl rfl
        | false => right; rw [h1] at hq; simpa using hq)
      refine go_wr (by omega) (by omega) ?_
      refine ⟨rfl, rfl, rfl, rfl, ⟨hS, by omega, by omega, ?_⟩, by omega⟩
      rw [htk]; intro f hf
      rcases List.mem_append.1 hf with hf | hf
      · exact h3 f hf
      · rw [List.mem_singleton.1 hf]; exact hw
  simp only [decide_eq_true_eq, decide_eq_false_iff_not, Bool.and_eq_true, Bool.and_eq_false_iff, Bool.or_eq_true, Bool.or_eq_false_iff, Bool.not_eq_true', Bool.not_eq_false', Bool.not_true, Bool.not_false, Bool.false_eq_true, Bool.true_eq_false, Int.not_lt, Int.not_le, ge_iff_le, gt_iff_lt, Bool.not_eq_eq_eq_not, Bool.true_or, Bool.or_true, Bool.false_or, Bool.or_false, Bool.true_and, Bool.and_true, false_or, or_false, true_and, and_true, Decidable.not_not] at hi
  rw [take_all (by omega)] at h3
  obtain ⟨q0, q1, q2, q3⟩ := V.at_ hfl3
  refine Mk.use (c_copyMemory hx hy) hS ?_
  rintro _ w1 _ ⟨t, s, J1, J2, rfl, hO, hP, rfl⟩ hS hsub
  replace hS : St v w1 (J1 ++ (J2 ++ [])) := hS.perm (by simp)
  refine ⟨_, _, rfl, ?_⟩
  refine go_ix hy (by omega) (by omega) ?_
  refine ld_int (hy.mono hS.sub) (by omega) (by omega) ?_
  rw [hfn]
  intro c0 c1
  have tail : ∀ (w : World) (x3 y3 : Sl) (I3 K3 : Items), OwnI x3 (allocM m tag fs).words I3 → OwnI y3 (allocM m tag fs).free K3 → St v w (I3 ++ (K3 ++ [])) →
      ∃ q35 : Bool, (Trip Try.prog 87 #[.agg #[x3.val, y3.val]] w fun r36 w37 => r36 = .bool q35 ∧ Sub w w37) ∧
        ((!q35) = true → ∃ J, St v w J ∧ ∃ x' y' : Sl, ∃ J1 J2, Value.tuple #[.agg #[.slice none 0 0, .slice none 0 0], .int .i64 0] = .tuple #[.agg #[x'.val, y'.val], .int .i64 (abN m tag fs)] ∧ OwnI x' (abR m tag fs).words J1 ∧ OwnI y' (abR m tag fs).free J2 ∧ J = J1 ++ J2) ∧
        ((!q35) = false → ∃ n38 : Int, Wr .i64 (1000 + atM m fs.length) n38 ∧ ∃ J, St v w J ∧ ∃ x' y' : Sl, ∃ J1 J2, Value.tuple #[.agg #[x3.val, y3.val], .int .i64 n38] = .tuple #[.agg #[x'.val, y'.val], .int .i64 (abN m tag fs)] ∧ OwnI x' (abR m tag fs).words J1 ∧ OwnI y' (abR m tag fs).free J2 ∧ J = J1 ++ J2) := by
    intro w x3 y3 I3 K3 hO hP hS
    refine ⟨_, c_validMemory (m := allocM m tag fs) (hO.read hS) (hP.read hS), fun hq => bad (fun hd => ?_) w (I3 ++ K3) (by simpa using hS), fun hq => ?_⟩
    · rw [vmemB_iff.2 hd.2.2.2.2.2] at hq; cases hq
    · have hd : abOk m tag fs := ⟨⟨N, V⟩, ht0, ht1, hfl3, h3, vmemB_iff.1 (by simpa using hq)⟩
      have hb : atM m fs.length ≤ 1099511627776 + 2 := by
        have h4 := (hO v).le
        have h5 : (allocM m tag fs).words.length = (baseM m fs.length).length := by
          show (fillL _ _ _ _).length = _
          unfold fillL
          rw [setL_len (by omega) (by simp; omega)]; simp
        omega
      refine go_wr (by omega) (by omega) ?_
      exact ⟨I3 ++ K3, by simpa using hS, x3, y3, I3, K3, by rw [abN_t hd], by rw [abR_t hd]; exact hO, by rw [abR_t hd]; exact hP, rfl⟩
  refine ⟨fun hp => ?_, fun hp => ?_⟩
  · simp only [decide_eq_true_eq, decide_eq_false_iff_not, Bool.and_eq_true, Bool.and_eq_false_iff, Bool.or_eq_true, Bool.or_eq_false_iff, Bool.not_eq_true', Bool.not_eq_false', Bool.not_true, Bool.not_false, Bool.false_eq_true, Bool.true_eq_false, Int.not_lt, Int.not_le, ge_iff_le, gt_iff_lt, Bool.not_eq_eq_eq_not, Bool.true_or, Bool.or_true, Bool.false_or, Bool.or_false, Bool.true_and, Bool.and_true, false_or, or_false, true_and, and_true, Decidable.not_not] at hp
    obtain ⟨e1, e2⟩ := q3 hp
    obtain ⟨f1, f2, f3⟩ := freeA_mem.1 e2
    obtain ⟨o1, o2, o3, o4⟩ := V.blocks.ok f1
    have hbase : baseM m fs.length = m.words := if_pos hp
    have hafree : afreeM m fs.length = m.free.set fs.length (nth m.words (atM m fs.length + 1) / 4) := if_pos hp
    refine go_ix hy (by omega) (by omega) ?_
    refine ld_int (hy.mono hS.sub) (by omega) (by omega) ?_
    intro _ _
    refine go_wr (by omega) (by omega) ?_
    rw [← e1]
    refine go_wr (by omega) (by omega) ?_
    refine go_ix hx (by omega) (by omega) ?_
    refine ld_int (hx.mono hS.sub) (by omega) (by omega) ?_
    intro d0 d1
    refine ⟨nth m.words (atM m fs.length + 1) / 4, ⟨by decide, by rw [tdiv4 o3]; exact wrap_i64 (by omega) (by omega)⟩, ?_⟩
    refine go_oix (hP v) (by omega) (by omega) ?_
    refine st_int (hP v) hS (by omega) (by omega) ⟨by omega, by omega⟩ ?_
    intro w2 J3 hP3 hS
    refine Trip.mono' (c_fill (ws := baseM m fs.length) (at_ := atM m fs.length) (by rw [hbase]; exact hO) hf hS q0 q1 ht0 (by omega) (by omega)) ?_
    rintro _ w3 ⟨I3, rfl, hO3, hS⟩
    refine ⟨_, _, rfl, tail w3 t s I3 J3 hO3 ?_ hS⟩
    show OwnI s (afreeM m fs.length) J3
    rw [hafree, ← show ((fs.length : Int)).toNat = fs.length from rfl]
    exact hP3.toI
  · simp only [decide_eq_true_eq, decide_eq_false_iff_not, Bool.and_eq_true, Bool.and_eq_false_iff, Bool.or_eq_true, Bool.or_eq_false_iff, Bool.not_eq_true', Bool.not_eq_false', Bool.not_true, Bool.not_false, Bool.false_eq_true, Bool.true_eq_false, Int.not_lt, Int.not_le, ge_iff_le, gt_iff_lt, Bool.not_eq_eq_eq_not, Bool.true_or, Bool.or_true, Bool.false_or, Bool.or_false, Bool.true_and, Bool.and_true, false_or, or_false, true_and, and_true, Decidable.not_not] at hp
    have hbase : baseM m fs.length = m.words ++ List.replicate (2 + fs.length) 0 := if_neg (by omega)
    have hafree : afreeM m fs.length = m.free := if_neg (by omega)
    have hat : atM m fs.length = m.words.length := if_neg (by omega)
    refine go_wr (by omega) (by omega) ?_
    refine Mk.use (c_zeros (by omega) (by omega)) hS ?_
    rintro _ w2 J3 ⟨z, rfl, hZ⟩ hS hsub2
    refine ⟨_, rfl, hsub2, ?_⟩
    refine Own.append (hO v) hS (Own.src hZ hS) (by simp; omega) (by decide) ?_
    intro x5 w5 I5 hO5 hS
    refine ⟨_, rfl, ?_⟩
    rw [hxn]
    rw [show (2 + (fs.length : Int)).toNat = 2 + fs.length from by omega, ← hbase] at hO5
    replace hS : St v w5 (I5 ++ (J2 ++ [])) := hS.to
    have hf5 := c_fill (y := s) (at_ := atM m fs.length) hO5.toI hf hS q0 q1 ht0 (by omega) (by omega)
    rw [hat] at hf5
    refine Trip.mono' hf5 ?_
    rintro _ w3 ⟨I3, rfl, hO3, hS⟩
    rw [← hat] at hO3 ⊢
    refine ⟨_, _, rfl, tail w3 x5 s I3 J2 hO3 ?_ hS⟩
    show OwnI s (afreeM m fs.length) J2
    rw [hafree]; exact hP

theorem c_implAllocBlock (hx : Read v x m.words) (hy : Read v y m.free) (hf : Read v xf fs) (hn : InI tag) (hlen : m.words.length ≤ 1000000000) :
    Mk Try.prog 42 #[.agg #[x.val, y.val], .int .i64 tag, xf.val] v fun r J => ∃ x' y' : Sl, ∃ J1 J2, r = .tuple #[.agg #[x'.val, y'.val], .int .i64 (abN m tag fs)] ∧ OwnI x' (abR m tag fs).words J1 ∧ OwnI y' (abR m tag fs).free J2 ∧ J = J1 ++ J2 := by
  refine of42j _ _ _ _ _ _ ?_
  unfold vc42j
  have hxl := hx.le
  have hxn := hx.n
  have hfn := hf.n
  have bad : ¬ abOk m tag fs → ∀ w I, St v w (I ++ []) → ∃ J, St v w J ∧ ∃ x' y' : Sl, ∃ J1 J2, Value.tuple #[.agg #[.slice none 0 0, .slice none 0 0], .int .i64 0] = .tuple #[.agg #[x'.val, y'.val], .int .i64 (abN m tag fs)] ∧ OwnI x' (abR m tag fs).words J1 ∧ OwnI y' (abR m tag fs).free J2 ∧ J = J1 ++ J2 :=
    fun hb w I hS => ⟨[], hS.to, ⟨none, 0, 0⟩, ⟨none, 0, 0⟩, [], [], by rw [abN_f hb]; rfl, by rw [abR_f hb]; exact OwnI.nil, by rw [abR_f hb]; exact OwnI.nil, rfl⟩
  refine Mk.use (c_openMemory hx hy) (.refl v) ?_
  rintro _ w1 J1 ⟨xc, mp, rfl, hM⟩ hS hsub
  refine ⟨_, _, _, rfl, fun hc => bad (fun hd => ?_) w1 J1 hS, fun hc => ?_⟩
  · rw [vmemB_iff.2 hd.1] at hc
    have h1 := hd.2.1
    have h2 := hd.2.2.1
    have h3 := hd.2.2.2.1
    simp at hc; omega
  simp only [decide_eq_true_eq, decide_eq_false_iff_not, Bool.and_eq_true, Bool.and_eq_false_iff, Bool.or_eq_true, Bool.or_eq_false_iff, Bool.not_eq_true', Bool.not_eq_false', Bool.not_true, Bool.not_false, Bool.false_eq_true, Bool.true_eq_false, Int.not_lt, Int.not_le, ge_iff_le, gt_iff_lt, Bool.not_eq_eq_eq_not, Bool.true_or, Bool.or_true, Bool.false_or, Bool.or_false, Bool.true_and, Bool.and_true, false_or, or_false, true_and, and_true, Decidable.not_not] at hc
  obtain ⟨⟨⟨hv, ht0⟩, ht1⟩, hfl⟩ := hc
  have hfl3 : fs.length ≤ 3 := by omega
  obtain ⟨N, J2, J3, V, hC, hMp, rfl⟩ := hM hv
  have ha := adrs_eq V.blocks
  have hfour := V.four
  have hyn := hy.n
  replace hS : St v w1 (J2 ++ (J3 ++ [])) := hS.perm (by simp)
  refine ⟨fun i w => St v w (J2 ++ (J3 ++ [])) ∧ 0 ≤ i ∧ i ≤ fs.length ∧ ∀ f ∈ fs.take i.toNat, wdM m f, fun i _ => (fs.length - i).toNat, ⟨hS, by omega, by omega, by simp⟩, ?_⟩
  clear hS
  rintro i w ⟨hS, i0, i1, h3⟩
  dsimp only
  refine ⟨fun hi => ?_, fun hi => ?_⟩
  · simp only [decide_eq_true_eq, decide_eq_false_iff_not, Bool.and_eq_true, Bool.and_eq_false_iff, Bool.or_eq_true, Bool.or_eq_false_iff, Bool.not_eq_true', Bool.not_eq_false', Bool.not_true, Bool.not_false, Bool.false_eq_true, Bool.true_eq_false, Int.not_lt, Int.not_le, ge_iff_le, gt_iff_lt, Bool.not_eq_eq_eq_not, Bool.true_or, Bool.or_true, Bool.false_or, Bool.or_false, Bool.true_and, Bool.and_true, false_or, or_false, true_and, and_true, Decidable.not_not] at hi
    have htk := take_nth (l := fs) i0 (by omega)
    have hmf := nth_mem (l := fs) i0 (by omega)
    refine go_ix hf i0 (by omega) ?_
    refine ld_int (hf.mono hS.sub) i0 (by omega) ?_
    intro c0 c1
    refine ⟨_, _, V.lb (OwnD.read hC hS) (hMp.read hS) ⟨c0, c1⟩ hxl, _, fun _ => c_isInt, fun hq => bad (fun hd => ?_) w (J2 ++ J3) (by simpa using hS), fun hq => ?_⟩
    · rcases hd.2.2.2.2.1 _ hmf with h1 | h1
      · rw [decide_eq_true (show nth fs i ≥ -999 from h1.1), decide_eq_true h1.2] at hq; simp at hq
      · rw [ha] at h1; rw [h1] at hq; simp at hq
    · have hw : wdM m (nth fs i) := wdB (by
        rw [ha]
        cases h1 : blkB m.words (adr m.words N) (nth fs i) with
        | true => exact .inr rfl
        | false => left; rw [h1] at hq; simpa using hq)
      refine go_wr (by omega) (by omega) ?_
      refine ⟨rfl, rfl, rfl, rfl, rfl, rfl, ⟨hS, by omega, by omega, ?_⟩, by omega⟩
      rw [htk]; intro f hf
      rcases List.mem_append.1 hf with hf | hf
      · exact h3 f hf
      · rw [List.mem_singleton.1 hf]; exact hw
  simp only [decide_eq_true_eq, decide_eq_false_iff_not, Bool.and_eq_true, Bool.and_eq_false_iff, Bool.or_eq_true, Bool.or_eq_false_iff, Bool.not_eq_true', Bool.not_eq_false', Bool.not_true, Bool.not_false, Bool.false_eq_true, Bool.true_eq_false, Int.not_lt, Int.not_le, ge_iff_le, gt_iff_lt, Bool.not_eq_eq_eq_not, Bool.true_or, Bool.or_true, Bool.false_or, Bool.or_false, Bool.true_and, Bool.and_true, false_or, or_false, true_and, and_true, Decidable.not_not] at hi
  rw [take_all (by omega)] at h3
  obtain ⟨q0, q1, q2, q3⟩ := V.at_ hfl3
  refine Mk.use (c_cloneMem hx hy) hS ?_
  rintro _ w2 _ ⟨t, s, J4, J5, rfl, hO, hP, rfl⟩ hS hsub
  replace hS : St v w2 (J4 ++ (J5 ++ [])) := hS.perm (L' := J4 ++ (J5 ++ (J2 ++ (J3 ++ [])))) (by simp) |>.to
  refine ⟨_, _, rfl, ?_⟩
  refine go_oix (hP v) (by omega) (by omega) ?_
  refine ld_int (hP.read hS) (by omega) (by omega) ?_
  rw [hfn]
  intro c0 c1
  have hgo : -9223372036854775808 ≤ nth m.free (fs.length : Int) - 1 := by omega
  refine go_wr hgo (by omega) ?_
  have htn := (hO v).n
  refine ⟨fun at_ xw w => at_ = atM m fs.length ∧ ∃ I K, OwnI xw (baseM m fs.length) I ∧ OwnI s (afreeM m fs.length) K ∧ St v w (I ++ (K ++ [])), ⟨fun hp => ?_, fun hp => ?_⟩, ?_⟩
  · simp only [decide_eq_true_eq, decide_eq_false_iff_not, Bool.and_eq_true, Bool.and_eq_false_iff, Bool.or_eq_true, Bool.or_eq_false_iff, Bool.not_eq_true', Bool.not_eq_false', Bool.not_true, Bool.not_false, Bool.false_eq_true, Bool.true_eq_false, Int.not_lt, Int.not_le, ge_iff_le, gt_iff_lt, Bool.not_eq_eq_eq_not, Bool.true_or, Bool.or_true, Bool.false_or, Bool.or_false, Bool.true_and, Bool.and_true, false_or, or_false, true_and, and_true, Decidable.not_not] at hp
    have hbase : baseM m fs.length = m.words ++ List.replicate (2 + fs.length) 0 := if_neg (by omega)
    have hafree : afreeM m fs.length = m.free := if_neg (by omega)
    have hat : atM m fs.length = m.words.length := if_neg (by omega)
    refine go_wr (by omega) (by omega) ?_
    rw [show (2 + (fs.length : Int)) = ((2 + fs.length : Nat) : Int) from by omega]
    refine Own.appendZ intT (hO v) hS (by omega) (by omega) (by decide) ?_
    intro x5 w5 I5 hO5 hS
    exact ⟨_, rfl, rfl, rfl, rfl, rfl, rfl, rfl, rfl, by rw [hat]; omega, I5, J5, by rw [hbase]; exact hO5.toI, by rw [hafree]; exact hP, hS.to⟩
  · simp only [decide_eq_true_eq, decide_eq_false_iff_not, Bool.and_eq_true, Bool.and_eq_false_iff, Bool.or_eq_true, Bool.or_eq_false_iff, Bool.not_eq_true', Bool.not_eq_false', Bool.not_true, Bool.not_false, Bool.false_eq_true, Bool.true_eq_false, Int.not_lt, Int.not_le, ge_iff_le, gt_iff_lt, Bool.not_eq_eq_eq_not, Bool.true_or, Bool.or_true, Bool.false_or, Bool.or_false, Bool.true_and, Bool.and_true, false_or, or_false, true_and, and_true, Decidable.not_not] at hp
    have hpp : 0 < nth m.free (fs.length : Int) := by omega
    obtain ⟨e1, e2⟩ := q3 hpp
    obtain ⟨f1, f2, f3⟩ := freeA_mem.1 e2
    obtain ⟨o1, o2, o3, o4⟩ := V.blocks.ok f1
    have hbase : baseM m fs.length = m.words := if_pos hpp
    have hafree : afreeM m fs.length = m.free.set fs.length (nth m.words (atM m fs.length + 1) / 4) := if_pos hpp
    rw [← e1]
    refine go_wr (by omega) (by omega) ?_
    refine go_oix (hO v) (by omega) (by omega) ?_
    refine ld_int (hO.read hS) (by omega) (by omega) ?_
    intro d0 d1
    refine ⟨nth m.words (atM m fs.length + 1) / 4, ⟨by decide, by rw [tdiv4 o3]; exact wrap_i64 (by omega) (by omega)⟩, ?_⟩
    refine go_oix (hP v) (by omega) (by omega) ?_
    refine st_int (hP v) hS (by omega) (by omega) ⟨by omega, by omega⟩ ?_
    intro w5 K5 hP5 hS
    exact ⟨rfl, rfl, rfl, rfl, rfl, rfl, rfl, rfl, J4, K5, by rw [hbase]; exact hO, by rw [hafree, ← show ((fs.length : Int)).toNat = fs.length from rfl]; exact hP5.toI, hS⟩
  clear hO hP hS hC hMp
  rintro at_ xw w3 ⟨rfl, I, K, hO, hP, hS⟩
  have hbl := (hO v).le
  have hxw := (hO v).n
  generalize hat : atM m fs.length = at_ at *
  generalize hB : baseM m fs.length = B at *
  have hO1 := hO v
  refine ⟨fun w => ∃ I, Own v xw ((B.set at_.toNat 1).set (at_ + 1).toNat (4 * tag + fs.length)) I ∧ St v w (I ++ (K ++ [])), ?_, ?_⟩
  · have hst2 : ∀ (w : World) (I : Items), Own v xw (B.set at_.toNat 1) I → St v w (I ++ (K ++ [])) → (IxOk xw (at_ + 1) ∧ StoreAt w (elA xw (at_ + 1) 1) 0 [.int .i64 (4 * tag + fs.length)] fun w42 =>
        ((.sl x : SV) = .sl x) ∧ ((.sl y : SV) = .sl y) ∧ ((.sl (Sl.mk none 0 0) : SV) = .sl (Sl.mk none 0 0)) ∧ ((.sl (Sl.mk none 0 0) : SV) = .sl (Sl.mk none 0 0)) ∧ ((.sl xc : SV) = .sl xc) ∧ ((.v mp : SV) = .v mp) ∧ ((.sl xw : SV) = .sl xw) ∧ ((.sl s : SV) = .sl s) ∧
        ∃ I, Own v xw ((B.set at_.toNat 1).set (at_ + 1).toNat (4 * tag + fs.length)) I ∧ St v w42 (I ++ (K ++ []))) := by
      intro w I hO hS
      have hl1 : (B.set at_.toNat 1).length = B.length := by simp
      refine go_oix hO (by omega) (by omega) ?_
      refine st_int hO hS (by omega) (by omega) ⟨by omega, by omega⟩ ?_
      intro w5 I5 hO5 hS
      exact ⟨rfl, rfl, rfl, rfl, rfl, rfl, rfl, rfl, I5, hO5, hS⟩
    have hlt : at_ < B.length := by omega
    have a1 : -9223372036854775808 ≤ at_ + 1 := by omega
    have a2 : at_ + 1 ≤ 9223372036854775807 := by omega
    have a3 : -9223372036854775808 ≤ 4 * tag := by omega
    have a4 : 4 * tag ≤ 9223372036854775807 := by omega
    have a5 : -9223372036854775808 ≤ 4 * tag + (fs.length : Int) := by omega
    have a6 : 4 * tag + (fs.length : Int) ≤ 9223372036854775807 := by omega
    have one : InI 1 := ⟨by omega, by omega⟩
    refine go_oix hO1 q0 hlt ?_
    clear q3 q1
    repeat' (first
      | exact hst2 _ _ hO2 hS2
      | (refine go_wr a1 a2 ?_)
      | (refine go_wr a3 a4 ?_)
      | (refine go_wr a5 a6 ?_)
      | (refine st_int hO1 hS q0 hlt one ?_; intro w2 I2 hO2 hS2)
      | (with_reducible refine And.intro ?_ ?_))
  · clear hO1 hS hO
    rintro w4 ⟨I4, hO, hS⟩
    refine go_wr (by omega) (by omega) ?_
    have hl4 := hO.n
    have hll : ((B.set at_.toNat 1).set (at_ + 1).toNat (4 * tag + fs.length)).length = B.length := by simp
    refine ⟨⟨by omega, by omega⟩, ?_⟩
    refine go_copy hO hS (hf.mono hS.sub) (by omega) (by omega) (by omega) ?_
    intro w5 I5 hO5 hS
    refine ⟨_, rfl, ?_⟩
    have hfill : (allocM m tag fs).words = setL ((B.set at_.toNat 1).set (at_ + 1).toNat (4 * tag + fs.length)) (at_ + 2) fs := by
      show fillL (baseM m fs.length) (atM m fs.length) tag fs = _
      unfold fillL
      rw [hat, hB, Int.mul_comm tag 4]
    have hO6 : OwnI xw (allocM m tag fs).words I5 := by rw [hfill]; exact hO5.toI
    have hP6 : OwnI s (allocM m tag fs).free K := hP
    refine ⟨_, c_implValidMemory (m := allocM m tag fs) (hO6.read hS) (hP6.read hS), fun hq => bad (fun hd => ?_) w5 (I5 ++ K) (by simpa using hS), fun hq => ?_⟩
    · rw [vmemB_iff.2 hd.2.2.2.2.2] at hq; cases hq
    · have hd : abOk m tag fs := ⟨⟨N, V⟩, ht0, by omega, hfl3, h3, vmemB_iff.1 (by simpa using hq)⟩
      refine go_wr (by omega) (by omega) ?_
      exact ⟨I5 ++ K, by simpa using hS, xw, s, I5, K, by rw [abN_t hd, hat], by rw [abR_t hd]; exact hO6, by rw [abR_t hd]; exact hP6, rfl⟩
end
end Go.Vc

namespace Go.Vc
open Go Go.Proofs Go.RowKit
set_option linter.all false
section
variable {u v w : World} {x : Sl} {l fs : List Int} {n tag : Int} {I R : Items} {m : MemD}
theorem c_toIntSI (hx : Read v x l) : Mk Try.prog 41 #[x.val] v fun r J => ∃ y, r = y.val ∧ OwnI y l J := by
  refine Trip.mono' (c_toIntS hx) ?_
  rintro r w ⟨J, hS, y, e, hO⟩
  exact ⟨J, hS, y, e, hO.toI⟩
theorem c_markIntSI (hO : OwnI x l I) (hS : St u w (I ++ R)) (n0 : 0 ≤ n) (n1 : n ≤ 1000000000000000) :
    Trip Try.prog 44 #[x.val, .int .i64 n] w fun r w' => ∃ I', r = .int .i64 (n + l.length) ∧ OwnI x (marks n l.length) I' ∧ St u w' (I' ++ R) := by
  refine Trip.mono' (c_markIntS (hO u) hS n0 n1) ?_
  rintro r w ⟨I', e, hO, hS⟩
  exact ⟨I', e, hO.toI, hS⟩
theorem abR_len (hl : m.words.length ≤ 100000000) (hf : fs.length ≤ 1048576) : (abR m tag fs).words.length ≤ m.words.length + 5 := by
  by_cases hd : abOk m tag fs
  · rw [abR_t hd]
    obtain ⟨N, V⟩ := hd.1
    obtain ⟨q0, q1, q2, q3⟩ := V.at_ hd.2.2.2.1
    show (fillL _ _ _ _).length ≤ _
    unfold fillL
    rw [setL_len (by omega) (by simp; omega)]
    simp only [List.length_set]
    have := hd.2.2.2.1
    unfold baseM; split
    · omega
    · simp; omega
  · rw [abR_f hd]; exact Nat.zero_le _
end

theorem l_ExactAllocBlock {v : World} {x y xf : Sl} {m : MemD} {tag : Int} {fs : List Int} (hx : ReadB BM v x m.words) (hy : ReadB BM v y m.free) (hn : InI tag) (hf : ReadB BM v xf fs) :
    Trip Try.prog 8 #[.agg #[x.val, y.val], .int .i64 tag, xf.val] v fun r v' => r = .bool true ∧ Sub v v' := by
  refine of8 _ _ _ _ _ _ ?_
  unfold vc8
  have hfn := hf.n
  refine ⟨fun hc => ⟨rfl, .refl v⟩, fun hc0 => ?_⟩
  simp only [decide_eq_true_eq, decide_eq_false_iff_not, Bool.and_eq_true, Bool.and_eq_false_iff, Bool.or_eq_true, Bool.or_eq_false_iff, Bool.not_eq_true', Bool.not_eq_false', Bool.not_true, Bool.not_false, Bool.false_eq_true, Bool.true_eq_false, Int.not_lt, Int.not_le, ge_iff_le, gt_iff_lt, Bool.not_eq_eq_eq_not, Bool.true_or, Bool.or_true, Bool.false_or, Bool.or_false, Bool.true_and, Bool.and_true, false_or, or_false, true_and, and_true, Decidable.not_not] at hc0
  have hfl : fs.length ≤ 1048576 := by omega
  refine ⟨_, c_szMemory (b := 1048576) hx hy (by omega) (by omega), fun hc => ⟨rfl, .refl v⟩, fun hc => ?_⟩
  simp only [decide_eq_true_eq, decide_eq_false_iff_not, Bool.and_eq_true, Bool.and_eq_false_iff, Bool.or_eq_true, Bool.or_eq_false_iff, Bool.not_eq_true', Bool.not_eq_false', Bool.not_true, Bool.not_false, Bool.false_eq_true, Bool.true_eq_false, Int.not_lt, Int.not_le, ge_iff_le, gt_iff_lt, Bool.not_eq_eq_eq_not, Bool.true_or, Bool.or_true, Bool.false_or, Bool.or_false, Bool.true_and, Bool.and_true, false_or, or_false, true_and, and_true, Decidable.not_not] at hc
  obtain ⟨b1, b2⟩ := szM_le hc
  replace hx : Read v x m.words := hx.toInts (by show m.words.length ≤ 1099511627776; omega)
  replace hy : Read v y m.free := hy.toInts (by show m.free.length ≤ 1099511627776; omega)
  replace hf : Read v xf fs := hf.toInts (by show fs.length ≤ 1099511627776; omega)
  have hl2 : m.words.length ≤ 100000000 := by omega
  have hlen : m.words.length ≤ 1000000000 := by omega
  have hposA := endM_pos m
  have hendA : endM m ≤ 10000000 := by unfold endM; omega
  have hlR : (abR m tag fs).words.length ≤ 100000000 := by have := abR_len (tag := tag) (fs := fs) hl2 (by omega); omega
  have hposR := endM_pos (abR m tag fs)
  refine Mk.use (c_toMemory hx hy) (.refl v) ?_
  rintro _ w1 _ ⟨x2, x3, J4, J5, rfl, h6, h7, rfl⟩ hS hsub
  replace hS : St v w1 (J4 ++ (J5 ++ [])) := hS.perm (by
    classical
    exact List.perm_iff_count.2 fun a => by (try simp only [List.count_append, List.count_nil]) <;> omega)
  refine ⟨_, _, rfl, ?_⟩
  refine Mk.use (c_toIntSI hf) hS ?_
  rintro _ w8 J10 ⟨x9, rfl, h11⟩ hS hsub
  replace hS : St v w8 (J10 ++ (J4 ++ (J5 ++ []))) := hS.perm (by
    classical
    exact List.perm_iff_count.2 fun a => by (try simp only [List.count_append, List.count_nil]) <;> omega)
  refine ⟨_, rfl, ?_⟩
  replace hS : St v w8 ((J4 ++ (J5 ++ (J10 ++ []))) ++ ([])) := hS.perm (by
    classical
    exact List.perm_iff_count.2 fun a => by (try simp only [List.count_append, List.count_nil]) <;> omega)
  obtain ⟨u12, hsu12, hS, hJ⟩ := hS.freeze (J4 ++ (J5 ++ (J10 ++ [])))
  have r13 : Read u12 x2 (m.words) := OwnI.read1 (u := v) h6 (hJ.to : St v u12 (J4 ++ [])).left
  have r14 : Read u12 x3 (m.free) := OwnI.read1 (u := v) h7 (hJ.to : St v u12 (J5 ++ [])).left
  have r15 : Read u12 x9 (fs) := OwnI.read1 (u := v) h11 (hJ.to : St v u12 (J10 ++ [])).left
  clear hJ
  refine Mk.use (c_specAllocBlock r13 r14 r15 hn hlen) hS ?_
  rintro _ w22 _ ⟨x16, x17, J20, J21, rfl, h18, h19, rfl⟩ hS hsub
  replace hS : St u12 w22 (J20 ++ (J21 ++ [])) := hS.perm (by
    classical
    exact List.perm_iff_count.2 fun a => by (try simp only [List.count_append, List.count_nil]) <;> omega)
  replace hS : St u12 w22 ((J20 ++ (J21 ++ [])) ++ ([])) := hS.perm (by
    classical
    exact List.perm_iff_count.2 fun a => by (try simp only [List.count_append, List.count_nil]) <;> omega)
  obtain ⟨u23, hsu23, hS, hJ⟩ := hS.freeze (J20 ++ (J21 ++ []))
  have r24 : Read u23 x16 ((abR m tag fs).words) := OwnI.read1 (u := u12) h18 (hJ.to : St u12 u23 (J20 ++ [])).left
  have r25 : Read u23 x17 ((abR m tag fs).free) := OwnI.read1 (u := u12) h19 (hJ.to : St u12 u23 (J21 ++ [])).left
  clear hJ
  have hvu : Sub v u23 := hsu12.trans hsu23
  replace hx := hx.mono hvu
  replace hy := hy.mono hvu
  replace hf := hf.mono hvu
  refine ⟨_, _, _, rfl, ?_⟩
  refine Mk.use (c_toMemory hx hy) hS ?_
  rintro _ w26 _ ⟨x27, x28, J29, J30, rfl, h31, h32, rfl⟩ hS hsub
  replace hS : St u23 w26 (J29 ++ (J30 ++ [])) := hS.perm (by
    classical
    exact List.perm_iff_count.2 fun a => by (try simp only [List.count_append, List.count_nil]) <;> omega)
  refine ⟨_, _, rfl, ?_⟩
  refine Mk.use (c_toIntSI hf) hS ?_
  rintro _ w33 J35 ⟨x34, rfl, h36⟩ hS hsub
  replace hS : St u23 w33 (J35 ++ (J29 ++ (J30 ++ []))) := hS.perm (by
    classical
    exact List.perm_iff_count.2 fun a => by (try simp only [List.count_append, List.count_nil]) <;> omega)
  refine ⟨_, rfl, ?_⟩
  refine Mk.usew (c_implAllocBlock (m := m) (fs := fs) (OwnI.read h31 hS) (OwnI.read h32 hS) (OwnI.read h36 hS) hn hlen) hS ?_
  rintro _ w43 _ ⟨x37, x38, J41, J42, rfl, h39, h40, rfl⟩ hS hsub
  replace hS : St u23 w43 (J41 ++ (J42 ++ (J35 ++ (J29 ++ (J30 ++ []))))) := hS.perm (by
    classical
    exact List.perm_iff_count.2 fun a => by (try simp only [List.count_append, List.count_nil]) <;> omega)
  refine ⟨_, _, _, rfl, _, c_eqMemory (m := (abR m tag fs)) (m' := (abR m tag fs)) (OwnI.read h39 hS) (OwnI.read h40 hS) (r24.mono hS.sub) (r25.mono hS.sub), fun hc => ?_, fun _ => ?_⟩
  · simp [eqMB_refl] at hc
  refine Mk.use (c_toMemory hx hy) hS ?_
  rintro _ w44 _ ⟨x45, x46, J47, J48, rfl, h49, h50, rfl⟩ hS hsub
  replace hS : St u23 w44 (J47 ++ (J48 ++ (J41 ++ (J42 ++ (J35 ++ (J29 ++ (J30 ++ []))))))) := hS.perm (by
    classical
    exact List.perm_iff_count.2 fun a => by (try simp only [List.count_append, List.count_nil]) <;> omega)
  refine ⟨_, _, rfl, hsub, _, c_eqMemory (m := m) (m' := m) (OwnI.read h31 hS) (OwnI.read h32 hS) (OwnI.read h49 hS) (OwnI.read h50 hS), fun hc => ?_, fun _ => ?_⟩
  · simp [eqMB_refl] at hc
  replace hS : St u23 w44 (J41 ++ (J42 ++ (J35 ++ (J29 ++ (J30 ++ []))))) := hS.to
  refine Mk.use (c_toIntSI hf) hS ?_
  rintro _ w51 J53 ⟨x52, rfl, h54⟩ hS hsub
  replace hS : St u23 w51 (J53 ++ (J41 ++ (J42 ++ (J35 ++ (J29 ++ (J30 ++ [])))))) := hS.perm (by
    classical
    exact List.perm_iff_count.2 fun a => by (try simp only [List.count_append, List.count_nil]) <;> omega)
  refine ⟨_, rfl, _, c_eqIntS (l := fs) (ws := fs) (OwnI.read h36 hS) (OwnI.read h54 hS), fun hc => ?_, fun _ => ?_⟩
  · simp at hc
  replace hS : St u23 w51 (J41 ++ (J42 ++ (J35 ++ (J29 ++ (J30 ++ []))))) := hS.to
  replace hS : St u23 w51 (J29 ++ (J30 ++ (J41 ++ (J42 ++ (J35 ++ []))))) := hS.perm (by
    classical
    exact List.perm_iff_count.2 fun a => by (try simp only [List.count_append, List.count_nil]) <;> omega)
  refine Trip.mono' (c_markMemory (m := m) h31 h32 hS hl2) ?_
  rintro _ w59 ⟨J55, J56, rfl, h57, h58, hS⟩
  refine ⟨_, rfl, ?_⟩
  replace hS : St u23 w59 (J35 ++ (J55 ++ (J56 ++ (J41 ++ (J42 ++ []))))) := hS.perm (by
    classical
    exact List.perm_iff_count.2 fun a => by (try simp only [List.count_append, List.count_nil]) <;> omega)
  refine Trip.mono' (c_markIntSI (l := fs) h36 hS (by omega) (by omega)) ?_
  rintro _ w62 ⟨J60, rfl, h61, hS⟩
  refine ⟨_, rfl, _, fun _ => c_eqMemory (m := (abR m tag fs)) (m' := (abR m tag fs)) (OwnI.read h39 hS) (OwnI.read h40 hS) (r24.mono hS.sub) (r25.mono hS.sub), fun hc => ?_, fun _ => ?_⟩
  · simp [eqMB_refl] at hc
    omega
  replace hS : St u23 w62 (J41 ++ (J42 ++ [])) := hS.to
  replace hS : St u23 w62 (J41 ++ (J42 ++ [])) := hS.perm (by
    classical
    exact List.perm_iff_count.2 fun a => by (try simp only [List.count_append, List.count_nil]) <;> omega)
  refine Trip.mono' (c_markMemory (m := (abR m tag fs)) h39 h40 hS hlR) ?_
  rintro _ w67 ⟨J63, J64, rfl, h65, h66, hS⟩
  refine ⟨_, rfl, _, c_heldMemory (m := (abR m tag fs)) (OwnI.read h65 hS) (OwnI.read h66 hS) hlR, fun hc => ?_, fun _ => ⟨fun hc => ?_, fun _ => ?_⟩⟩
  · simp only [decide_eq_true_eq, decide_eq_false_iff_not, Bool.and_eq_true, Bool.and_eq_false_iff, Bool.or_eq_true, Bool.or_eq_false_iff, Bool.not_eq_true', Bool.not_eq_false', Bool.not_true, Bool.not_false, Bool.false_eq_true, Bool.true_eq_false, Int.not_lt, Int.not_le, ge_iff_le, gt_iff_lt, Bool.not_eq_eq_eq_not, Bool.true_or, Bool.or_true, Bool.false_or, Bool.or_false, Bool.true_and, Bool.and_true, false_or, or_false, true_and, and_true, Decidable.not_not] at hc; omega
  · simp at hc
  refine Mk.use (c_toMemory hx hy) hS ?_
  rintro _ w68 _ ⟨x69, x70, J71, J72, rfl, h73, h74, rfl⟩ hS hsub
  replace hS : St u23 w68 (J71 ++ (J72 ++ (J63 ++ (J64 ++ [])))) := hS.perm (by
    classical
    exact List.perm_iff_count.2 fun a => by (try simp only [List.count_append, List.count_nil]) <;> omega)
  refine ⟨_, _, rfl, ?_⟩
  refine Mk.use (c_toIntSI hf) hS ?_
  rintro _ w75 J77 ⟨x76, rfl, h78⟩ hS hsub
  replace hS : St u23 w75 (J77 ++ (J71 ++ (J72 ++ (J63 ++ (J64 ++ []))))) := hS.perm (by
    classical
    exact List.perm_iff_count.2 fun a => by (try simp only [List.count_append, List.count_nil]) <;> omega)
  refine ⟨_, rfl, ?_⟩
  refine Mk.usew (c_implAllocBlock (m := m) (fs := fs) (OwnI.read h73 hS) (OwnI.read h74 hS) (OwnI.read h78 hS) hn hlen) hS ?_
  rintro _ w85 _ ⟨x79, x80, J83, J84, rfl, h81, h82, rfl⟩ hS hsub
  replace hS : St u23 w85 (J83 ++ (J84 ++ (J77 ++ (J71 ++ (J72 ++ (J63 ++ (J64 ++ []))))))) := hS.perm (by
    classical
    exact List.perm_iff_count.2 fun a => by (try simp only [List.count_append, List.count_nil]) <;> omega)
  refine ⟨_, _, _, rfl, _, c_eqMemory (m := (abR m tag fs)) (m' := (abR m tag fs)) (OwnI.read h81 hS) (OwnI.read h82 hS) (r24.mono hS.sub) (r25.mono hS.sub), fun hc => ?_, fun _ => ?_⟩
  · simp [eqMB_refl] at hc
  refine ⟨_, c_heldMemory (m := (abR m tag fs)) (OwnI.read h65 hS) (OwnI.read h66 hS) hlR, fun hc => ?_, fun _ => ⟨fun hc => ?_, fun _ => ⟨rfl, hvu.trans hS.sub⟩⟩⟩
  · simp only [decide_eq_true_eq, decide_eq_false_iff_not, Bool.and_eq_true, Bool.and_eq_false_iff, Bool.or_eq_true, Bool.or_eq_false_iff, Bool.not_eq_true', Bool.not_eq_false', Bool.not_true, Bool.not_false, Bool.false_eq_true, Bool.true_eq_false, Int.not_lt, Int.not_le, ge_iff_le, gt_iff_lt, Bool.not_eq_eq_eq_not, Bool.true_or, Bool.or_true, Bool.false_or, Bool.or_false, Bool.true_and, Bool.and_true, false_or, or_false, true_and, and_true, Decidable.not_not] at hc; omega
  · simp at hc
end Go.Vc
