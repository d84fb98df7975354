/- Part of the proofs about the heaps and memories: a law is joined in the text whose name ends in W and the law. -/
import Derived.Test.YtlmhbeohfihbnaaEH1
namespace Go.Vc
open Go
set_option linter.all false

structure LazyD where
  cells : List CellD
  pend : List Int
abbrev free0 : CellD := ⟨0, 0, []⟩
def raiseC (c : CellD) : CellD := ⟨1, c.tag, c.fields⟩
def raiseL (h : List CellD) (pend : List Int) : List CellD := pend.foldl (fun h p => h.set p.toNat (raiseC (nth h p))) h
def vpend (z : LazyD) : Prop := (∀ p ∈ z.pend, 0 ≤ p ∧ p < z.cells.length ∧ (nth z.cells p).count = 0) ∧ z.pend.Nodup ∧ ∀ c ∈ z.cells, 0 ≤ c.count
def vlazy (z : LazyD) : Prop := vpend z ∧ vheap (raiseL z.cells z.pend) ∧ ∀ p ∈ z.pend, nth (refL (raiseL z.cells z.pend)) p = 0
theorem raiseL_length (h : List CellD) (pend : List Int) : (raiseL h pend).length = h.length := by
  unfold raiseL
  induction pend generalizing h with
  | nil => rfl
  | cons p r ih => rw [List.foldl_cons, ih]; simp
theorem raiseC_idem (c : CellD) : raiseC (raiseC c) = raiseC c := rfl
theorem nth_raise {h : List CellD} {pend : List Int} (hp : ∀ p ∈ pend, 0 ≤ p ∧ p < h.length) {k : Int} (h0 : 0 ≤ k) (h1 : k < h.length) : nth (raiseL h pend) k = if k ∈ pend then raiseC (nth h k) else nth h k := by
  induction pend generalizing h with
  | nil => simp [raiseL]
  | cons p r ih =>
    obtain ⟨p0, p1⟩ := hp p List.mem_cons_self
    have e : raiseL h (p :: r) = raiseL (h.set p.toNat (raiseC (nth h p))) r := rfl
    rw [e, ih (fun q hq => by have := hp q (List.mem_cons_of_mem _ hq); simpa using this) (by simpa using h1), nth_set _ _ _ _ p0 p1 h0]
    by_cases e1 : k = p
    · subst e1
      simp [raiseC_idem]
    · simp [e1]
theorem words_raise (h : List CellD) (pend : List Int) : words (raiseL h pend) = words h := by
  unfold raiseL
  induction pend generalizing h with
  | nil => rfl
  | cons p r ih =>
    rw [List.foldl_cons, ih]
    unfold words
    have : (h.set p.toNat (raiseC (nth h p))).map (·.fields) = h.map (·.fields) := by
      apply List.ext_getElem?
      intro k
      simp only [List.getElem?_map, List.getElem?_set]
      by_cases e : p.toNat = k
      · subst e
        rw [if_pos rfl]
        split
        · rename_i hlt
          simp only [Option.map_some, List.getElem?_eq_getElem hlt]
          show some (nth h p).fields = some (h[p.toNat]).fields
          unfold nth List.getD
          rw [List.getElem?_eq_getElem hlt]; rfl
        · rename_i hge; rw [List.getElem?_eq_none (by omega)]
      · rw [if_neg e]
    rw [List.flatMap_def, List.flatMap_def, this]

def cntF (ws : List Int) (k : Int) : Int := (ws.count (1000 + k) : Nat)
theorem cntF_append (a b : List Int) (k : Int) : cntF (a ++ b) k = cntF a k + cntF b k := by simp [cntF, List.count_append]
theorem cntF_cons (f : Int) (r : List Int) (k : Int) : cntF (f :: r) k = (if f = 1000 + k then 1 else 0) + cntF r k := by
  simp only [cntF, List.count_cons, beq_iff_eq]
  split <;> simp <;> omega
theorem cntF_nonneg (a : List Int) (k : Int) : 0 ≤ cntF a k := by simp [cntF]
theorem cntF_mem {a : List Int} {f : Int} (hf : f ∈ a) (h1 : 1000 ≤ f) : 0 < cntF a (f - 1000) := by
  have : 0 < a.count f := List.count_pos_iff.2 hf
  simp only [cntF]
  rw [show 1000 + (f - 1000) = f from by omega]; omega
/-- in a heap where it is live, a pointer counts wherever it stands -/
theorem cnt_cntF {h : List CellD} (ws : List Int) {k : Int} (h0 : 0 ≤ k) (hl : live h (1000 + k) = true) : cnt h ws k.toNat = cntF ws k := by
  unfold cnt cntF
  congr 1
  rw [List.count, Int.toNat_of_nonneg h0]
  apply List.countP_congr
  intro f _
  simp only [Bool.and_eq_true, decide_eq_true_eq, beq_iff_eq]
  constructor
  · exact fun h => h.2
  · intro e; subst e; exact ⟨hl, rfl⟩

def AcycP (h : List CellD) : Prop := ∃ rk : Nat → Nat, ∀ k : Int, 0 ≤ k → k < h.length → ∀ f ∈ (nth h k).fields, 1000 ≤ f → rk (f - 1000).toNat < rk k.toNat

structure LZ (h : List CellD) (pend todo : List Int) : Prop where
  pr : ∀ p ∈ pend, 0 ≤ p ∧ p < h.length ∧ (nth h p).count = 0
  pn : pend.Nodup
  cell : ∀ c ∈ h, 0 ≤ c.count ∧ c.count ≤ 999999 ∧ c.fields.length ≤ 3 ∧ 0 ≤ c.tag ∧ c.tag ≤ 99
  free : ∀ k : Int, 0 ≤ k → k < h.length → (nth h k).count = 0 → k ∉ pend → nth h k = free0
  ptr : wordsOk h
  ptrT : ∀ f ∈ todo, word h f = true
  cnt : ∀ k : Int, 0 ≤ k → k < h.length → 0 < (nth h k).count → cntF (words h) k + cntF todo k ≤ (nth h k).count
  acyc : AcycP h
/-- the last cell is not free -/
def lastZ (h : List CellD) (pend : List Int) : Prop := 0 < h.length → (nth h (h.length - 1)).count ≠ 0 ∨ ((h.length : Int) - 1) ∈ pend

theorem mem_words {h : List CellD} {f : Int} : f ∈ words h ↔ ∃ k : Int, 0 ≤ k ∧ k < h.length ∧ f ∈ (nth h k).fields := by
  unfold words
  rw [List.mem_flatMap]
  constructor
  · rintro ⟨c, hc, hf⟩
    obtain ⟨i, hi, rfl⟩ := List.getElem_of_mem hc
    exact ⟨i, by omega, by omega, by rw [nth_nat hi]; exact hf⟩
  · rintro ⟨k, h0, h1, hf⟩
    exact ⟨_, nth_mem h0 h1, hf⟩
theorem mem_nthI {h : List CellD} {c : CellD} (hc : c ∈ h) : ∃ i : Int, 0 ≤ i ∧ i < h.length ∧ nth h i = c := by
  obtain ⟨i, hi, rfl⟩ := List.getElem_of_mem hc
  exact ⟨i, by omega, by omega, nth_nat hi⟩
theorem live_iff {h : List CellD} {f : Int} : live h f = true ↔ 1000 ≤ f ∧ f - 1000 < h.length ∧ 0 < (nth h (f - 1000)).count := by simp [live, and_assoc]
theorem word_iff {h : List CellD} {f : Int} : word h f = true ↔ (-999 ≤ f ∧ f ≤ 999) ∨ live h f = true := by simp [word]

theorem vcell_iff {h : List CellD} {c : CellD} : vcell h c = true ↔ c.fields.length ≤ 3 ∧ -1 ≤ c.count ∧ 0 ≤ c.tag ∧ c.tag ≤ 99 ∧ (c.count < 1 → c.tag = 0) ∧ (c.count = 0 → c.fields = []) ∧ (∀ f ∈ c.fields, word h f = true ∧ (c.count < 0 → f = 0)) ∧ c.count ≤ 999999 := by
  simp only [vcell, icell, Bool.and_eq_true, decide_eq_true_eq, List.all_eq_true]
  constructor
  · rintro ⟨⟨⟨⟨⟨⟨⟨h1, h2⟩, h3⟩, h4⟩, h5⟩, h6⟩, h7⟩, h8⟩; exact ⟨h1, h2, h3, h4, h5, h6, h7, h8⟩
  · rintro ⟨h1, h2, h3, h4, h5, h6, h7, h8⟩; exact ⟨⟨⟨⟨⟨⟨⟨h1, h2⟩, h3⟩, h4⟩, h5⟩, h6⟩, h7⟩, h8⟩

theorem vlazy_iff {z : LazyD} : vlazy z ↔ LZ z.cells z.pend [] ∧ lastZ z.cells z.pend := by
  obtain ⟨h, pend⟩ := z
  have hlen := raiseL_length h pend
  constructor
  · rintro ⟨⟨hp1, hp2, hp3⟩, ⟨hv1, hv2, hv3, rk, hv4⟩, hv5⟩
    simp only at hp1 hp2 hp3 hv1 hv2 hv3 hv4 hv5
    have hr : ∀ k : Int, 0 ≤ k → k < h.length → nth (raiseL h pend) k = if k ∈ pend then raiseC (nth h k) else nth h k := fun k k0 k1 => nth_raise (fun p hp => ⟨(hp1 p hp).1, (hp1 p hp).2.1⟩) k0 k1
    have hf : ∀ k : Int, 0 ≤ k → k < h.length → (nth (raiseL h pend) k).fields = (nth h k).fields := fun k k0 k1 => by rw [hr k k0 k1]; split <;> rfl
    have hvc : ∀ k : Int, 0 ≤ k → k < h.length → vcell (raiseL h pend) (if k ∈ pend then raiseC (nth h k) else nth h k) = true := fun k k0 k1 => by rw [← hr k k0 k1]; exact hv2 _ (nth_mem k0 (by omega))
    -- a pointer in a field leads to a live cell
    have hptr : ∀ k : Int, 0 ≤ k → k < h.length → ∀ f ∈ (nth h k).fields, 1000 ≤ f → f - 1000 < h.length ∧ f - 1000 ∉ pend ∧ 0 < (nth h (f - 1000)).count ∧ live (raiseL h pend) f = true := by
      intro k k0 k1 f hff h1
      have hw : word (raiseL h pend) f = true := by
        have := (vcell_iff.1 (hv2 _ (nth_mem (l := raiseL h pend) k0 (by omega)))).2.2.2.2.2.2.1 f (by rw [hf k k0 k1]; exact hff)
        exact this.1
      have hl := word_ptr hw h1
      obtain ⟨_, l2, l3⟩ := live_iff.1 hl
      rw [hlen] at l2
      have hnp : f - 1000 ∉ pend := fun hm => by
        have := hv5 _ hm
        rw [refL, nth_refsW (by omega) (by omega), cnt_cntF _ (by omega) (by rw [show 1000 + (f - 1000) = f from by omega]; exact hl), words_raise] at this
        have hmem : f ∈ words h := mem_words.2 ⟨k, k0, k1, hff⟩
        have := cntF_mem hmem h1
        omega
      rw [hr _ (by omega) l2, if_neg hnp] at l3
      exact ⟨l2, hnp, l3, hl⟩
    show LZ h pend [] ∧ lastZ h pend
    refine ⟨⟨hp1, hp2, fun c hc => ?_, fun k k0 k1 hc hn => ?_, fun c hc f hff => ?_, fun f hf => (by cases hf), fun k k0 k1 hc => ?_, rk, fun k k0 k1 f hff h1 => ?_⟩, fun hpos => ?_⟩
    · obtain ⟨k, k0, k1, rfl⟩ := mem_nthI hc
      have := vcell_iff.1 (hvc k k0 k1)
      have hc0 := hp3 _ hc
      by_cases e : k ∈ pend
      · rw [if_pos e] at this
        have hz := (hp1 k e).2.2
        exact ⟨hc0, by omega, this.1, this.2.2.1, this.2.2.2.1⟩
      · rw [if_neg e] at this
        exact ⟨hc0, this.2.2.2.2.2.2.2, this.1, this.2.2.1, this.2.2.2.1⟩
    · have := vcell_iff.1 (hvc k k0 k1)
      rw [if_neg hn] at this
      have h1 := this.2.2.2.2.1 (by omega)
      have h2 := this.2.2.2.2.2.1 hc
      cases hx : nth h k with
      | mk a b c => rw [hx] at hc h1 h2; simp only at hc h1 h2; subst hc; subst h1; subst h2; rfl
    · obtain ⟨k, k0, k1, rfl⟩ := mem_nthI hc
      have hw : word (raiseL h pend) f = true := ((vcell_iff.1 (hv2 _ (nth_mem (l := raiseL h pend) k0 (by omega)))).2.2.2.2.2.2.1 f (by rw [hf k k0 k1]; exact hff)).1
      rcases word_iff.1 hw with h1 | h1
      · exact word_iff.2 (.inl h1)
      · have h2 := (live_iff.1 h1).1
        obtain ⟨g1, g2, g3, _⟩ := hptr k k0 k1 f hff h2
        exact word_iff.2 (.inr (live_iff.2 ⟨h2, g1, g3⟩))
    · have hnp : k ∉ pend := fun hm => by have := (hp1 k hm).2.2; omega
      have := hv3 k.toNat (by omega) (by rw [Int.toNat_of_nonneg k0, hr k k0 k1, if_neg hnp]; exact hc)
      rw [Int.toNat_of_nonneg k0, hr k k0 k1, if_neg hnp, refL, nth_refsW k0 (by omega), cnt_cntF _ k0 (live_iff.2 ⟨by omega, by omega, by rw [show 1000 + k - 1000 = k from by omega, hr k k0 k1, if_neg hnp]; exact hc⟩), words_raise] at this
      simp [cntF]; simpa [cntF] using this
    · have hl := (hptr k k0 k1 f hff h1).2.2.2
      have := hv4 k.toNat _ f (nth_get (l := raiseL h pend) k0 (by omega)) (by rw [hf k k0 k1]; exact hff) hl
      exact this
    · have := hv1 (by omega)
      rw [hlen, hr _ (by omega) (by omega)] at this
      by_cases e : ((h.length : Int) - 1) ∈ pend
      · exact .inr e
      · rw [if_neg e] at this; exact .inl this
  · rintro ⟨L, hlast⟩
    simp only at L hlast
    have hr : ∀ k : Int, 0 ≤ k → k < h.length → nth (raiseL h pend) k = if k ∈ pend then raiseC (nth h k) else nth h k := fun k k0 k1 => nth_raise (fun p hp => ⟨(L.pr p hp).1, (L.pr p hp).2.1⟩) k0 k1
    have hf : ∀ k : Int, 0 ≤ k → k < h.length → (nth (raiseL h pend) k).fields = (nth h k).fields := fun k k0 k1 => by rw [hr k k0 k1]; split <;> rfl
    have hlv : ∀ f, live h f = true → live (raiseL h pend) f = true ∧ f - 1000 ∉ pend := by
      intro f hl
      obtain ⟨l1, l2, l3⟩ := live_iff.1 hl
      have hnp : f - 1000 ∉ pend := fun hm => by have := (L.pr _ hm).2.2; omega
      exact ⟨live_iff.2 ⟨l1, by omega, by rw [hr _ (by omega) l2, if_neg hnp]; exact l3⟩, hnp⟩
    have hwd : ∀ f, word h f = true → word (raiseL h pend) f = true := fun f hw => by
      rcases word_iff.1 hw with h1 | h1
      · exact word_iff.2 (.inl h1)
      · exact word_iff.2 (.inr (hlv f h1).1)
    have hns : ∀ p ∈ pend, cntF (words h) p = 0 := by
      intro p hp
      obtain ⟨p0, p1, p2⟩ := L.pr p hp
      have : (1000 + p) ∉ words h := fun hm => by
        obtain ⟨k, k0, k1, hff⟩ := mem_words.1 hm
        have := word_ptr (L.ptr _ (nth_mem k0 k1) _ hff) (by omega)
        obtain ⟨_, _, l3⟩ := live_iff.1 this
        rw [show 1000 + p - 1000 = p from by omega] at l3
        omega
      simp [cntF, List.count_eq_zero.2 this]
    refine ⟨⟨L.pr, L.pn, fun c hc => (L.cell c hc).1⟩, ⟨fun hpos => ?_, fun c hc => ?_, fun k hk hc => ?_, ?_⟩, fun p hp => ?_⟩
    · simp only at hpos ⊢
      rw [hlen] at hpos ⊢
      rw [hr _ (by omega) (by omega)]
      rcases hlast hpos with h1 | h1
      · split
        · simp [raiseC]
        · exact h1
      · rw [if_pos h1]; simp [raiseC]
    · obtain ⟨k, k0, k1, rfl⟩ := mem_nthI hc
      rw [hlen] at k1
      have hm := nth_mem (l := h) k0 k1
      obtain ⟨c1, c2, c3, c4, c5⟩ := L.cell _ hm
      rw [hr k k0 k1]
      by_cases e : k ∈ pend
      · rw [if_pos e]
        exact vcell_iff.2 ⟨c3, by simp [raiseC], c4, c5, by simp [raiseC], by simp [raiseC], fun f hff => ⟨hwd f (L.ptr _ hm f hff), by simp [raiseC]⟩, by simp [raiseC]⟩
      · rw [if_neg e]
        refine vcell_iff.2 ⟨c3, by omega, c4, c5, fun hlt => ?_, fun he => ?_, fun f hff => ⟨hwd f (L.ptr _ hm f hff), by omega⟩, c2⟩
        · rw [L.free k k0 k1 (by omega) e]
        · rw [L.free k k0 k1 he e]
    · simp only at hk hc ⊢
      rw [hlen] at hk
      rw [hr k (by omega) (by omega)] at hc ⊢
      rw [refL, nth_refsW (by omega) (by omega)]
      have hlk : live (raiseL h pend) (1000 + (k : Int)) = true := live_iff.2 ⟨by omega, by omega, by rw [show 1000 + (k : Int) - 1000 = k from by omega, hr k (by omega) (by omega)]; exact hc⟩
      rw [cnt_cntF _ (by omega) hlk, words_raise]
      by_cases e : (k : Int) ∈ pend
      · rw [if_pos e, hns _ e]; simp [raiseC]
      · rw [if_neg e] at hc ⊢
        have := L.cnt k (by omega) (by omega) hc
        simpa [cntF] using this
    · obtain ⟨rk, hrk⟩ := L.acyc
      refine ⟨rk, fun i c f hi hff hl => ?_⟩
      have hlt : i < h.length := by rcases Nat.lt_or_ge i (raiseL h pend).length with hl | hg; omega; rw [List.getElem?_eq_none hg] at hi; cases hi
      have hci : nth (raiseL h pend) (i : Int) = c := nth_of (by simpa using hi)
      have := hrk i (by omega) (by omega) f (by rw [← hf i (by omega) (by omega), hci]; exact hff) (live_iff.1 hl).1
      simpa using this
    · simp only
      obtain ⟨p0, p1, p2⟩ := L.pr p hp
      rw [refL, nth_refsW p0 (by omega)]
      have hlk : live (raiseL h pend) (1000 + p) = true := live_iff.2 ⟨by omega, by omega, by rw [show 1000 + p - 1000 = p from by omega, hr p p0 p1, if_pos hp]; simp [raiseC]⟩
      rw [cnt_cntF _ p0 hlk, words_raise]
      exact hns p hp
end Go.Vc

namespace Go.Vc
open Go
set_option linter.all false

def decC (c : CellD) : CellD := ⟨c.count - 1, c.tag, c.fields⟩
def lowerZ (z : LazyD) (k : Int) : LazyD := ⟨z.cells.set k.toNat (decC (nth z.cells k)), if (nth z.cells k).count - 1 = 0 then z.pend ++ [k] else z.pend⟩
def dropF (z : LazyD) (fs : List Int) : LazyD := fs.foldl (fun z f => if 1000 ≤ f then lowerZ z (f - 1000) else z) z
def settle1 (z : LazyD) : LazyD := match z.pend with
  | [] => z
  | p :: r => dropF ⟨z.cells.set p.toNat free0, r⟩ (nth z.cells p).fields
def settleN : Nat → LazyD → LazyD
  | 0, z => z
  | n + 1, z => settleN n (settle1 z)
def trimN (h : List CellD) (pend : List Int) : Nat → Nat
  | 0 => 0
  | n + 1 => if (nth h (n : Int)).count = 0 ∧ (n : Int) ∉ pend then trimN h pend n else n + 1
def nlive (h : List CellD) : Nat := h.countP fun c => decide (0 < c.count)
def nf (z : LazyD) : Nat := nlive z.cells + z.pend.length

theorem nth_ext {h h' : List CellD} (hl : h.length = h'.length) (hn : ∀ k : Int, 0 ≤ k → k < h.length → nth h k = nth h' k) : h = h' := by
  apply List.ext_getElem hl
  intro i h1 h2
  rw [← nth_nat (l := h) h1, ← nth_nat (l := h') h2]
  exact hn i (by omega) (by omega)
theorem words_set {h : List CellD} {k : Int} {c : CellD} (h0 : 0 ≤ k) (h1 : k < h.length) (i : Int) : cntF (words (h.set k.toNat c)) i + cntF (nth h k).fields i = cntF (words h) i + cntF c.fields i := by
  have hlt : k.toNat < h.length := by omega
  have e : nth h k = h[k.toNat] := nth_of (by simp [hlt])
  have h2 : h = h.take k.toNat ++ h[k.toNat] :: h.drop (k.toNat + 1) := by rw [List.getElem_cons_drop hlt, List.take_append_drop]
  have h3 : h.set k.toNat c = h.take k.toNat ++ c :: h.drop (k.toNat + 1) := List.set_eq_take_append_cons_drop .. |>.trans (by rw [if_pos hlt])
  have e1 : cntF (words h) i = cntF (words (h.take k.toNat)) i + (cntF (h[k.toNat]).fields i + cntF (words (h.drop (k.toNat + 1))) i) := by
    conv => lhs; rw [h2]
    simp only [words, List.flatMap_append, List.flatMap_cons, cntF_append]
  have e2 : cntF (words (h.set k.toNat c)) i = cntF (words (h.take k.toNat)) i + (cntF c.fields i + cntF (words (h.drop (k.toNat + 1))) i) := by
    rw [h3]; simp only [words, List.flatMap_append, List.flatMap_cons, cntF_append]
  rw [e]; omega
theorem nlive_set {h : List CellD} {k : Int} {c : CellD} (h0 : 0 ≤ k) (h1 : k < h.length) : nlive (h.set k.toNat c) + (if 0 < (nth h k).count then 1 else 0) = nlive h + (if 0 < c.count then 1 else 0) := by
  have hlt : k.toNat < h.length := by omega
  have e : nth h k = h[k.toNat] := nth_of (by simp [hlt])
  have h2 : h = h.take k.toNat ++ h[k.toNat] :: h.drop (k.toNat + 1) := by rw [List.getElem_cons_drop hlt, List.take_append_drop]
  have h3 : h.set k.toNat c = h.take k.toNat ++ c :: h.drop (k.toNat + 1) := List.set_eq_take_append_cons_drop .. |>.trans (by rw [if_pos hlt])
  have e1 : nlive h = nlive (h.take k.toNat) + (nlive (h.drop (k.toNat + 1)) + if 0 < (h[k.toNat]).count then 1 else 0) := by
    conv => lhs; rw [h2]
    simp only [nlive, List.countP_append, List.countP_cons, decide_eq_true_eq]
  have e2 : nlive (h.set k.toNat c) = nlive (h.take k.toNat) + (nlive (h.drop (k.toNat + 1)) + if 0 < c.count then 1 else 0) := by
    rw [h3]; simp only [nlive, List.countP_append, List.countP_cons, decide_eq_true_eq]
  rw [e]; omega

section
variable {h : List CellD} {pend todo r : List Int} {f p : Int}

theorem LZ.skip (L : LZ h pend (f :: todo)) (hf : ¬ 1000 ≤ f) : LZ h pend todo :=
  ⟨L.pr, L.pn, L.cell, L.free, L.ptr, fun g hg => L.ptrT g (List.mem_cons_of_mem _ hg), fun k k0 k1 hc => by
    have := L.cnt k k0 k1 hc
    rw [cntF_cons, if_neg (by omega)] at this
    omega, L.acyc⟩

theorem LZ.head (L : LZ h pend (f :: todo)) (hf : 1000 ≤ f) : live h f = true := word_ptr (L.ptrT f List.mem_cons_self) hf

theorem LZ.lower (L : LZ h pend (f :: todo)) (hf : 1000 ≤ f) : LZ (lowerZ ⟨h, pend⟩ (f - 1000)).cells (lowerZ ⟨h, pend⟩ (f - 1000)).pend todo := by
  obtain ⟨l1, l2, l3⟩ := live_iff.1 (L.head hf)
  have hk := L.cnt (f - 1000) (by omega) l2 l3
  rw [cntF_cons, if_pos (by omega)] at hk
  have h1 := cntF_nonneg (words h) (f - 1000)
  have h2 := cntF_nonneg todo (f - 1000)
  have hset : ∀ k : Int, 0 ≤ k → nth (h.set (f - 1000).toNat (decC (nth h (f - 1000)))) k = if k = f - 1000 then decC (nth h (f - 1000)) else nth h k := fun k k0 => nth_set _ _ _ _ (by omega) l2 k0
  have hm := L.cell _ (nth_mem (l := h) (i := f - 1000) (by omega) l2)
  have hnp : f - 1000 ∉ pend := fun hp => by have := (L.pr _ hp).2.2; omega
  have hfs : ∀ k : Int, 0 ≤ k → (nth (h.set (f - 1000).toNat (decC (nth h (f - 1000)))) k).fields = (nth h k).fields := fun k k0 => by
    rw [hset k k0]; split
    · rename_i e; rw [e]; rfl
    · rfl
  have hwd : ∀ i, cntF (words (h.set (f - 1000).toNat (decC (nth h (f - 1000))))) i = cntF (words h) i := fun i => by
    have := words_set (c := decC (nth h (f - 1000))) (h := h) (k := f - 1000) (by omega) l2 i
    have e : (decC (nth h (f - 1000))).fields = (nth h (f - 1000)).fields := rfl
    rw [e] at this; omega
  -- what is still pointed to stays live
  have hlv : ∀ g, word h g = true → 0 < cntF (words h) (g - 1000) + cntF todo (g - 1000) → word (h.set (f - 1000).toNat (decC (nth h (f - 1000)))) g = true := by
    intro g hw hpos
    rcases word_iff.1 hw with hi | hl
    · exact word_iff.2 (.inl hi)
    · obtain ⟨g1, g2, g3⟩ := live_iff.1 hl
      refine word_iff.2 (.inr (live_iff.2 ⟨g1, by simpa using g2, ?_⟩))
      rw [hset _ (by omega)]
      split
      · rename_i e
        rw [e] at hpos
        show 0 < (nth h (f - 1000)).count - 1
        omega
      · exact g3
  unfold lowerZ
  simp only
  refine ⟨fun p hp => ?_, ?_, fun c hc => ?_, fun k k0 k1 hc hn => ?_, fun c hc g hg => ?_, fun g hg => ?_, fun k k0 k1 hc => ?_, ?_⟩
  · have hp' : p ∈ pend ∨ ((nth h (f - 1000)).count - 1 = 0 ∧ p = f - 1000) := by
      split at hp
      · rename_i e
        rcases List.mem_append.1 hp with hp | hp
        · exact .inl hp
        · exact .inr ⟨e, List.mem_singleton.1 hp⟩
      · exact .inl hp
    rcases hp' with hp | ⟨e, rfl⟩
    · obtain ⟨p0, p1, p2⟩ := L.pr p hp
      refine ⟨p0, by simpa using p1, ?_⟩
      rw [hset p p0, if_neg (fun e : p = f - 1000 => hnp (e ▸ hp))]; exact p2
    · exact ⟨by omega, by simpa using l2, by rw [hset _ (by omega), if_pos rfl]; exact e⟩
  · split
    · exact List.nodup_append.2 ⟨L.pn, by simp, fun a ha b hb e => by rw [List.mem_singleton.1 hb] at e; subst e; exact hnp ha⟩
    · exact L.pn
  · rcases List.mem_or_eq_of_mem_set hc with hc | hc
    · exact L.cell c hc
    · rw [hc]; exact ⟨by show 0 ≤ (nth h (f - 1000)).count - 1; omega, by show (nth h (f - 1000)).count - 1 ≤ _; omega, hm.2.2⟩
  · rw [hset k k0] at hc ⊢
    simp only [List.length_set] at k1
    by_cases e : k = f - 1000
    · exfalso
      rw [if_pos e] at hc
      have hc' : (nth h (f - 1000)).count - 1 = 0 := hc
      rw [if_pos hc'] at hn
      exact hn (by simp [e])
    · rw [if_neg e] at hc ⊢
      refine L.free k k0 k1 hc fun hm => hn ?_
      split
      · exact List.mem_append_left _ hm
      · exact hm
  · obtain ⟨k, k0, k1, rfl⟩ := mem_nthI hc
    simp only [List.length_set] at k1
    rw [hfs k k0] at hg
    have hw := L.ptr _ (nth_mem k0 k1) g hg
    by_cases h1000 : 1000 ≤ g
    · refine hlv g hw ?_
      have := cntF_mem (mem_words.2 ⟨k, k0, k1, hg⟩) h1000
      have := cntF_nonneg todo (g - 1000)
      omega
    · rcases word_iff.1 hw with hi | hl
      · exact word_iff.2 (.inl hi)
      · exact absurd (live_iff.1 hl).1 h1000
  · have hw := L.ptrT g (List.mem_cons_of_mem _ hg)
    by_cases h1000 : 1000 ≤ g
    · refine hlv g hw ?_
      have := cntF_mem hg h1000
      have := cntF_nonneg (words h) (g - 1000)
      omega
    · rcases word_iff.1 hw with hi | hl
      · exact word_iff.2 (.inl hi)
      · exact absurd (live_iff.1 hl).1 h1000
  · simp only [List.length_set] at k1
    rw [hwd]
    rw [hset k k0] at hc ⊢
    by_cases e : k = f - 1000
    · rw [if_pos e] at hc ⊢
      rw [e]
      show _ ≤ (nth h (f - 1000)).count - 1
      omega
    · rw [if_neg e] at hc ⊢
      have := L.cnt k k0 k1 hc
      rw [cntF_cons, if_neg (by omega)] at this
      omega
  · obtain ⟨rk, hrk⟩ := L.acyc
    refine ⟨rk, fun k k0 k1 g hg h1000 => ?_⟩
    rw [hfs k k0] at hg
    exact hrk k k0 (by simpa using k1) g hg h1000

theorem nf_lower {z : LazyD} {k : Int} (h0 : 0 ≤ k) (h1 : k < z.cells.length) (hc : 0 < (nth z.cells k).count) : nf (lowerZ z k) = nf z := by
  have := nlive_set (c := decC (nth z.cells k)) h0 h1
  rw [if_pos hc] at this
  unfold nf lowerZ
  simp only
  by_cases e : (nth z.cells k).count - 1 = 0
  · rw [if_pos e]
    rw [if_neg (by show ¬ 0 < (nth z.cells k).count - 1; omega)] at this
    rw [List.length_append, List.length_singleton]; omega
  · rw [if_neg e]
    rw [if_pos (by show 0 < (nth z.cells k).count - 1; omega)] at this
    omega

theorem dropF_cons (z : LazyD) (f : Int) (r : List Int) : dropF z (f :: r) = dropF (if 1000 ≤ f then lowerZ z (f - 1000) else z) r := rfl
theorem LZ.dropF : ∀ (todo rest : List Int) {z : LazyD}, LZ z.cells z.pend (todo ++ rest) → LZ (dropF z todo).cells (dropF z todo).pend rest ∧ nf (Go.Vc.dropF z todo) = nf z ∧ (Go.Vc.dropF z todo).cells.length = z.cells.length ∧ z.pend <+: (Go.Vc.dropF z todo).pend
  | [], rest, z, L => ⟨L, rfl, rfl, List.prefix_rfl⟩
  | f :: r, rest, z, L => by
    rw [dropF_cons]
    by_cases hf : 1000 ≤ f
    · rw [if_pos hf]
      have hl := live_iff.1 (LZ.head (todo := r ++ rest) L hf)
      obtain ⟨h1, h2, h3, h4⟩ := LZ.dropF r rest (LZ.lower (todo := r ++ rest) L hf)
      refine ⟨h1, h2.trans (nf_lower (by omega) hl.2.1 hl.2.2), h3.trans (by simp [lowerZ]), List.IsPrefix.trans ?_ h4⟩
      unfold lowerZ
      simp only
      split
      · exact List.prefix_append _ _
      · exact List.prefix_rfl
    · rw [if_neg hf]
      exact LZ.dropF r rest (LZ.skip (todo := r ++ rest) L hf)

theorem LZ.pop (L : LZ h (p :: r) []) : LZ (h.set p.toNat free0) r (nth h p).fields := by
  obtain ⟨p0, p1, p2⟩ := L.pr p List.mem_cons_self
  have hset : ∀ k : Int, 0 ≤ k → nth (h.set p.toNat free0) k = if k = p then free0 else nth h k := fun k k0 => nth_set _ _ _ _ p0 p1 k0
  have hnr : p ∉ r := (List.nodup_cons.1 L.pn).1
  have hwd : ∀ i, cntF (words (h.set p.toNat free0)) i + cntF (nth h p).fields i = cntF (words h) i := fun i => by
    have := words_set (c := free0) (h := h) (k := p) p0 p1 i
    simpa [cntF] using this
  have hlv : ∀ g, word h g = true → word (h.set p.toNat free0) g = true := by
    intro g hw
    rcases word_iff.1 hw with hi | hl
    · exact word_iff.2 (.inl hi)
    · obtain ⟨g1, g2, g3⟩ := live_iff.1 hl
      refine word_iff.2 (.inr (live_iff.2 ⟨g1, by simpa using g2, ?_⟩))
      rw [hset _ (by omega), if_neg (fun e => by rw [e] at g3; omega)]; exact g3
  refine ⟨fun q hq => ?_, (List.nodup_cons.1 L.pn).2, fun c hc => ?_, fun k k0 k1 hc hn => ?_, fun c hc g hg => ?_, fun g hg => hlv g (L.ptr _ (nth_mem p0 p1) g hg), fun k k0 k1 hc => ?_, ?_⟩
  · obtain ⟨q0, q1, q2⟩ := L.pr q (List.mem_cons_of_mem _ hq)
    exact ⟨q0, by simpa using q1, by rw [hset q q0, if_neg (fun e : q = p => hnr (e ▸ hq))]; exact q2⟩
  · rcases List.mem_or_eq_of_mem_set hc with hc | hc
    · exact L.cell c hc
    · rw [hc]; simp
  · rw [hset k k0] at hc ⊢
    simp only [List.length_set] at k1
    by_cases e : k = p
    · rw [if_pos e]
    · rw [if_neg e] at hc ⊢
      exact L.free k k0 k1 hc (fun hm => by rcases List.mem_cons.1 hm with hm | hm; exact e hm; exact hn hm)
  · obtain ⟨k, k0, k1, rfl⟩ := mem_nthI hc
    simp only [List.length_set] at k1
    rw [hset k k0] at hg
    by_cases e : k = p
    · rw [if_pos e] at hg; cases hg
    · rw [if_neg e] at hg; exact hlv g (L.ptr _ (nth_mem k0 k1) g hg)
  · simp only [List.length_set] at k1
    rw [hset k k0] at hc ⊢
    by_cases e : k = p
    · rw [if_pos e] at hc; simp at hc
    · rw [if_neg e] at hc ⊢
      have := L.cnt k k0 k1 hc
      have := hwd k
      simp [cntF] at *; omega
  · obtain ⟨rk, hrk⟩ := L.acyc
    refine ⟨rk, fun k k0 k1 g hg h1000 => ?_⟩
    rw [hset k k0] at hg
    by_cases e : k = p
    · rw [if_pos e] at hg; cases hg
    · rw [if_neg e] at hg; exact hrk k k0 (by simpa using k1) g hg h1000

theorem LZ.settle1 {z : LazyD} (L : LZ z.cells z.pend []) : LZ (settle1 z).cells (settle1 z).pend [] ∧ (z.pend ≠ [] → nf (Go.Vc.settle1 z) + 1 = nf z) ∧ (Go.Vc.settle1 z).cells.length = z.cells.length ∧ z.pend.tail <+: (Go.Vc.settle1 z).pend := by
  obtain ⟨cells, pend⟩ := z
  cases pend with
  | nil => exact ⟨L, fun h => absurd rfl h, rfl, List.prefix_rfl⟩
  | cons p r =>
    have L1 := LZ.pop (h := cells) (p := p) (r := r) L
    obtain ⟨p0, p1, p2⟩ := L.pr p List.mem_cons_self
    obtain ⟨h1, h2, h3, h4⟩ := LZ.dropF (nth cells p).fields [] (z := ⟨cells.set p.toNat free0, r⟩) (by simpa using L1)
    refine ⟨h1, fun _ => ?_, h3.trans (by simp), h4⟩
    show nf (Go.Vc.dropF ⟨cells.set p.toNat free0, r⟩ (nth cells p).fields) + 1 = _
    rw [h2]
    have := nlive_set (h := cells) (c := free0) p0 p1
    have p2' : (nth cells p).count = 0 := p2
    rw [if_neg (by omega), if_neg (by simp)] at this
    simp only [nf, List.length_cons]
    omega
theorem LZ.settleN : ∀ (n : Nat) {z : LazyD}, LZ z.cells z.pend [] → LZ (settleN n z).cells (settleN n z).pend [] ∧ (Go.Vc.settleN n z).cells.length = z.cells.length ∧ (Go.Vc.settleN n z).pend.length ≤ nf z - n
  | 0, z, L => ⟨L, rfl, by simp [Go.Vc.settleN, nf]⟩
  | n + 1, z, L => by
    obtain ⟨h1, h2, h3, _⟩ := LZ.settle1 L
    obtain ⟨k1, k2, k3⟩ := LZ.settleN n h1
    refine ⟨k1, k2.trans h3, ?_⟩
    show (Go.Vc.settleN n (Go.Vc.settle1 z)).pend.length ≤ _
    by_cases e : z.pend = []
    · have e2 : Go.Vc.settle1 z = z := by unfold Go.Vc.settle1; rw [e]
      have e3 : ∀ m, Go.Vc.settleN m z = z := fun m => by
        induction m with
        | zero => rfl
        | succ m ih => show Go.Vc.settleN m (Go.Vc.settle1 z) = z; rw [e2]; exact ih
      rw [e2, e3, e]; simp
    · have := h2 e; omega
theorem settle1_nil {z : LazyD} (h : z.pend = []) : Go.Vc.settle1 z = z := by unfold Go.Vc.settle1; rw [h]
theorem settleN_nil {z : LazyD} (h : z.pend = []) (n : Nat) : Go.Vc.settleN n z = z := by
  induction n with
  | zero => rfl
  | succ n ih => show Go.Vc.settleN n (Go.Vc.settle1 z) = z; rw [settle1_nil h]; exact ih
end
end Go.Vc

namespace Go.Vc
open Go
set_option linter.all false

/-- z' is z with more free cells behind -/
structure Ext (z z' : LazyD) : Prop where
  cells : ∃ n, z'.cells = z.cells ++ List.replicate n free0
  pend : z'.pend = z.pend
  pin : ∀ p ∈ z.pend, 0 ≤ p ∧ p < z.cells.length

theorem nth_left {α : Type} [Inhabited α] {a b : List α} {k : Int} (h0 : 0 ≤ k) (h1 : k < a.length) : nth (a ++ b) k = nth a k := by
  unfold nth List.getD
  rw [List.getElem?_append_left (by omega)]
theorem nth_right {α : Type} [Inhabited α] {a b : List α} {k : Int} (h0 : (a.length : Int) ≤ k) : nth (a ++ b) k = nth b (k - a.length) := by
  unfold nth List.getD
  rw [List.getElem?_append_right (by omega), show k.toNat - a.length = (k - a.length).toNat from by omega]
theorem nth_free (n : Nat) (k : Int) : nth (List.replicate n free0) k = free0 := by
  unfold nth List.getD
  rw [List.getElem?_replicate]
  split <;> rfl

theorem trimN_le (h : List CellD) (pend : List Int) (n : Nat) : trimN h pend n ≤ n := by
  induction n with
  | zero => exact Nat.le_refl _
  | succ n ih => unfold trimN; split <;> omega
theorem trimN_free {h : List CellD} {pend : List Int} {n : Nat} {k : Int} (h0 : (trimN h pend n : Int) ≤ k) (h1 : k < n) : (nth h k).count = 0 ∧ k ∉ pend := by
  induction n with
  | zero => omega
  | succ n ih =>
    unfold trimN at h0
    split at h0
    · rename_i hc
      by_cases e : k = n
      · rw [e]; exact hc
      · exact ih h0 (by omega)
    · omega
theorem trimN_last {h : List CellD} {pend : List Int} {n : Nat} (hp : 0 < trimN h pend n) : (nth h ((trimN h pend n : Int) - 1)).count ≠ 0 ∨ ((trimN h pend n : Int) - 1) ∈ pend := by
  induction n with
  | zero => simp [trimN] at hp
  | succ n ih =>
    unfold trimN at hp ⊢
    by_cases hc : (nth h (n : Int)).count = 0 ∧ (n : Int) ∉ pend
    · rw [if_pos hc] at hp ⊢; exact ih hp
    · rw [if_neg hc]
      rw [show ((n + 1 : Nat) : Int) - 1 = n from by omega]
      by_cases e : (nth h (n : Int)).count = 0
      · exact .inr (Classical.byContradiction fun hn => hc ⟨e, hn⟩)
      · exact .inl e
theorem trimN_eq {h : List CellD} {pend : List Int} {n m : Nat} (hm : m ≤ n) (hf : ∀ k : Int, m ≤ k → k < n → (nth h k).count = 0 ∧ k ∉ pend) (hl : 0 < m → (nth h ((m : Int) - 1)).count ≠ 0 ∨ ((m : Int) - 1) ∈ pend) : trimN h pend n = m := by
  rcases Nat.lt_trichotomy (trimN h pend n) m with hlt | he | hgt
  · have := trimN_free (h := h) (pend := pend) (n := n) (k := (m : Int) - 1) (by omega) (by omega)
    rcases hl (by omega) with h1 | h1
    · exact absurd this.1 h1
    · exact absurd h1 this.2
  · exact he
  · have h1 := trimN_last (h := h) (pend := pend) (n := n) (by omega)
    have h2 := hf ((trimN h pend n : Int) - 1) (by omega) (by have := trimN_le h pend n; omega)
    rcases h1 with h1 | h1
    · exact absurd h2.1 h1
    · exact absurd h1 h2.2

section
variable {z z' : LazyD}
theorem Ext.nth_ (E : Ext z z') {k : Int} (h0 : 0 ≤ k) (h1 : k < z.cells.length) : nth z'.cells k = nth z.cells k := by
  obtain ⟨n, e⟩ := E.cells
  rw [e, nth_left h0 h1]
theorem Ext.len (E : Ext z z') : z.cells.length ≤ z'.cells.length := by obtain ⟨n, e⟩ := E.cells; rw [e]; simp
theorem Ext.beyond (E : Ext z z') {k : Int} (h0 : (z.cells.length : Int) ≤ k) : nth z'.cells k = free0 := by
  obtain ⟨n, e⟩ := E.cells
  rw [e, nth_right h0, nth_free]
theorem words_free (a : List CellD) (n : Nat) : words (a ++ List.replicate n free0) = words a := by
  unfold words
  rw [List.flatMap_append]
  have : (List.replicate n free0).flatMap (·.fields) = [] := by
    induction n with
    | zero => rfl
    | succ n ih => rw [List.replicate_succ, List.flatMap_cons, ih]; rfl
  rw [this, List.append_nil]
theorem nlive_free (a : List CellD) (n : Nat) : nlive (a ++ List.replicate n free0) = nlive a := by
  unfold nlive
  rw [List.countP_append]
  have : (List.replicate n free0).countP (fun c => decide (0 < c.count)) = 0 := by
    rw [List.countP_eq_zero]; intro c hc; rw [List.eq_of_mem_replicate hc]; simp
  omega
theorem Ext.word_ (E : Ext z z') {f : Int} : word z'.cells f = word z.cells f := by
  apply Bool.eq_iff_iff.2
  rw [word_iff, word_iff, live_iff, live_iff]
  have hl := E.len
  constructor
  · rintro (h | ⟨h1, h2, h3⟩)
    · exact .inl h
    · right
      rcases Int.lt_or_le (f - 1000) z.cells.length with hlt | hge
      · rw [E.nth_ (by omega) hlt] at h3; exact ⟨h1, hlt, h3⟩
      · rw [E.beyond hge] at h3; simp at h3
  · rintro (h | ⟨h1, h2, h3⟩)
    · exact .inl h
    · exact .inr ⟨h1, by omega, by rw [E.nth_ (by omega) h2]; exact h3⟩
theorem Ext.nf (E : Ext z z') : nf z' = nf z := by
  obtain ⟨n, e⟩ := E.cells
  unfold Go.Vc.nf
  rw [e, E.pend, nlive_free]
/-- what is cut off was of no account -/
theorem Ext.lz (E : Ext z z') (L : LZ z'.cells z'.pend []) : LZ z.cells z.pend [] := by
  have hl := E.len
  have hn := fun k h0 h1 => E.nth_ (k := k) h0 h1
  have hmem : ∀ c ∈ z.cells, c ∈ z'.cells := fun c hc => by obtain ⟨n, e⟩ := E.cells; rw [e]; exact List.mem_append_left _ hc
  refine ⟨fun p hp => ?_, by rw [← E.pend]; exact L.pn, fun c hc => L.cell c (hmem c hc), fun k k0 k1 hc hnp => ?_, fun c hc f hf => by rw [← E.word_]; exact L.ptr c (hmem c hc) f hf, fun f hf => (by cases hf), fun k k0 k1 hc => ?_, ?_⟩
  · obtain ⟨p0, p1⟩ := E.pin p hp
    have := (L.pr p (by rw [E.pend]; exact hp)).2.2
    rw [hn p p0 p1] at this
    exact ⟨p0, p1, this⟩
  · rw [← hn k k0 k1] at hc ⊢
    exact L.free k k0 (by omega) hc (by rw [E.pend]; exact hnp)
  · rw [← hn k k0 k1] at hc ⊢
    have := L.cnt k k0 (by omega) hc
    obtain ⟨n, e⟩ := E.cells
    rw [e] at this
    rw [words_free] at this
    rw [e]; exact this
  · obtain ⟨rk, hrk⟩ := L.acyc
    exact ⟨rk, fun k k0 k1 f hf h1 => hrk k k0 (by omega) f (by rw [hn k k0 k1]; exact hf) h1⟩
theorem Ext.lower (E : Ext z z') {k : Int} (h0 : 0 ≤ k) (h1 : k < z.cells.length) : Ext (lowerZ z k) (lowerZ z' k) := by
  obtain ⟨n, e⟩ := E.cells
  have hn := E.nth_ h0 h1
  refine ⟨⟨n, ?_⟩, ?_, fun p hp => ?_⟩
  · unfold lowerZ
    simp only
    rw [hn, e, List.set_append_left _ _ (by omega)]
  · unfold lowerZ
    simp only
    rw [hn, E.pend]
  · unfold lowerZ at hp ⊢
    simp only [List.length_set] at hp ⊢
    split at hp
    · rcases List.mem_append.1 hp with hp | hp
      · exact E.pin p hp
      · rw [List.mem_singleton.1 hp]; exact ⟨h0, h1⟩
    · exact E.pin p hp
theorem Ext.dropF : ∀ (fs : List Int) {z z' : LazyD}, Ext z z' → (∀ f ∈ fs, 1000 ≤ f → f - 1000 < z.cells.length) → Ext (dropF z fs) (dropF z' fs)
  | [], _, _, E, _ => E
  | f :: r, z, z', E, hf => by
    rw [dropF_cons, dropF_cons]
    by_cases h1 : 1000 ≤ f
    · rw [if_pos h1, if_pos h1]
      exact Ext.dropF r (E.lower (by omega) (hf f List.mem_cons_self h1)) fun g hg h2 => by have := hf g (List.mem_cons_of_mem _ hg) h2; simpa [lowerZ] using this
    · rw [if_neg h1, if_neg h1]
      exact Ext.dropF r E fun g hg h2 => hf g (List.mem_cons_of_mem _ hg) h2
theorem Ext.settle1 (E : Ext z z') (L : LZ z.cells z.pend []) : Ext (settle1 z) (settle1 z') := by
  obtain ⟨cells, pend⟩ := z
  obtain ⟨cells', pend'⟩ := z'
  have hp : pend' = pend := E.pend
  subst hp
  cases pend' with
  | nil => exact E
  | cons p r =>
    obtain ⟨p0, p1⟩ := E.pin p List.mem_cons_self
    have hn := E.nth_ p0 p1
    simp only at hn p1
    obtain ⟨n, e⟩ := E.cells
    simp only at e
    show Ext (Go.Vc.dropF ⟨cells.set p.toNat free0, r⟩ (nth cells p).fields) (Go.Vc.dropF ⟨cells'.set p.toNat free0, r⟩ (nth cells' p).fields)
    rw [hn]
    refine Ext.dropF _ ⟨⟨n, ?_⟩, rfl, fun q hq => ?_⟩ fun f hf h1 => ?_
    · simp only
      rw [e, List.set_append_left _ _ (by omega)]
    · have := E.pin q (List.mem_cons_of_mem _ hq); simpa using this
    · have := word_ptr (L.ptr _ (nth_mem p0 p1) f hf) h1
      have := (live_iff.1 this).2.1
      simpa using this
theorem Ext.settleN (E : Ext z z') (L : LZ z.cells z.pend []) (n : Nat) : Ext (settleN n z) (settleN n z') := by
  induction n generalizing z z' with
  | zero => exact E
  | succ n ih => exact ih (E.settle1 L) (LZ.settle1 L).1
end
end Go.Vc

namespace Go.Vc
open Go
set_option linter.all false

def dropOk (z : LazyD) (n : Int) : Prop := vlazy z ∧ word z.cells n = true ∧ (1000 ≤ n → (nth z.cells (n - 1000)).count ≠ nth (refL (raiseL z.cells z.pend)) (n - 1000))
theorem drop_lz {z : LazyD} {n : Int} (h : dropOk z n) (h1 : 1000 ≤ n) : LZ z.cells z.pend [n] := by
  obtain ⟨hv, hw, hne⟩ := h
  have hl := word_ptr hw h1
  obtain ⟨_, l2, l3⟩ := live_iff.1 hl
  have hp := hv.1.1
  have L := (vlazy_iff.1 hv).1
  have hnp : n - 1000 ∉ z.pend := fun hm => by have := (hp _ hm).2.2; omega
  have hr : nth (raiseL z.cells z.pend) (n - 1000) = nth z.cells (n - 1000) := by rw [nth_raise (fun p hp' => ⟨(hp p hp').1, (hp p hp').2.1⟩) (by omega) l2, if_neg hnp]
  have hlr : live (raiseL z.cells z.pend) (1000 + (n - 1000)) = true := live_iff.2 ⟨by omega, by rw [raiseL_length]; omega, by rw [show 1000 + (n - 1000) - 1000 = n - 1000 from by omega, hr]; exact l3⟩
  have hrefs : nth (refL (raiseL z.cells z.pend)) (n - 1000) = cntF (words z.cells) (n - 1000) := by
    rw [refL, nth_refsW (by omega) (by rw [raiseL_length]; omega), cnt_cntF _ (by omega) hlr, words_raise]
  refine { L with ptrT := fun f hf => by rw [List.mem_singleton.1 hf]; exact hw, cnt := fun k k0 k1 hc => ?_ }
  have h3 := L.cnt k k0 k1 hc
  have h0 : cntF [] k = 0 := by simp [cntF]
  rw [h0] at h3
  rw [cntF_cons, h0]
  split
  · rename_i e
    have e2 : n - 1000 = k := by omega
    have := hne h1
    rw [hrefs, e2] at this
    omega
  · omega

end Go.Vc

namespace Go.Vc
open Go
set_option linter.all false

/-- how often the fields of the cells in S point to k -/
def cntS (h : List CellD) (S : Nat → Bool) (k : Int) : Int := sumN h.length fun i => if S i then cntF (nth h (i : Int)).fields k else 0

structure Done (h : List CellD) (pend todo : List Int) (S : Nat → Bool) (a : List CellD) : Prop where
  len : a.length = h.length
  pin : ∀ p ∈ pend, S p.toNat = true
  sub : ∀ k : Int, 0 ≤ k → k < h.length → S k.toNat = true → k ∈ pend ∨ (0 < (nth h k).count ∧ (nth h k).count = cntF todo k + cntS h S k)
  at_ : ∀ k : Int, 0 ≤ k → k < h.length → nth a k = if S k.toNat then free0 else if 0 < (nth h k).count then ⟨(nth h k).count - (cntF todo k + cntS h S k), (nth h k).tag, (nth h k).fields⟩ else nth h k
  pos : ∀ k : Int, 0 ≤ k → k < h.length → S k.toNat = false → 0 < (nth h k).count → cntF todo k + cntS h S k < (nth h k).count
/-- where giving up the words todo, and the cells pend, ends -/
def Ends (h : List CellD) (pend todo : List Int) (a : List CellD) : Prop := ∃ S, Done h pend todo S a

theorem sumN_mono {n : Nat} {f g : Nat → Int} (h : ∀ i, i < n → f i ≤ g i) : sumN n f ≤ sumN n g := by
  have := sumN_nonneg (n := n) (f := fun i => g i - f i) (fun i hi => by have := h i hi; omega)
  have e : ∀ m, sumN m (fun i => g i - f i) = sumN m g - sumN m f := by
    intro m
    induction m with
    | zero => simp [sumN_zero]
    | succ m ih => rw [sumN_succ, sumN_succ, sumN_succ, ih]; omega
  rw [e] at this; omega
theorem cntF_zero {ws : List Int} {k : Int} (h : (1000 + k) ∉ ws) : cntF ws k = 0 := by simp [cntF, List.count_eq_zero.2 h]
theorem cntF_pos {ws : List Int} {k : Int} (h : cntF ws k ≠ 0) : (1000 + k) ∈ ws := Classical.byContradiction fun hn => h (cntF_zero hn)
theorem rk_max (rk : Nat → Nat) : ∀ n : Nat, ∃ M, ∀ i, i < n → rk i ≤ M
  | 0 => ⟨0, fun i h => by omega⟩
  | n + 1 => by
    obtain ⟨M, hM⟩ := rk_max rk n
    refine ⟨max M (rk n), fun i hi => ?_⟩
    by_cases e : i = n
    · subst e; omega
    · have := hM i (by omega); omega

section
variable {h a b : List CellD} {pend todo todo' t1 t2 r : List Int} {f p : Int} {S S1 S2 : Nat → Bool}

theorem Done.le_ (A : AcycP h) (D1 : Done h pend todo S1 a) (D2 : Done h pend todo S2 b) : ∀ k : Int, 0 ≤ k → k < h.length → S1 k.toNat = true → S2 k.toNat = true := by
  obtain ⟨rk, hrk⟩ := A
  obtain ⟨M, hM⟩ := rk_max rk h.length
  have main : ∀ (n : Nat) (k : Int), 0 ≤ k → k < h.length → M - rk k.toNat ≤ n → S1 k.toNat = true → S2 k.toNat = true := by
    intro n
    induction n with
    | zero => ?_
    | succ n ih => ?_
    all_goals
      intro k k0 k1 hn hs
      apply Classical.byContradiction
      intro hns
      replace hns : S2 k.toNat = false := by simpa using hns
      rcases D1.sub k k0 k1 hs with hp | ⟨hc, he⟩
      · rw [D2.pin k hp] at hns; cases hns
      have hlt := D2.pos k k0 k1 hns hc
      have hle : cntS h S1 k ≤ cntS h S2 k := by
        refine sumN_mono fun i hi => ?_
        by_cases e : cntF (nth h (i : Int)).fields k = 0
        · rw [e]; split <;> split <;> omega
        have hm := cntF_pos e
        have hr := hrk (i : Int) (by omega) (by omega) _ hm (by omega)
        rw [show (1000 + k - 1000).toNat = k.toNat from by omega, Int.toNat_natCast] at hr
        have hMi := hM i hi
        by_cases hs1 : S1 i = true
        · have : S2 i = true := by
            first
              | (exfalso; omega)
              | (have := ih (i : Int) (by omega) (by omega) (by rw [Int.toNat_natCast]; omega) (by rw [Int.toNat_natCast]; exact hs1)
                 rwa [Int.toNat_natCast] at this)
          rw [if_pos hs1, if_pos this]; omega
        · rw [if_neg hs1]; have := cntF_nonneg (nth h (i : Int)).fields k; split <;> omega
      omega
  exact fun k k0 k1 => main _ k k0 k1 (Nat.le_refl _)

theorem Ends.unique (A : AcycP h) (h1 : Ends h pend todo a) (h2 : Ends h pend todo b) : a = b := by
  obtain ⟨S1, D1⟩ := h1
  obtain ⟨S2, D2⟩ := h2
  have e : ∀ i : Nat, i < h.length → S1 i = S2 i := fun i hi => by
    have p1 := Done.le_ A D1 D2 (i : Int) (by omega) (by omega)
    have p2 := Done.le_ A D2 D1 (i : Int) (by omega) (by omega)
    rw [Int.toNat_natCast] at p1 p2
    cases e1 : S1 i <;> cases e2 : S2 i <;> simp_all
  have ec : ∀ k, cntS h S1 k = cntS h S2 k := fun k => sumN_congr fun i hi => by rw [e i hi]
  refine nth_ext (D1.len.trans D2.len.symm) fun k k0 k1 => ?_
  rw [D1.len] at k1
  rw [D1.at_ k k0 k1, D2.at_ k k0 k1, e _ (by omega), ec]

theorem Ends.cong (hc : ∀ k, 0 ≤ k → cntF todo k = cntF todo' k) (E : Ends h pend todo a) : Ends h pend todo' a := by
  obtain ⟨S, D⟩ := E
  refine ⟨S, D.len, D.pin, fun k k0 k1 hs => ?_, fun k k0 k1 => ?_, fun k k0 k1 => ?_⟩
  · rw [← hc k k0]; exact D.sub k k0 k1 hs
  · rw [← hc k k0]; exact D.at_ k k0 k1
  · rw [← hc k k0]; exact D.pos k k0 k1
theorem cntF_perm (hp : todo.Perm todo') (k : Int) : cntF todo k = cntF todo' k := by unfold cntF; rw [hp.count_eq]
theorem Ends.perm (hp : todo.Perm todo') (E : Ends h pend todo a) : Ends h pend todo' a := E.cong fun k _ => cntF_perm hp k
theorem LZ.perm (hp : todo.Perm todo') (L : LZ h pend todo) : LZ h pend todo' :=
  ⟨L.pr, L.pn, L.cell, L.free, L.ptr, fun f hf => L.ptrT f (hp.symm.subset hf), fun k k0 k1 hc => by rw [← cntF_perm hp]; exact L.cnt k k0 k1 hc, L.acyc⟩

theorem Ends.nil_ (h : List CellD) : Ends h [] [] h := by
  have e : ∀ k, cntS h (fun _ => false) k = 0 := fun k => by
    unfold cntS
    simp only [Bool.false_eq_true, if_false]
    induction h.length with
    | zero => rfl
    | succ n ih => rw [sumN_succ, ih]; rfl
  refine ⟨fun _ => false, rfl, fun p hp => (by cases hp), fun k _ _ hs => (by cases hs), fun k _ _ => ?_, fun k _ _ _ hc => ?_⟩
  · rw [e]
    simp only [Bool.false_eq_true, if_false, cntF, List.count_nil]
    split
    · simp
    · rfl
  · rw [e]; simpa [cntF] using hc

theorem Ends.skip (hf : ¬ 1000 ≤ f) (E : Ends h pend todo a) : Ends h pend (f :: todo) a :=
  E.cong fun k k0 => by rw [cntF_cons, if_neg (by omega)]; omega

theorem Ends.lower (L : LZ h pend (f :: todo)) (hf : 1000 ≤ f) (E : Ends (lowerZ ⟨h, pend⟩ (f - 1000)).cells (lowerZ ⟨h, pend⟩ (f - 1000)).pend todo a) : Ends h pend (f :: todo) a := by
  obtain ⟨l1, l2, l3⟩ := live_iff.1 (L.head hf)
  have L' := L.lower hf
  obtain ⟨S, D⟩ := E
  unfold lowerZ at L' D
  simp only at L' D
  have hset : ∀ k : Int, 0 ≤ k → nth (h.set (f - 1000).toNat (decC (nth h (f - 1000)))) k = if k = f - 1000 then decC (nth h (f - 1000)) else nth h k := fun k k0 => nth_set _ _ _ _ (by omega) l2 k0
  have hfs : ∀ k : Int, 0 ≤ k → (nth (h.set (f - 1000).toNat (decC (nth h (f - 1000)))) k).fields = (nth h k).fields := fun k k0 => by
    rw [hset k k0]; split
    · rename_i e; rw [e]; rfl
    · rfl
  have hcs : ∀ k, cntS (h.set (f - 1000).toNat (decC (nth h (f - 1000)))) S k = cntS h S k := fun k => by
    unfold cntS
    rw [List.length_set]
    exact sumN_congr fun i _ => by rw [hfs _ (by omega)]
  have hc1 : ∀ k, cntF (f :: todo) k = (if f = 1000 + k then 1 else 0) + cntF todo k := cntF_cons f todo
  have hpe : ∀ p, p ∈ pend → p ∈ (if (nth h (f - 1000)).count - 1 = 0 then pend ++ [f - 1000] else pend) := fun p hp => by
    split
    · exact List.mem_append_left _ hp
    · exact hp
  have hlen := D.len
  rw [List.length_set] at hlen
  have dead : (nth h (f - 1000)).count - 1 = 0 → cntF todo (f - 1000) = 0 ∧ cntS h S (f - 1000) = 0 := by
    intro hz
    have nl : ∀ g, g = f → word (h.set (f - 1000).toNat (decC (nth h (f - 1000)))) g = true → False := by
      intro g hg hw
      subst hg
      have := live_iff.1 (word_ptr hw hf)
      rw [hset _ (by omega), if_pos rfl] at this
      have h3 : 0 < (nth h (g - 1000)).count - 1 := this.2.2
      omega
    refine ⟨cntF_zero fun hm => nl _ (by omega) (L'.ptrT _ hm), ?_⟩
    rw [← hcs]
    unfold cntS
    refine Classical.byContradiction fun hne => ?_
    obtain ⟨i, hi, hi2⟩ := sumN_pos hne
    split at hi2
    · have hm := cntF_pos hi2
      exact nl _ (by omega) (L'.ptr _ (nth_mem (by omega) (by omega)) _ hm)
    · exact hi2 rfl
  refine ⟨S, hlen, fun p hp => D.pin p (hpe p hp), fun k k0 k1 hs => ?_, fun k k0 k1 => ?_, fun k k0 k1 hs hc => ?_⟩
  · rw [hc1]
    have := D.sub k k0 (by simpa using k1) hs
    rw [hcs, hset k k0] at this
    by_cases e : k = f - 1000
    · subst e
      rw [if_pos rfl] at this
      rw [if_pos (by omega)]
      by_cases hz : (nth h (f - 1000)).count - 1 = 0
      · obtain ⟨z1, z2⟩ := dead hz
        exact .inr ⟨l3, by omega⟩
      · rw [if_neg hz] at this
        rcases this with hp | ⟨h1, h2⟩
        · exact .inl hp
        · have h2' : (nth h (f - 1000)).count - 1 = cntF todo (f - 1000) + cntS h S (f - 1000) := h2
          exact .inr ⟨l3, by omega⟩
    · rw [if_neg e] at this
      rw [if_neg (by omega)]
      rcases this with hp | ⟨h1, h2⟩
      · left
        split at hp
        · rcases List.mem_append.1 hp with hp | hp
          · exact hp
          · exact absurd (List.mem_singleton.1 hp) e
        · exact hp
      · exact .inr ⟨h1, by omega⟩
  · rw [hc1, D.at_ k k0 (by simpa using k1), hcs, hset k k0]
    by_cases hs : S k.toNat = true
    · rw [if_pos hs, if_pos hs]
    · rw [if_neg hs, if_neg hs]
      by_cases e : k = f - 1000
      · subst e
        rw [if_pos rfl, if_pos (show f = 1000 + (f - 1000) by omega), if_pos l3]
        have hz : ¬ (nth h (f - 1000)).count - 1 = 0 := fun hz => hs (D.pin _ (by rw [if_pos hz]; simp))
        rw [if_pos (show 0 < (decC (nth h (f - 1000))).count from by show 0 < (nth h (f - 1000)).count - 1; omega)]
        show CellD.mk ((nth h (f - 1000)).count - 1 - _) _ _ = _
        congr 1; omega
      · rw [if_neg e, if_neg (show ¬ f = 1000 + k by omega), Int.zero_add]
  · rw [hc1]
    have := D.pos k k0 (by simpa using k1) hs
    rw [hcs, hset k k0] at this
    by_cases e : k = f - 1000
    · subst e
      rw [if_pos rfl] at this
      rw [if_pos (by omega)]
      have hz : ¬ (nth h (f - 1000)).count - 1 = 0 := fun hz => by have := D.pin (f - 1000) (by rw [if_pos hz]; simp); rw [this] at hs; cases hs
      have h2 : cntF todo (f - 1000) + cntS h S (f - 1000) < (nth h (f - 1000)).count - 1 := this (by show 0 < (nth h (f - 1000)).count - 1; omega)
      omega
    · rw [if_neg e] at this
      rw [if_neg (by omega)]
      have := this hc
      omega

theorem LZ.popT (L : LZ h (p :: r) todo) : LZ (h.set p.toNat free0) r ((nth h p).fields ++ todo) := by
  obtain ⟨p0, p1, p2⟩ := L.pr p List.mem_cons_self
  have hset : ∀ k : Int, 0 ≤ k → nth (h.set p.toNat free0) k = if k = p then free0 else nth h k := fun k k0 => nth_set _ _ _ _ p0 p1 k0
  have hnr : p ∉ r := (List.nodup_cons.1 L.pn).1
  have hwd : ∀ i, cntF (words (h.set p.toNat free0)) i + cntF (nth h p).fields i = cntF (words h) i := fun i => by
    have := words_set (c := free0) (h := h) (k := p) p0 p1 i
    simpa [cntF] using this
  have hlv : ∀ g, word h g = true → word (h.set p.toNat free0) g = true := by
    intro g hw
    rcases word_iff.1 hw with hi | hl
    · exact word_iff.2 (.inl hi)
    · obtain ⟨g1, g2, g3⟩ := live_iff.1 hl
      refine word_iff.2 (.inr (live_iff.2 ⟨g1, by simpa using g2, ?_⟩))
      rw [hset _ (by omega), if_neg (fun e => by rw [e] at g3; omega)]; exact g3
  refine ⟨fun q hq => ?_, (List.nodup_cons.1 L.pn).2, fun c hc => ?_, fun k k0 k1 hc hn => ?_, fun c hc g hg => ?_, fun g hg => ?_, fun k k0 k1 hc => ?_, ?_⟩
  · obtain ⟨q0, q1, q2⟩ := L.pr q (List.mem_cons_of_mem _ hq)
    exact ⟨q0, by simpa using q1, by rw [hset q q0, if_neg (fun e : q = p => hnr (e ▸ hq))]; exact q2⟩
  · rcases List.mem_or_eq_of_mem_set hc with hc | hc
    · exact L.cell c hc
    · rw [hc]; simp
  · rw [hset k k0] at hc ⊢
    simp only [List.length_set] at k1
    by_cases e : k = p
    · rw [if_pos e]
    · rw [if_neg e] at hc ⊢
      exact L.free k k0 k1 hc (fun hm => by rcases List.mem_cons.1 hm with hm | hm; exact e hm; exact hn hm)
  · obtain ⟨k, k0, k1, rfl⟩ := mem_nthI hc
    simp only [List.length_set] at k1
    rw [hset k k0] at hg
    by_cases e : k = p
    · rw [if_pos e] at hg; cases hg
    · rw [if_neg e] at hg; exact hlv g (L.ptr _ (nth_mem k0 k1) g hg)
  · rcases List.mem_append.1 hg with hg | hg
    · exact hlv g (L.ptr _ (nth_mem p0 p1) g hg)
    · exact hlv g (L.ptrT g hg)
  · simp only [List.length_set] at k1
    rw [hset k k0] at hc ⊢
    by_cases e : k = p
    · rw [if_pos e] at hc; simp at hc
    · rw [if_neg e] at hc ⊢
      have := L.cnt k k0 k1 hc
      have := hwd k
      rw [cntF_append]
      omega
  · obtain ⟨rk, hrk⟩ := L.acyc
    refine ⟨rk, fun k k0 k1 g hg h1000 => ?_⟩
    rw [hset k k0] at hg
    by_cases e : k = p
    · rw [if_pos e] at hg; cases hg
    · rw [if_neg e] at hg; exact hrk k k0 (by simpa using k1) g hg h1000

theorem Ends.pop (L : LZ h (p :: r) todo) (E : Ends (h.set p.toNat free0) r ((nth h p).fields ++ todo) a) : Ends h (p :: r) todo a := by
  obtain ⟨p0, p1, p2⟩ := L.pr p List.mem_cons_self
  have hset : ∀ k : Int, 0 ≤ k → nth (h.set p.toNat free0) k = if k = p then free0 else nth h k := fun k k0 => nth_set _ _ _ _ p0 p1 k0
  have hnr : p ∉ r := (List.nodup_cons.1 L.pn).1
  obtain ⟨S, D⟩ := E
  have hlen := D.len
  rw [List.length_set] at hlen
  have hSp : S p.toNat = false := by
    cases hs : S p.toNat with
    | false => rfl
    | true =>
      rcases D.sub p p0 (by simpa using p1) hs with hm | ⟨hc, _⟩
      · exact absurd hm hnr
      · rw [hset p p0, if_pos rfl] at hc; simp at hc
  let T : Nat → Bool := fun i => S i || i == p.toNat
  have hT : ∀ k : Int, 0 ≤ k → (T k.toNat = true ↔ S k.toNat = true ∨ k = p) := fun k k0 => by
    show ((S k.toNat || k.toNat == p.toNat) = true) ↔ _
    rw [Bool.or_eq_true, beq_iff_eq]
    constructor
    · rintro (h | h)
      · exact .inl h
      · exact .inr (by omega)
    · rintro (h | h)
      · exact .inl h
      · exact .inr (by rw [h])
  have hcs : ∀ k, cntS h T k = cntS (h.set p.toNat free0) S k + cntF (nth h p).fields k := fun k => by
    unfold cntS
    rw [List.length_set]
    have := sumN_upd (n := h.length) (i := p.toNat) (f := fun i => if T i then cntF (nth h (i : Int)).fields k else 0) (g := fun i => if S i then cntF (nth (h.set p.toNat free0) (i : Int)).fields k else 0) (by omega) (fun i hi hne => by
      have e : ¬ (i : Int) = p := by omega
      show (if T i then _ else _) = (if S i then _ else _)
      rw [hset _ (by omega), if_neg e]
      have : T i = S i := by show (S i || i == p.toNat) = S i; rw [beq_eq_false_iff_ne.2 hne, Bool.or_false]
      rw [this])
    rw [this]
    have e1 : T p.toNat = true := (hT p p0).2 (.inr rfl)
    simp only [e1, hSp, if_true, Bool.false_eq_true, if_false, Int.toNat_of_nonneg p0]
    omega
  refine ⟨T, hlen, fun q hq => ?_, fun k k0 k1 hs => ?_, fun k k0 k1 => ?_, fun k k0 k1 hs hc => ?_⟩
  · have q0 := (L.pr q hq).1
    rw [hT q q0]
    rcases List.mem_cons.1 hq with hq | hq
    · exact .inr hq
    · exact .inl (D.pin q hq)
  · rcases (hT k k0).1 hs with hs | e
    · rcases D.sub k k0 (by simpa using k1) hs with hm | ⟨hc, he⟩
      · exact .inl (List.mem_cons_of_mem _ hm)
      · rw [hset k k0] at hc he
        by_cases e : k = p
        · exact .inl (by rw [e]; exact List.mem_cons_self)
        · rw [if_neg e] at hc he
          rw [cntF_append] at he
          exact .inr ⟨hc, by rw [hcs]; omega⟩
    · exact .inl (by rw [e]; exact List.mem_cons_self)
  · rw [D.at_ k k0 (by simpa using k1), hset k k0]
    by_cases hs : S k.toNat = true
    · rw [if_pos hs, if_pos ((hT k k0).2 (.inl hs))]
    · rw [if_neg hs]
      by_cases e : k = p
      · rw [if_pos e, if_pos ((hT k k0).2 (.inr e)), if_neg (by simp)]
      · have hnT : ¬ T k.toNat = true := fun h => ((hT k k0).1 h).elim hs e
        rw [if_neg e, if_neg hnT, cntF_append, hcs]
        split
        · congr 1; omega
        · rfl
  · have hnT : ¬ (S k.toNat = true ∨ k = p) := fun h => by rw [(hT k k0).2 h] at hs; cases hs
    have hS : S k.toNat = false := by
      cases e : S k.toNat with
      | false => rfl
      | true => exact absurd (.inl e) hnT
    have e : k ≠ p := fun e => hnT (.inr e)
    have := D.pos k k0 (by simpa using k1) hS (by rw [hset k k0, if_neg e]; exact hc)
    rw [hset k k0, if_neg e, cntF_append] at this
    rw [hcs]; omega

/-! ### the ways -/
theorem Ends.dropF : ∀ (todo rest : List Int) {z : LazyD}, LZ z.cells z.pend (todo ++ rest) → Ends (dropF z todo).cells (dropF z todo).pend rest a → Ends z.cells z.pend (todo ++ rest) a
  | [], rest, z, L, E => E
  | f :: r, rest, z, L, E => by
    rw [dropF_cons] at E
    by_cases hf : 1000 ≤ f
    · rw [if_pos hf] at E
      exact Ends.lower (todo := r ++ rest) L hf (Ends.dropF r rest (LZ.lower (todo := r ++ rest) L hf) E)
    · rw [if_neg hf] at E
      exact Ends.skip hf (Ends.dropF r rest (LZ.skip (todo := r ++ rest) L hf) E)

theorem LZ.settle1T {z : LazyD} (L : LZ z.cells z.pend todo) : LZ (Go.Vc.settle1 z).cells (Go.Vc.settle1 z).pend todo ∧ (z.pend ≠ [] → nf (Go.Vc.settle1 z) + 1 = nf z) ∧ (Go.Vc.settle1 z).cells.length = z.cells.length := by
  obtain ⟨cells, pend⟩ := z
  cases pend with
  | nil => exact ⟨L, fun h => absurd rfl h, rfl⟩
  | cons p r =>
    have L1 := LZ.popT (h := cells) (p := p) (r := r) L
    obtain ⟨p0, p1, p2⟩ := L.pr p List.mem_cons_self
    obtain ⟨h1, h2, h3, h4⟩ := LZ.dropF (nth cells p).fields todo (z := ⟨cells.set p.toNat free0, r⟩) L1
    refine ⟨h1, fun _ => ?_, h3.trans (by simp)⟩
    show nf (Go.Vc.dropF ⟨cells.set p.toNat free0, r⟩ (nth cells p).fields) + 1 = _
    rw [h2]
    have := nlive_set (h := cells) (c := free0) p0 p1
    have p2' : (nth cells p).count = 0 := p2
    rw [if_neg (by omega), if_neg (by simp)] at this
    simp only [nf, List.length_cons]
    omega
theorem Ends.stl1 {z : LazyD} (L : LZ z.cells z.pend todo) (E : Ends (settle1 z).cells (settle1 z).pend todo a) : Ends z.cells z.pend todo a := by
  obtain ⟨cells, pend⟩ := z
  cases pend with
  | nil => exact E
  | cons p r =>
    have L1 := LZ.popT (h := cells) (p := p) (r := r) L
    exact Ends.pop L (Ends.dropF (nth cells p).fields todo (z := ⟨cells.set p.toNat free0, r⟩) L1 E)
theorem LZ.settleNT : ∀ (n : Nat) {z : LazyD}, LZ z.cells z.pend todo → LZ (Go.Vc.settleN n z).cells (Go.Vc.settleN n z).pend todo ∧ (Go.Vc.settleN n z).cells.length = z.cells.length ∧ (Go.Vc.settleN n z).pend.length ≤ nf z - n
  | 0, z, L => ⟨L, rfl, by simp [Go.Vc.settleN, nf]⟩
  | n + 1, z, L => by
    obtain ⟨h1, h2, h3⟩ := LZ.settle1T L
    obtain ⟨k1, k2, k3⟩ := LZ.settleNT n h1
    refine ⟨k1, k2.trans h3, ?_⟩
    show (Go.Vc.settleN n (Go.Vc.settle1 z)).pend.length ≤ _
    by_cases e : z.pend = []
    · rw [settle1_nil e, settleN_nil e, e]; simp
    · have := h2 e; omega
theorem Ends.stlN : ∀ (n : Nat) {z : LazyD}, LZ z.cells z.pend todo → Ends (settleN n z).cells (settleN n z).pend todo a → Ends z.cells z.pend todo a
  | 0, z, L, E => E
  | n + 1, z, L, E => Ends.stl1 L (Ends.stlN n (LZ.settle1T L).1 E)

/-- the heap in the end -/
def goneH (h : List CellD) (pend todo : List Int) : List CellD :=
  let z := dropF ⟨h, pend⟩ todo
  (settleN (nf z) z).cells
theorem goneH_run (L : LZ h pend (t1 ++ t2)) : LZ (goneH h pend t1) [] t2 ∧ (goneH h pend t1).length = h.length ∧ ∀ b, Ends (goneH h pend t1) [] t2 b → Ends h pend (t1 ++ t2) b := by
  obtain ⟨h1, h2, h3, _⟩ := LZ.dropF t1 t2 (z := ⟨h, pend⟩) L
  obtain ⟨k1, k2, k3⟩ := LZ.settleNT (nf (dropF ⟨h, pend⟩ t1)) h1
  have hp : (settleN (nf (dropF ⟨h, pend⟩ t1)) (dropF ⟨h, pend⟩ t1)).pend = [] := List.eq_nil_of_length_eq_zero (by omega)
  have k1' := k1
  rw [hp] at k1'
  refine ⟨k1', k2.trans h3, fun b hb => Ends.dropF t1 t2 (z := ⟨h, pend⟩) L (Ends.stlN (nf (dropF ⟨h, pend⟩ t1)) h1 ?_)⟩
  rw [hp]; exact hb
theorem goneH_ends (L : LZ h pend todo) : Ends h pend todo (goneH h pend todo) := by
  have L' : LZ h pend (todo ++ []) := by rw [List.append_nil]; exact L
  have := (goneH_run L').2.2 _ (Ends.nil_ _)
  rwa [List.append_nil] at this
theorem Ends.eq (L : LZ h pend todo) (E : Ends h pend todo a) : a = goneH h pend todo := E.unique L.acyc (goneH_ends L)
theorem LZ.sub (L : LZ h pend (t1 ++ t2)) : LZ h pend t1 :=
  ⟨L.pr, L.pn, L.cell, L.free, L.ptr, fun f hf => L.ptrT f (List.mem_append_left _ hf), fun k k0 k1 hc => by have := L.cnt k k0 k1 hc; rw [cntF_append] at this; have := cntF_nonneg t2 k; omega, L.acyc⟩
end
end Go.Vc

namespace Go.Vc
open Go
set_option linter.all false

section
variable {h a b : List CellD} {pend todo : List Int} {z z' : LazyD} {k f p n : Int} {c : CellD}

theorem Ext.lzT (E : Ext z z') (L : LZ z'.cells z'.pend todo) : LZ z.cells z.pend todo := by
  have hl := E.len
  have hn := fun k h0 h1 => E.nth_ (k := k) h0 h1
  have hmem : ∀ c ∈ z.cells, c ∈ z'.cells := fun c hc => by obtain ⟨n, e⟩ := E.cells; rw [e]; exact List.mem_append_left _ hc
  refine ⟨fun p hp => ?_, by rw [← E.pend]; exact L.pn, fun c hc => L.cell c (hmem c hc), fun k k0 k1 hc hnp => ?_, fun c hc f hf => by rw [← E.word_]; exact L.ptr c (hmem c hc) f hf, fun f hf => by rw [← E.word_]; exact L.ptrT f hf, fun k k0 k1 hc => ?_, ?_⟩
  · obtain ⟨p0, p1⟩ := E.pin p hp
    have := (L.pr p (by rw [E.pend]; exact hp)).2.2
    rw [hn p p0 p1] at this
    exact ⟨p0, p1, this⟩
  · rw [← hn k k0 k1] at hc ⊢
    exact L.free k k0 (by omega) hc (by rw [E.pend]; exact hnp)
  · rw [← hn k k0 k1] at hc ⊢
    have := L.cnt k k0 (by omega) hc
    obtain ⟨n, e⟩ := E.cells
    rw [e] at this
    rw [words_free] at this
    rw [e]; exact this
  · obtain ⟨rk, hrk⟩ := L.acyc
    exact ⟨rk, fun k k0 k1 f hf h1 => hrk k k0 (by omega) f (by rw [hn k k0 k1]; exact hf) h1⟩

theorem Ext.lzB (E : Ext z z') (L : LZ z.cells z.pend todo) : LZ z'.cells z'.pend todo := by
  have hl := E.len
  have hn := fun k h0 h1 => E.nth_ (k := k) h0 h1
  have hb := fun k h0 => E.beyond (k := k) h0
  have hw : ∀ k, cntF (words z'.cells) k = cntF (words z.cells) k := fun k => by obtain ⟨n, e⟩ := E.cells; rw [e, words_free]
  refine ⟨fun p hp => ?_, by rw [E.pend]; exact L.pn, fun c hc => ?_, fun k k0 k1 hc hnp => ?_, fun c hc f hf => ?_, fun f hf => by rw [E.word_]; exact L.ptrT f hf, fun k k0 k1 hc => ?_, ?_⟩
  · rw [E.pend] at hp
    obtain ⟨p0, p1, p2⟩ := L.pr p hp
    exact ⟨p0, by omega, by rw [hn p p0 p1]; exact p2⟩
  · obtain ⟨k, k0, k1, rfl⟩ := mem_nthI hc
    rcases Int.lt_or_le k z.cells.length with h1 | h1
    · rw [hn k k0 h1]; exact L.cell _ (nth_mem k0 h1)
    · rw [hb k h1]; simp
  · rcases Int.lt_or_le k z.cells.length with h1 | h1
    · rw [hn k k0 h1] at hc ⊢; exact L.free k k0 h1 hc (by rw [← E.pend]; exact hnp)
    · exact hb k h1
  · obtain ⟨k, k0, k1, rfl⟩ := mem_nthI hc
    rcases Int.lt_or_le k z.cells.length with h1 | h1
    · rw [hn k k0 h1] at hf; rw [E.word_]; exact L.ptr _ (nth_mem k0 h1) f hf
    · rw [hb k h1] at hf; cases hf
  · rcases Int.lt_or_le k z.cells.length with h1 | h1
    · rw [hn k k0 h1] at hc ⊢; rw [hw]; exact L.cnt k k0 h1 hc
    · rw [hb k h1] at hc; simp at hc
  · obtain ⟨rk, hrk⟩ := L.acyc
    refine ⟨rk, fun k k0 k1 f hf h1000 => ?_⟩
    rcases Int.lt_or_le k z.cells.length with h1 | h1
    · rw [hn k k0 h1] at hf; exact hrk k k0 h1 f hf h1000
    · rw [hb k h1] at hf; cases hf

theorem sumN_ext {f : Nat → Int} {m : Nat} (n : Nat) (hz : ∀ i, m ≤ i → f i = 0) : sumN (m + n) f = sumN m f := by
  induction n with
  | zero => rfl
  | succ n ih => rw [← Nat.add_assoc, sumN_succ, ih, hz _ (by omega)]; omega

/-- free cells behind are of no account -/
theorem Ends.ext (E : Ends h pend todo a) (hp : ∀ p ∈ pend, 0 ≤ p ∧ p < h.length) (n : Nat) : Ends (h ++ List.replicate n free0) pend todo (a ++ List.replicate n free0) := by
  obtain ⟨S, D⟩ := E
  have hlen := D.len
  let T : Nat → Bool := fun i => S i && decide (i < h.length)
  have nl : ∀ k : Int, 0 ≤ k → k < h.length → nth (h ++ List.replicate n free0) k = nth h k := fun k k0 k1 => nth_left k0 k1
  have nr : ∀ k : Int, (h.length : Int) ≤ k → nth (h ++ List.replicate n free0) k = free0 := fun k k0 => by rw [nth_right k0, nth_free]
  have hT : ∀ i : Nat, i < h.length → T i = S i := fun i hi => by show (S i && decide (i < h.length)) = S i; rw [decide_eq_true hi, Bool.and_true]
  have hT2 : ∀ i : Nat, h.length ≤ i → T i = false := fun i hi => by show (S i && decide (i < h.length)) = false; rw [decide_eq_false (by omega), Bool.and_false]
  have hcs : ∀ k, cntS (h ++ List.replicate n free0) T k = cntS h S k := fun k => by
    unfold cntS
    rw [List.length_append, List.length_replicate, sumN_ext n (fun i hi => by rw [hT2 i hi]; rfl)]
    exact sumN_congr fun i hi => by rw [hT i hi, nl _ (by omega) (by omega)]
  refine ⟨T, by simp [hlen], fun p hp' => ?_, fun k k0 k1 hs => ?_, fun k k0 k1 => ?_, fun k k0 k1 hs hc => ?_⟩
  · have := hp p hp'
    rw [hT _ (by omega)]; exact D.pin p hp'
  · rcases Int.lt_or_le k h.length with hl | hg
    · rw [hT _ (by omega)] at hs
      rw [hcs, nl k k0 hl]; exact D.sub k k0 hl hs
    · rw [hT2 _ (by omega)] at hs; cases hs
  · rcases Int.lt_or_le k h.length with hl | hg
    · rw [hT _ (by omega), hcs, nl k k0 hl, nth_left k0 (by omega)]; exact D.at_ k k0 hl
    · rw [hT2 _ (by omega), nr k hg, nth_right (by omega), nth_free]; rfl
  · rcases Int.lt_or_le k h.length with hl | hg
    · rw [hT _ (by omega)] at hs
      rw [nl k k0 hl] at hc
      rw [hcs, nl k k0 hl]; exact D.pos k k0 hl hs hc
    · rw [nr k hg] at hc; simp at hc

theorem Ends.free_ (E : Ends h pend todo a) (k0 : 0 ≤ k) (k1 : k < h.length) (hc : (nth h k).count = 0) (hn : k ∉ pend) : nth a k = nth h k ∧ ∃ S, Done h pend todo S a ∧ S k.toNat = false := by
  obtain ⟨S, D⟩ := E
  have hs : S k.toNat = false := by
    cases e : S k.toNat with
    | false => rfl
    | true =>
      rcases D.sub k k0 k1 e with h1 | ⟨h1, _⟩
      · exact absurd h1 hn
      · omega
  refine ⟨?_, S, D, hs⟩
  rw [D.at_ k k0 k1, hs, if_neg (by simp), if_neg (by omega)]

end
end Go.Vc
