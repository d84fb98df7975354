/- Lazy heaps: what a valid one is; giving up, and settling. -/
import Derived.Test.YtmmkfmmcmjpcgaaBReach
namespace Go.Vc
open Go
set_option linter.all false

structure LazyD where
  cells : List CellD
  pend : List Int
abbrev free0 : CellD := ⟨0, 0, []⟩
def raiseC (c : CellD) : CellD := ⟨1, c.tag, c.fields⟩
def raiseL (h : List CellD) (pend : List Int) : List CellD := pend.foldl (fun h p => h.set p.toNat (raiseC (nth h p))) h
def vpend (z : LazyD) : Prop := (∀ p ∈ z.pend, 0 ≤ p ∧ p < z.cells.length ∧ (nth z.cells p).count = 0) ∧ z.pend.Nodup ∧ ∀ c ∈ z.cells, 0 ≤ c.count
def vlazy (z : LazyD) : Prop := vpend z ∧ vheap (raiseL z.cells z.pend) ∧ ∀ p ∈ z.pend, nth (refL (raiseL z.cells z.pend)) p = 0
noncomputable def vpendB (z : LazyD) : Bool := @decide (vpend z) (Classical.propDecidable _)
noncomputable def vlazyB (z : LazyD) : Bool := @decide (vlazy z) (Classical.propDecidable _)
theorem vpendB_iff {z : LazyD} : vpendB z = true ↔ vpend z := by unfold vpendB; exact @decide_eq_true_iff _ (Classical.propDecidable _)
theorem vlazyB_iff {z : LazyD} : vlazyB z = true ↔ vlazy z := by unfold vlazyB; exact @decide_eq_true_iff _ (Classical.propDecidable _)

theorem raiseL_length (h : List CellD) (pend : List Int) : (raiseL h pend).length = h.length := by
  unfold raiseL
  induction pend generalizing h with
  | nil => rfl
  | cons p r ih => rw [List.foldl_cons, ih]; simp
theorem raiseL_snoc (h : List CellD) (pend : List Int) (p : Int) : raiseL h (pend ++ [p]) = (raiseL h pend).set p.toNat (raiseC (nth (raiseL h pend) p)) := by simp [raiseL]
theorem raiseC_idem (c : CellD) : raiseC (raiseC c) = raiseC c := rfl
theorem nth_raise {h : List CellD} {pend : List Int} (hp : ∀ p ∈ pend, 0 ≤ p ∧ p < h.length) {k : Int} (h0 : 0 ≤ k) (h1 : k < h.length) : nth (raiseL h pend) k = if k ∈ pend then raiseC (nth h k) else nth h k := by
  induction pend generalizing h with
  | nil => simp [raiseL]
  | cons p r ih =>
    obtain ⟨p0, p1⟩ := hp p List.mem_cons_self
    have e : raiseL h (p :: r) = raiseL (h.set p.toNat (raiseC (nth h p))) r := rfl
    rw [e, ih (fun q hq => by have := hp q (List.mem_cons_of_mem _ hq); simpa using this) (by simpa using h1), nth_set _ _ _ _ p0 p1 h0]
    by_cases e1 : k = p
    · subst e1
      simp [raiseC_idem]
    · simp [e1]
theorem words_raise (h : List CellD) (pend : List Int) : words (raiseL h pend) = words h := by
  unfold raiseL
  induction pend generalizing h with
  | nil => rfl
  | cons p r ih =>
    rw [List.foldl_cons, ih]
    unfold words
    have : (h.set p.toNat (raiseC (nth h p))).map (·.fields) = h.map (·.fields) := by
      apply List.ext_getElem?
      intro k
      simp only [List.getElem?_map, List.getElem?_set]
      by_cases e : p.toNat = k
      · subst e
        rw [if_pos rfl]
        split
        · rename_i hlt
          simp only [Option.map_some, List.getElem?_eq_getElem hlt]
          show some (nth h p).fields = some (h[p.toNat]).fields
          unfold nth List.getD
          rw [List.getElem?_eq_getElem hlt]; rfl
        · rename_i hge; rw [List.getElem?_eq_none (by omega)]
      · rw [if_neg e]
    rw [List.flatMap_def, List.flatMap_def, this]

def cntF (ws : List Int) (k : Int) : Int := (ws.count (1000 + k) : Nat)
theorem cntF_append (a b : List Int) (k : Int) : cntF (a ++ b) k = cntF a k + cntF b k := by simp [cntF, List.count_append]
theorem cntF_cons (f : Int) (r : List Int) (k : Int) : cntF (f :: r) k = (if f = 1000 + k then 1 else 0) + cntF r k := by
  simp only [cntF, List.count_cons, beq_iff_eq]
  split <;> simp <;> omega
theorem cntF_nonneg (a : List Int) (k : Int) : 0 ≤ cntF a k := by simp [cntF]
theorem cntF_mem {a : List Int} {f : Int} (hf : f ∈ a) (h1 : 1000 ≤ f) : 0 < cntF a (f - 1000) := by
  have : 0 < a.count f := List.count_pos_iff.2 hf
  simp only [cntF]
  rw [show 1000 + (f - 1000) = f from by omega]; omega
/-- in a heap where it is live, a pointer counts wherever it stands -/
theorem cnt_cntF {h : List CellD} (ws : List Int) {k : Int} (h0 : 0 ≤ k) (hl : live h (1000 + k) = true) : cnt h ws k.toNat = cntF ws k := by
  unfold cnt cntF
  congr 1
  rw [List.count, Int.toNat_of_nonneg h0]
  apply List.countP_congr
  intro f _
  simp only [Bool.and_eq_true, decide_eq_true_eq, beq_iff_eq]
  constructor
  · exact fun h => h.2
  · intro e; subst e; exact ⟨hl, rfl⟩

def AcycP (h : List CellD) : Prop := ∃ rk : Nat → Nat, ∀ k : Int, 0 ≤ k → k < h.length → ∀ f ∈ (nth h k).fields, 1000 ≤ f → rk (f - 1000).toNat < rk k.toNat

structure LZ (h : List CellD) (pend todo : List Int) : Prop where
  pr : ∀ p ∈ pend, 0 ≤ p ∧ p < h.length ∧ (nth h p).count = 0
  pn : pend.Nodup
  cell : ∀ c ∈ h, 0 ≤ c.count ∧ c.count ≤ 999999 ∧ c.fields.length ≤ 3 ∧ 0 ≤ c.tag ∧ c.tag ≤ 99
  free : ∀ k : Int, 0 ≤ k → k < h.length → (nth h k).count = 0 → k ∉ pend → nth h k = free0
  ptr : wordsOk h
  ptrT : ∀ f ∈ todo, word h f = true
  cnt : ∀ k : Int, 0 ≤ k → k < h.length → 0 < (nth h k).count → cntF (words h) k + cntF todo k ≤ (nth h k).count
  acyc : AcycP h
/-- the last cell is not free -/
def lastZ (h : List CellD) (pend : List Int) : Prop := 0 < h.length → (nth h (h.length - 1)).count ≠ 0 ∨ ((h.length : Int) - 1) ∈ pend

theorem mem_words {h : List CellD} {f : Int} : f ∈ words h ↔ ∃ k : Int, 0 ≤ k ∧ k < h.length ∧ f ∈ (nth h k).fields := by
  unfold words
  rw [List.mem_flatMap]
  constructor
  · rintro ⟨c, hc, hf⟩
    obtain ⟨i, hi, rfl⟩ := List.getElem_of_mem hc
    exact ⟨i, by omega, by omega, by rw [nth_nat hi]; exact hf⟩
  · rintro ⟨k, h0, h1, hf⟩
    exact ⟨_, nth_mem h0 h1, hf⟩
theorem mem_nthI {h : List CellD} {c : CellD} (hc : c ∈ h) : ∃ i : Int, 0 ≤ i ∧ i < h.length ∧ nth h i = c := by
  obtain ⟨i, hi, rfl⟩ := List.getElem_of_mem hc
  exact ⟨i, by omega, by omega, nth_nat hi⟩
theorem live_iff {h : List CellD} {f : Int} : live h f = true ↔ 1000 ≤ f ∧ f - 1000 < h.length ∧ 0 < (nth h (f - 1000)).count := by simp [live, and_assoc]
theorem word_iff {h : List CellD} {f : Int} : word h f = true ↔ (-999 ≤ f ∧ f ≤ 999) ∨ live h f = true := by simp [word]

theorem vcell_iff {h : List CellD} {c : CellD} : vcell h c = true ↔ c.fields.length ≤ 3 ∧ -1 ≤ c.count ∧ 0 ≤ c.tag ∧ c.tag ≤ 99 ∧ (c.count < 1 → c.tag = 0) ∧ (c.count = 0 → c.fields = []) ∧ (∀ f ∈ c.fields, word h f = true ∧ (c.count < 0 → f = 0)) ∧ c.count ≤ 999999 := by
  simp only [vcell, icell, Bool.and_eq_true, decide_eq_true_eq, List.all_eq_true]
  constructor
  · rintro ⟨⟨⟨⟨⟨⟨⟨h1, h2⟩, h3⟩, h4⟩, h5⟩, h6⟩, h7⟩, h8⟩; exact ⟨h1, h2, h3, h4, h5, h6, h7, h8⟩
  · rintro ⟨h1, h2, h3, h4, h5, h6, h7, h8⟩; exact ⟨⟨⟨⟨⟨⟨⟨h1, h2⟩, h3⟩, h4⟩, h5⟩, h6⟩, h7⟩, h8⟩

theorem vlazy_iff {z : LazyD} : vlazy z ↔ LZ z.cells z.pend [] ∧ lastZ z.cells z.pend := by
  obtain ⟨h, pend⟩ := z
  have hlen := raiseL_length h pend
  constructor
  · rintro ⟨⟨hp1, hp2, hp3⟩, ⟨hv1, hv2, hv3, rk, hv4⟩, hv5⟩
    simp only at hp1 hp2 hp3 hv1 hv2 hv3 hv4 hv5
    have hr : ∀ k : Int, 0 ≤ k → k < h.length → nth (raiseL h pend) k = if k ∈ pend then raiseC (nth h k) else nth h k := fun k k0 k1 => nth_raise (fun p hp => ⟨(hp1 p hp).1, (hp1 p hp).2.1⟩) k0 k1
    have hf : ∀ k : Int, 0 ≤ k → k < h.length → (nth (raiseL h pend) k).fields = (nth h k).fields := fun k k0 k1 => by rw [hr k k0 k1]; split <;> rfl
    have hvc : ∀ k : Int, 0 ≤ k → k < h.length → vcell (raiseL h pend) (if k ∈ pend then raiseC (nth h k) else nth h k) = true := fun k k0 k1 => by rw [← hr k k0 k1]; exact hv2 _ (nth_mem k0 (by omega))
    -- a pointer in a field leads to a live cell
    have hptr : ∀ k : Int, 0 ≤ k → k < h.length → ∀ f ∈ (nth h k).fields, 1000 ≤ f → f - 1000 < h.length ∧ f - 1000 ∉ pend ∧ 0 < (nth h (f - 1000)).count ∧ live (raiseL h pend) f = true := by
      intro k k0 k1 f hff h1
      have hw : word (raiseL h pend) f = true := by
        have := (vcell_iff.1 (hv2 _ (nth_mem (l := raiseL h pend) k0 (by omega)))).2.2.2.2.2.2.1 f (by rw [hf k k0 k1]; exact hff)
        exact this.1
      have hl := word_ptr hw h1
      obtain ⟨_, l2, l3⟩ := live_iff.1 hl
      rw [hlen] at l2
      have hnp : f - 1000 ∉ pend := fun hm => by
        have := hv5 _ hm
        rw [refL, nth_refsW (by omega) (by omega), cnt_cntF _ (by omega) (by rw [show 1000 + (f - 1000) = f from by omega]; exact hl), words_raise] at this
        have hmem : f ∈ words h := mem_words.2 ⟨k, k0, k1, hff⟩
        have := cntF_mem hmem h1
        omega
      rw [hr _ (by omega) l2, if_neg hnp] at l3
      exact ⟨l2, hnp, l3, hl⟩
    show LZ h pend [] ∧ lastZ h pend
    refine ⟨⟨hp1, hp2, fun c hc => ?_, fun k k0 k1 hc hn => ?_, fun c hc f hff => ?_, fun f hf => (by cases hf), fun k k0 k1 hc => ?_, rk, fun k k0 k1 f hff h1 => ?_⟩, fun hpos => ?_⟩
    · obtain ⟨k, k0, k1, rfl⟩ := mem_nthI hc
      have := vcell_iff.1 (hvc k k0 k1)
      have hc0 := hp3 _ hc
      by_cases e : k ∈ pend
      · rw [if_pos e] at this
        have hz := (hp1 k e).2.2
        exact ⟨hc0, by omega, this.1, this.2.2.1, this.2.2.2.1⟩
      · rw [if_neg e] at this
        exact ⟨hc0, this.2.2.2.2.2.2.2, this.1, this.2.2.1, this.2.2.2.1⟩
    · have := vcell_iff.1 (hvc k k0 k1)
      rw [if_neg hn] at this
      have h1 := this.2.2.2.2.1 (by omega)
      have h2 := this.2.2.2.2.2.1 hc
      cases hx : nth h k with
      | mk a b c => rw [hx] at hc h1 h2; simp only at hc h1 h2; subst hc; subst h1; subst h2; rfl
    · obtain ⟨k, k0, k1, rfl⟩ := mem_nthI hc
      have hw : word (raiseL h pend) f = true := ((vcell_iff.1 (hv2 _ (nth_mem (l := raiseL h pend) k0 (by omega)))).2.2.2.2.2.2.1 f (by rw [hf k k0 k1]; exact hff)).1
      rcases word_iff.1 hw with h1 | h1
      · exact word_iff.2 (.inl h1)
      · have h2 := (live_iff.1 h1).1
        obtain ⟨g1, g2, g3, _⟩ := hptr k k0 k1 f hff h2
        exact word_iff.2 (.inr (live_iff.2 ⟨h2, g1, g3⟩))
    · have hnp : k ∉ pend := fun hm => by have := (hp1 k hm).2.2; omega
      have := hv3 k.toNat (by omega) (by rw [Int.toNat_of_nonneg k0, hr k k0 k1, if_neg hnp]; exact hc)
      rw [Int.toNat_of_nonneg k0, hr k k0 k1, if_neg hnp, refL, nth_refsW k0 (by omega), cnt_cntF _ k0 (live_iff.2 ⟨by omega, by omega, by rw [show 1000 + k - 1000 = k from by omega, hr k k0 k1, if_neg hnp]; exact hc⟩), words_raise] at this
      simp [cntF]; simpa [cntF] using this
    · have hl := (hptr k k0 k1 f hff h1).2.2.2
      have := hv4 k.toNat _ f (nth_get (l := raiseL h pend) k0 (by omega)) (by rw [hf k k0 k1]; exact hff) hl
      exact this
    · have := hv1 (by omega)
      rw [hlen, hr _ (by omega) (by omega)] at this
      by_cases e : ((h.length : Int) - 1) ∈ pend
      · exact .inr e
      · rw [if_neg e] at this; exact .inl this
  · rintro ⟨L, hlast⟩
    simp only at L hlast
    have hr : ∀ k : Int, 0 ≤ k → k < h.length → nth (raiseL h pend) k = if k ∈ pend then raiseC (nth h k) else nth h k := fun k k0 k1 => nth_raise (fun p hp => ⟨(L.pr p hp).1, (L.pr p hp).2.1⟩) k0 k1
    have hf : ∀ k : Int, 0 ≤ k → k < h.length → (nth (raiseL h pend) k).fields = (nth h k).fields := fun k k0 k1 => by rw [hr k k0 k1]; split <;> rfl
    have hlv : ∀ f, live h f = true → live (raiseL h pend) f = true ∧ f - 1000 ∉ pend := by
      intro f hl
      obtain ⟨l1, l2, l3⟩ := live_iff.1 hl
      have hnp : f - 1000 ∉ pend := fun hm => by have := (L.pr _ hm).2.2; omega
      exact ⟨live_iff.2 ⟨l1, by omega, by rw [hr _ (by omega) l2, if_neg hnp]; exact l3⟩, hnp⟩
    have hwd : ∀ f, word h f = true → word (raiseL h pend) f = true := fun f hw => by
      rcases word_iff.1 hw with h1 | h1
      · exact word_iff.2 (.inl h1)
      · exact word_iff.2 (.inr (hlv f h1).1)
    have hns : ∀ p ∈ pend, cntF (words h) p = 0 := by
      intro p hp
      obtain ⟨p0, p1, p2⟩ := L.pr p hp
      have : (1000 + p) ∉ words h := fun hm => by
        obtain ⟨k, k0, k1, hff⟩ := mem_words.1 hm
        have := word_ptr (L.ptr _ (nth_mem k0 k1) _ hff) (by omega)
        obtain ⟨_, _, l3⟩ := live_iff.1 this
        rw [show 1000 + p - 1000 = p from by omega] at l3
        omega
      simp [cntF, List.count_eq_zero.2 this]
    refine ⟨⟨L.pr, L.pn, fun c hc => (L.cell c hc).1⟩, ⟨fun hpos => ?_, fun c hc => ?_, fun k hk hc => ?_, ?_⟩, fun p hp => ?_⟩
    · simp only at hpos ⊢
      rw [hlen] at hpos ⊢
      rw [hr _ (by omega) (by omega)]
      rcases hlast hpos with h1 | h1
      · split
        · simp [raiseC]
        · exact h1
      · rw [if_pos h1]; simp [raiseC]
    · obtain ⟨k, k0, k1, rfl⟩ := mem_nthI hc
      rw [hlen] at k1
      have hm := nth_mem (l := h) k0 k1
      obtain ⟨c1, c2, c3, c4, c5⟩ := L.cell _ hm
      rw [hr k k0 k1]
      by_cases e : k ∈ pend
      · rw [if_pos e]
        exact vcell_iff.2 ⟨c3, by simp [raiseC], c4, c5, by simp [raiseC], by simp [raiseC], fun f hff => ⟨hwd f (L.ptr _ hm f hff), by simp [raiseC]⟩, by simp [raiseC]⟩
      · rw [if_neg e]
        refine vcell_iff.2 ⟨c3, by omega, c4, c5, fun hlt => ?_, fun he => ?_, fun f hff => ⟨hwd f (L.ptr _ hm f hff), by omega⟩, c2⟩
        · rw [L.free k k0 k1 (by omega) e]
        · rw [L.free k k0 k1 he e]
    · simp only at hk hc ⊢
      rw [hlen] at hk
      rw [hr k (by omega) (by omega)] at hc ⊢
      rw [refL, nth_refsW (by omega) (by omega)]
      have hlk : live (raiseL h pend) (1000 + (k : Int)) = true := live_iff.2 ⟨by omega, by omega, by rw [show 1000 + (k : Int) - 1000 = k from by omega, hr k (by omega) (by omega)]; exact hc⟩
      rw [cnt_cntF _ (by omega) hlk, words_raise]
      by_cases e : (k : Int) ∈ pend
      · rw [if_pos e, hns _ e]; simp [raiseC]
      · rw [if_neg e] at hc ⊢
        have := L.cnt k (by omega) (by omega) hc
        simpa [cntF] using this
    · obtain ⟨rk, hrk⟩ := L.acyc
      refine ⟨rk, fun i c f hi hff hl => ?_⟩
      have hlt : i < h.length := by rcases Nat.lt_or_ge i (raiseL h pend).length with hl | hg; omega; rw [List.getElem?_eq_none hg] at hi; cases hi
      have hci : nth (raiseL h pend) (i : Int) = c := nth_of (by simpa using hi)
      have := hrk i (by omega) (by omega) f (by rw [← hf i (by omega) (by omega), hci]; exact hff) (live_iff.1 hl).1
      simpa using this
    · simp only
      obtain ⟨p0, p1, p2⟩ := L.pr p hp
      rw [refL, nth_refsW p0 (by omega)]
      have hlk : live (raiseL h pend) (1000 + p) = true := live_iff.2 ⟨by omega, by omega, by rw [show 1000 + p - 1000 = p from by omega, hr p p0 p1, if_pos hp]; simp [raiseC]⟩
      rw [cnt_cntF _ p0 hlk, words_raise]
      exact hns p hp
end Go.Vc
