/- Part of the proofs about the heaps and memories: a law is joined in the text whose name ends in W and the law. -/
import Derived.Test.YtelgbndeeccblaaDoorEH1
namespace Go.Vc
open Go
set_option linter.all false

structure LazyD where
  cells : List CellD
  pend : List Int
abbrev free0 : CellD := ⟨0, 0, []⟩
def raiseC (c : CellD) : CellD := ⟨1, c.tag, c.fields⟩
def raiseL (h : List CellD) (pend : List Int) : List CellD := pend.foldl (fun h p => h.set p.toNat (raiseC (nth h p))) h
def vpend (z : LazyD) : Prop := (∀ p ∈ z.pend, 0 ≤ p ∧ p < z.cells.length ∧ (nth z.cells p).count = 0) ∧ z.pend.Nodup ∧ ∀ c ∈ z.cells, 0 ≤ c.count
def vlazy (z : LazyD) : Prop := vpend z ∧ vheap (raiseL z.cells z.pend) ∧ ∀ p ∈ z.pend, nth (refL (raiseL z.cells z.pend)) p = 0
noncomputable def vpendB (z : LazyD) : Bool := @decide (vpend z) (Classical.propDecidable _)
noncomputable def vlazyB (z : LazyD) : Bool := @decide (vlazy z) (Classical.propDecidable _)
theorem vpendB_iff {z : LazyD} : vpendB z = true ↔ vpend z := by unfold vpendB; exact @decide_eq_true_iff _ (Classical.propDecidable _)
theorem vlazyB_iff {z : LazyD} : vlazyB z = true ↔ vlazy z := by unfold vlazyB; exact @decide_eq_true_iff _ (Classical.propDecidable _)

theorem raiseL_length (h : List CellD) (pend : List Int) : (raiseL h pend).length = h.length := by
  unfold raiseL
  induction pend generalizing h with
  | nil => rfl
  | cons p r ih => rw [List.foldl_cons, ih]; simp
theorem raiseL_snoc (h : List CellD) (pend : List Int) (p : Int) : raiseL h (pend ++ [p]) = (raiseL h pend).set p.toNat (raiseC (nth (raiseL h pend) p)) := by simp [raiseL]
theorem raiseC_idem (c : CellD) : raiseC (raiseC c) = raiseC c := rfl
theorem nth_raise {h : List CellD} {pend : List Int} (hp : ∀ p ∈ pend, 0 ≤ p ∧ p < h.length) {k : Int} (h0 : 0 ≤ k) (h1 : k < h.length) : nth (raiseL h pend) k = if k ∈ pend then raiseC (nth h k) else nth h k := by
  induction pend generalizing h with
  | nil => simp [raiseL]
  | cons p r ih =>
    obtain ⟨p0, p1⟩ := hp p List.mem_cons_self
    have e : raiseL h (p :: r) = raiseL (h.set p.toNat (raiseC (nth h p))) r := rfl
    rw [e, ih (fun q hq => by have := hp q (List.mem_cons_of_mem _ hq); simpa using this) (by simpa using h1), nth_set _ _ _ _ p0 p1 h0]
    by_cases e1 : k = p
    · subst e1
      simp [raiseC_idem]
    · simp [e1]
theorem words_raise (h : List CellD) (pend : List Int) : words (raiseL h pend) = words h := by
  unfold raiseL
  induction pend generalizing h with
  | nil => rfl
  | cons p r ih =>
    rw [List.foldl_cons, ih]
    unfold words
    have : (h.set p.toNat (raiseC (nth h p))).map (·.fields) = h.map (·.fields) := by
      apply List.ext_getElem?
      intro k
      simp only [List.getElem?_map, List.getElem?_set]
      by_cases e : p.toNat = k
      · subst e
        rw [if_pos rfl]
        split
        · rename_i hlt
          simp only [Option.map_some, List.getElem?_eq_getElem hlt]
          show some (nth h p).fields = some (h[p.toNat]).fields
          unfold nth List.getD
          rw [List.getElem?_eq_getElem hlt]; rfl
        · rename_i hge; rw [List.getElem?_eq_none (by omega)]
      · rw [if_neg e]
    rw [List.flatMap_def, List.flatMap_def, this]

def cntF (ws : List Int) (k : Int) : Int := (ws.count (1000 + k) : Nat)
theorem cntF_append (a b : List Int) (k : Int) : cntF (a ++ b) k = cntF a k + cntF b k := by simp [cntF, List.count_append]
theorem cntF_cons (f : Int) (r : List Int) (k : Int) : cntF (f :: r) k = (if f = 1000 + k then 1 else 0) + cntF r k := by
  simp only [cntF, List.count_cons, beq_iff_eq]
  split <;> simp <;> omega
theorem cntF_nonneg (a : List Int) (k : Int) : 0 ≤ cntF a k := by simp [cntF]
theorem cntF_mem {a : List Int} {f : Int} (hf : f ∈ a) (h1 : 1000 ≤ f) : 0 < cntF a (f - 1000) := by
  have : 0 < a.count f := List.count_pos_iff.2 hf
  simp only [cntF]
  rw [show 1000 + (f - 1000) = f from by omega]; omega
/-- in a heap where it is live, a pointer counts wherever it stands -/
theorem cnt_cntF {h : List CellD} (ws : List Int) {k : Int} (h0 : 0 ≤ k) (hl : live h (1000 + k) = true) : cnt h ws k.toNat = cntF ws k := by
  unfold cnt cntF
  congr 1
  rw [List.count, Int.toNat_of_nonneg h0]
  apply List.countP_congr
  intro f _
  simp only [Bool.and_eq_true, decide_eq_true_eq, beq_iff_eq]
  constructor
  · exact fun h => h.2
  · intro e; subst e; exact ⟨hl, rfl⟩

def AcycP (h : List CellD) : Prop := ∃ rk : Nat → Nat, ∀ k : Int, 0 ≤ k → k < h.length → ∀ f ∈ (nth h k).fields, 1000 ≤ f → rk (f - 1000).toNat < rk k.toNat

structure LZ (h : List CellD) (pend todo : List Int) : Prop where
  pr : ∀ p ∈ pend, 0 ≤ p ∧ p < h.length ∧ (nth h p).count = 0
  pn : pend.Nodup
  cell : ∀ c ∈ h, 0 ≤ c.count ∧ c.count ≤ 999999 ∧ c.fields.length ≤ 3 ∧ 0 ≤ c.tag ∧ c.tag ≤ 99
  free : ∀ k : Int, 0 ≤ k → k < h.length → (nth h k).count = 0 → k ∉ pend → nth h k = free0
  ptr : wordsOk h
  ptrT : ∀ f ∈ todo, word h f = true
  cnt : ∀ k : Int, 0 ≤ k → k < h.length → 0 < (nth h k).count → cntF (words h) k + cntF todo k ≤ (nth h k).count
  acyc : AcycP h
/-- the last cell is not free -/
def lastZ (h : List CellD) (pend : List Int) : Prop := 0 < h.length → (nth h (h.length - 1)).count ≠ 0 ∨ ((h.length : Int) - 1) ∈ pend

theorem mem_words {h : List CellD} {f : Int} : f ∈ words h ↔ ∃ k : Int, 0 ≤ k ∧ k < h.length ∧ f ∈ (nth h k).fields := by
  unfold words
  rw [List.mem_flatMap]
  constructor
  · rintro ⟨c, hc, hf⟩
    obtain ⟨i, hi, rfl⟩ := List.getElem_of_mem hc
    exact ⟨i, by omega, by omega, by rw [nth_nat hi]; exact hf⟩
  · rintro ⟨k, h0, h1, hf⟩
    exact ⟨_, nth_mem h0 h1, hf⟩
theorem mem_nthI {h : List CellD} {c : CellD} (hc : c ∈ h) : ∃ i : Int, 0 ≤ i ∧ i < h.length ∧ nth h i = c := by
  obtain ⟨i, hi, rfl⟩ := List.getElem_of_mem hc
  exact ⟨i, by omega, by omega, nth_nat hi⟩
theorem live_iff {h : List CellD} {f : Int} : live h f = true ↔ 1000 ≤ f ∧ f - 1000 < h.length ∧ 0 < (nth h (f - 1000)).count := by simp [live, and_assoc]
theorem word_iff {h : List CellD} {f : Int} : word h f = true ↔ (-999 ≤ f ∧ f ≤ 999) ∨ live h f = true := by simp [word]

theorem vcell_iff {h : List CellD} {c : CellD} : vcell h c = true ↔ c.fields.length ≤ 3 ∧ -1 ≤ c.count ∧ 0 ≤ c.tag ∧ c.tag ≤ 99 ∧ (c.count < 1 → c.tag = 0) ∧ (c.count = 0 → c.fields = []) ∧ (∀ f ∈ c.fields, word h f = true ∧ (c.count < 0 → f = 0)) ∧ c.count ≤ 999999 := by
  simp only [vcell, icell, Bool.and_eq_true, decide_eq_true_eq, List.all_eq_true]
  constructor
  · rintro ⟨⟨⟨⟨⟨⟨⟨h1, h2⟩, h3⟩, h4⟩, h5⟩, h6⟩, h7⟩, h8⟩; exact ⟨h1, h2, h3, h4, h5, h6, h7, h8⟩
  · rintro ⟨h1, h2, h3, h4, h5, h6, h7, h8⟩; exact ⟨⟨⟨⟨⟨⟨⟨h1, h2⟩, h3⟩, h4⟩, h5⟩, h6⟩, h7⟩, h8⟩

theorem vlazy_iff {z : LazyD} : vlazy z ↔ LZ z.cells z.pend [] ∧ lastZ z.cells z.pend := by
  obtain ⟨h, pend⟩ := z
  have hlen := raiseL_length h pend
  constructor
  · rintro ⟨⟨hp1, hp2, hp3⟩, ⟨hv1, hv2, hv3, rk, hv4⟩, hv5⟩
    simp only at hp1 hp2 hp3 hv1 hv2 hv3 hv4 hv5
    have hr : ∀ k : Int, 0 ≤ k → k < h.length → nth (raiseL h pend) k = if k ∈ pend then raiseC (nth h k) else nth h k := fun k k0 k1 => nth_raise (fun p hp => ⟨(hp1 p hp).1, (hp1 p hp).2.1⟩) k0 k1
    have hf : ∀ k : Int, 0 ≤ k → k < h.length → (nth (raiseL h pend) k).fields = (nth h k).fields := fun k k0 k1 => by rw [hr k k0 k1]; split <;> rfl
    have hvc : ∀ k : Int, 0 ≤ k → k < h.length → vcell (raiseL h pend) (if k ∈ pend then raiseC (nth h k) else nth h k) = true := fun k k0 k1 => by rw [← hr k k0 k1]; exact hv2 _ (nth_mem k0 (by omega))
    -- a pointer in a field leads to a live cell
    have hptr : ∀ k : Int, 0 ≤ k → k < h.length → ∀ f ∈ (nth h k).fields, 1000 ≤ f → f - 1000 < h.length ∧ f - 1000 ∉ pend ∧ 0 < (nth h (f - 1000)).count ∧ live (raiseL h pend) f = true := by
      intro k k0 k1 f hff h1
      have hw : word (raiseL h pend) f = true := by
        have := (vcell_iff.1 (hv2 _ (nth_mem (l := raiseL h pend) k0 (by omega)))).2.2.2.2.2.2.1 f (by rw [hf k k0 k1]; exact hff)
        exact this.1
      have hl := word_ptr hw h1
      obtain ⟨_, l2, l3⟩ := live_iff.1 hl
      rw [hlen] at l2
      have hnp : f - 1000 ∉ pend := fun hm => by
        have := hv5 _ hm
        rw [refL, nth_refsW (by omega) (by omega), cnt_cntF _ (by omega) (by rw [show 1000 + (f - 1000) = f from by omega]; exact hl), words_raise] at this
        have hmem : f ∈ words h := mem_words.2 ⟨k, k0, k1, hff⟩
        have := cntF_mem hmem h1
        omega
      rw [hr _ (by omega) l2, if_neg hnp] at l3
      exact ⟨l2, hnp, l3, hl⟩
    show LZ h pend [] ∧ lastZ h pend
    refine ⟨⟨hp1, hp2, fun c hc => ?_, fun k k0 k1 hc hn => ?_, fun c hc f hff => ?_, fun f hf => (by cases hf), fun k k0 k1 hc => ?_, rk, fun k k0 k1 f hff h1 => ?_⟩, fun hpos => ?_⟩
    · obtain ⟨k, k0, k1, rfl⟩ := mem_nthI hc
      have := vcell_iff.1 (hvc k k0 k1)
      have hc0 := hp3 _ hc
      by_cases e : k ∈ pend
      · rw [if_pos e] at this
        have hz := (hp1 k e).2.2
        exact ⟨hc0, by omega, this.1, this.2.2.1, this.2.2.2.1⟩
      · rw [if_neg e] at this
        exact ⟨hc0, this.2.2.2.2.2.2.2, this.1, this.2.2.1, this.2.2.2.1⟩
    · have := vcell_iff.1 (hvc k k0 k1)
      rw [if_neg hn] at this
      have h1 := this.2.2.2.2.1 (by omega)
      have h2 := this.2.2.2.2.2.1 hc
      cases hx : nth h k with
      | mk a b c => rw [hx] at hc h1 h2; simp only at hc h1 h2; subst hc; subst h1; subst h2; rfl
    · obtain ⟨k, k0, k1, rfl⟩ := mem_nthI hc
      have hw : word (raiseL h pend) f = true := ((vcell_iff.1 (hv2 _ (nth_mem (l := raiseL h pend) k0 (by omega)))).2.2.2.2.2.2.1 f (by rw [hf k k0 k1]; exact hff)).1
      rcases word_iff.1 hw with h1 | h1
      · exact word_iff.2 (.inl h1)
      · have h2 := (live_iff.1 h1).1
        obtain ⟨g1, g2, g3, _⟩ := hptr k k0 k1 f hff h2
        exact word_iff.2 (.inr (live_iff.2 ⟨h2, g1, g3⟩))
    · have hnp : k ∉ pend := fun hm => by have := (hp1 k hm).2.2; omega
      have := hv3 k.toNat (by omega) (by rw [Int.toNat_of_nonneg k0, hr k k0 k1, if_neg hnp]; exact hc)
      rw [Int.toNat_of_nonneg k0, hr k k0 k1, if_neg hnp, refL, nth_refsW k0 (by omega), cnt_cntF _ k0 (live_iff.2 ⟨by omega, by omega, by rw [show 1000 + k - 1000 = k from by omega, hr k k0 k1, if_neg hnp]; exact hc⟩), words_raise] at this
      simp [cntF]; simpa [cntF] using this
    · have hl := (hptr k k0 k1 f hff h1).2.2.2
      have := hv4 k.toNat _ f (nth_get (l := raiseL h pend) k0 (by omega)) (by rw [hf k k0 k1]; exact hff) hl
      exact this
    · have := hv1 (by omega)
      rw [hlen, hr _ (by omega) (by omega)] at this
      by_cases e : ((h.length : Int) - 1) ∈ pend
      · exact .inr e
      · rw [if_neg e] at this; exact .inl this
  · rintro ⟨L, hlast⟩
    simp only at L hlast
    have hr : ∀ k : Int, 0 ≤ k → k < h.length → nth (raiseL h pend) k = if k ∈ pend then raiseC (nth h k) else nth h k := fun k k0 k1 => nth_raise (fun p hp => ⟨(L.pr p hp).1, (L.pr p hp).2.1⟩) k0 k1
    have hf : ∀ k : Int, 0 ≤ k → k < h.length → (nth (raiseL h pend) k).fields = (nth h k).fields := fun k k0 k1 => by rw [hr k k0 k1]; split <;> rfl
    have hlv : ∀ f, live h f = true → live (raiseL h pend) f = true ∧ f - 1000 ∉ pend := by
      intro f hl
      obtain ⟨l1, l2, l3⟩ := live_iff.1 hl
      have hnp : f - 1000 ∉ pend := fun hm => by have := (L.pr _ hm).2.2; omega
      exact ⟨live_iff.2 ⟨l1, by omega, by rw [hr _ (by omega) l2, if_neg hnp]; exact l3⟩, hnp⟩
    have hwd : ∀ f, word h f = true → word (raiseL h pend) f = true := fun f hw => by
      rcases word_iff.1 hw with h1 | h1
      · exact word_iff.2 (.inl h1)
      · exact word_iff.2 (.inr (hlv f h1).1)
    have hns : ∀ p ∈ pend, cntF (words h) p = 0 := by
      intro p hp
      obtain ⟨p0, p1, p2⟩ := L.pr p hp
      have : (1000 + p) ∉ words h := fun hm => by
        obtain ⟨k, k0, k1, hff⟩ := mem_words.1 hm
        have := word_ptr (L.ptr _ (nth_mem k0 k1) _ hff) (by omega)
        obtain ⟨_, _, l3⟩ := live_iff.1 this
        rw [show 1000 + p - 1000 = p from by omega] at l3
        omega
      simp [cntF, List.count_eq_zero.2 this]
    refine ⟨⟨L.pr, L.pn, fun c hc => (L.cell c hc).1⟩, ⟨fun hpos => ?_, fun c hc => ?_, fun k hk hc => ?_, ?_⟩, fun p hp => ?_⟩
    · simp only at hpos ⊢
      rw [hlen] at hpos ⊢
      rw [hr _ (by omega) (by omega)]
      rcases hlast hpos with h1 | h1
      · split
        · simp [raiseC]
        · exact h1
      · rw [if_pos h1]; simp [raiseC]
    · obtain ⟨k, k0, k1, rfl⟩ := mem_nthI hc
      rw [hlen] at k1
      have hm := nth_mem (l := h) k0 k1
      obtain ⟨c1, c2, c3, c4, c5⟩ := L.cell _ hm
      rw [hr k k0 k1]
      by_cases e : k ∈ pend
      · rw [if_pos e]
        exact vcell_iff.2 ⟨c3, by simp [raiseC], c4, c5, by simp [raiseC], by simp [raiseC], fun f hff => ⟨hwd f (L.ptr _ hm f hff), by simp [raiseC]⟩, by simp [raiseC]⟩
      · rw [if_neg e]
        refine vcell_iff.2 ⟨c3, by omega, c4, c5, fun hlt => ?_, fun he => ?_, fun f hff => ⟨hwd f (L.ptr _ hm f hff), by omega⟩, c2⟩
        · rw [L.free k k0 k1 (by omega) e]
        · rw [L.free k k0 k1 he e]
    · simp only at hk hc ⊢
      rw [hlen] at hk
      rw [hr k (by omega) (by omega)] at hc ⊢
      rw [refL, nth_refsW (by omega) (by omega)]
      have hlk : live (raiseL h pend) (1000 + (k : Int)) = true := live_iff.2 ⟨by omega, by omega, by rw [show 1000 + (k : Int) - 1000 = k from by omega, hr k (by omega) (by omega)]; exact hc⟩
      rw [cnt_cntF _ (by omega) hlk, words_raise]
      by_cases e : (k : Int) ∈ pend
      · rw [if_pos e, hns _ e]; simp [raiseC]
      · rw [if_neg e] at hc ⊢
        have := L.cnt k (by omega) (by omega) hc
        simpa [cntF] using this
    · obtain ⟨rk, hrk⟩ := L.acyc
      refine ⟨rk, fun i c f hi hff hl => ?_⟩
      have hlt : i < h.length := by rcases Nat.lt_or_ge i (raiseL h pend).length with hl | hg; omega; rw [List.getElem?_eq_none hg] at hi; cases hi
      have hci : nth (raiseL h pend) (i : Int) = c := nth_of (by simpa using hi)
      have := hrk i (by omega) (by omega) f (by rw [← hf i (by omega) (by omega), hci]; exact hff) (live_iff.1 hl).1
      simpa using this
    · simp only
      obtain ⟨p0, p1, p2⟩ := L.pr p hp
      rw [refL, nth_refsW p0 (by omega)]
      have hlk : live (raiseL h pend) (1000 + p) = true := live_iff.2 ⟨by omega, by omega, by rw [show 1000 + p - 1000 = p from by omega, hr p p0 p1, if_pos hp]; simp [raiseC]⟩
      rw [cnt_cntF _ p0 hlk, words_raise]
      exact hns p hp
end Go.Vc

namespace Go.Vc
open Go
set_option linter.all false

def decC (c : CellD) : CellD := ⟨c.count - 1, c.tag, c.fields⟩
def lowerZ (z : LazyD) (k : Int) : LazyD := ⟨z.cells.set k.toNat (decC (nth z.cells k)), if (nth z.cells k).count - 1 = 0 then z.pend ++ [k] else z.pend⟩
def dropF (z : LazyD) (fs : List Int) : LazyD := fs.foldl (fun z f => if 1000 ≤ f then lowerZ z (f - 1000) else z) z
def settle1 (z : LazyD) : LazyD := match z.pend with
  | [] => z
  | p :: r => dropF ⟨z.cells.set p.toNat free0, r⟩ (nth z.cells p).fields
def settleN : Nat → LazyD → LazyD
  | 0, z => z
  | n + 1, z => settleN n (settle1 z)
def trimN (h : List CellD) (pend : List Int) : Nat → Nat
  | 0 => 0
  | n + 1 => if (nth h (n : Int)).count = 0 ∧ (n : Int) ∉ pend then trimN h pend n else n + 1
def trimZ (z : LazyD) : LazyD := ⟨z.cells.take (trimN z.cells z.pend z.cells.length), z.pend⟩
def settleL (n : Nat) (z : LazyD) : LazyD := trimZ (settleN n z)
def nlive (h : List CellD) : Nat := h.countP fun c => decide (0 < c.count)
def nf (z : LazyD) : Nat := nlive z.cells + z.pend.length

theorem nth_ext {h h' : List CellD} (hl : h.length = h'.length) (hn : ∀ k : Int, 0 ≤ k → k < h.length → nth h k = nth h' k) : h = h' := by
  apply List.ext_getElem hl
  intro i h1 h2
  rw [← nth_nat (l := h) h1, ← nth_nat (l := h') h2]
  exact hn i (by omega) (by omega)
theorem words_set {h : List CellD} {k : Int} {c : CellD} (h0 : 0 ≤ k) (h1 : k < h.length) (i : Int) : cntF (words (h.set k.toNat c)) i + cntF (nth h k).fields i = cntF (words h) i + cntF c.fields i := by
  have hlt : k.toNat < h.length := by omega
  have e : nth h k = h[k.toNat] := nth_of (by simp [hlt])
  have h2 : h = h.take k.toNat ++ h[k.toNat] :: h.drop (k.toNat + 1) := by rw [List.getElem_cons_drop hlt, List.take_append_drop]
  have h3 : h.set k.toNat c = h.take k.toNat ++ c :: h.drop (k.toNat + 1) := List.set_eq_take_append_cons_drop .. |>.trans (by rw [if_pos hlt])
  have e1 : cntF (words h) i = cntF (words (h.take k.toNat)) i + (cntF (h[k.toNat]).fields i + cntF (words (h.drop (k.toNat + 1))) i) := by
    conv => lhs; rw [h2]
    simp only [words, List.flatMap_append, List.flatMap_cons, cntF_append]
  have e2 : cntF (words (h.set k.toNat c)) i = cntF (words (h.take k.toNat)) i + (cntF c.fields i + cntF (words (h.drop (k.toNat + 1))) i) := by
    rw [h3]; simp only [words, List.flatMap_append, List.flatMap_cons, cntF_append]
  rw [e]; omega
theorem nlive_set {h : List CellD} {k : Int} {c : CellD} (h0 : 0 ≤ k) (h1 : k < h.length) : nlive (h.set k.toNat c) + (if 0 < (nth h k).count then 1 else 0) = nlive h + (if 0 < c.count then 1 else 0) := by
  have hlt : k.toNat < h.length := by omega
  have e : nth h k = h[k.toNat] := nth_of (by simp [hlt])
  have h2 : h = h.take k.toNat ++ h[k.toNat] :: h.drop (k.toNat + 1) := by rw [List.getElem_cons_drop hlt, List.take_append_drop]
  have h3 : h.set k.toNat c = h.take k.toNat ++ c :: h.drop (k.toNat + 1) := List.set_eq_take_append_cons_drop .. |>.trans (by rw [if_pos hlt])
  have e1 : nlive h = nlive (h.take k.toNat) + (nlive (h.drop (k.toNat + 1)) + if 0 < (h[k.toNat]).count then 1 else 0) := by
    conv => lhs; rw [h2]
    simp only [nlive, List.countP_append, List.countP_cons, decide_eq_true_eq]
  have e2 : nlive (h.set k.toNat c) = nlive (h.take k.toNat) + (nlive (h.drop (k.toNat + 1)) + if 0 < c.count then 1 else 0) := by
    rw [h3]; simp only [nlive, List.countP_append, List.countP_cons, decide_eq_true_eq]
  rw [e]; omega

section
variable {h : List CellD} {pend todo r : List Int} {f p : Int}

theorem LZ.skip (L : LZ h pend (f :: todo)) (hf : ¬ 1000 ≤ f) : LZ h pend todo :=
  ⟨L.pr, L.pn, L.cell, L.free, L.ptr, fun g hg => L.ptrT g (List.mem_cons_of_mem _ hg), fun k k0 k1 hc => by
    have := L.cnt k k0 k1 hc
    rw [cntF_cons, if_neg (by omega)] at this
    omega, L.acyc⟩

theorem LZ.head (L : LZ h pend (f :: todo)) (hf : 1000 ≤ f) : live h f = true := word_ptr (L.ptrT f List.mem_cons_self) hf

theorem LZ.lower (L : LZ h pend (f :: todo)) (hf : 1000 ≤ f) : LZ (lowerZ ⟨h, pend⟩ (f - 1000)).cells (lowerZ ⟨h, pend⟩ (f - 1000)).pend todo := by
  obtain ⟨l1, l2, l3⟩ := live_iff.1 (L.head hf)
  have hk := L.cnt (f - 1000) (by omega) l2 l3
  rw [cntF_cons, if_pos (by omega)] at hk
  have h1 := cntF_nonneg (words h) (f - 1000)
  have h2 := cntF_nonneg todo (f - 1000)
  have hset : ∀ k : Int, 0 ≤ k → nth (h.set (f - 1000).toNat (decC (nth h (f - 1000)))) k = if k = f - 1000 then decC (nth h (f - 1000)) else nth h k := fun k k0 => nth_set _ _ _ _ (by omega) l2 k0
  have hm := L.cell _ (nth_mem (l := h) (i := f - 1000) (by omega) l2)
  have hnp : f - 1000 ∉ pend := fun hp => by have := (L.pr _ hp).2.2; omega
  have hfs : ∀ k : Int, 0 ≤ k → (nth (h.set (f - 1000).toNat (decC (nth h (f - 1000)))) k).fields = (nth h k).fields := fun k k0 => by
    rw [hset k k0]; split
    · rename_i e; rw [e]; rfl
    · rfl
  have hwd : ∀ i, cntF (words (h.set (f - 1000).toNat (decC (nth h (f - 1000))))) i = cntF (words h) i := fun i => by
    have := words_set (c := decC (nth h (f - 1000))) (h := h) (k := f - 1000) (by omega) l2 i
    have e : (decC (nth h (f - 1000))).fields = (nth h (f - 1000)).fields := rfl
    rw [e] at this; omega
  -- what is still pointed to stays live
  have hlv : ∀ g, word h g = true → 0 < cntF (words h) (g - 1000) + cntF todo (g - 1000) → word (h.set (f - 1000).toNat (decC (nth h (f - 1000)))) g = true := by
    intro g hw hpos
    rcases word_iff.1 hw with hi | hl
    · exact word_iff.2 (.inl hi)
    · obtain ⟨g1, g2, g3⟩ := live_iff.1 hl
      refine word_iff.2 (.inr (live_iff.2 ⟨g1, by simpa using g2, ?_⟩))
      rw [hset _ (by omega)]
      split
      · rename_i e
        rw [e] at hpos
        show 0 < (nth h (f - 1000)).count - 1
        omega
      · exact g3
  unfold lowerZ
  simp only
  refine ⟨fun p hp => ?_, ?_, fun c hc => ?_, fun k k0 k1 hc hn => ?_, fun c hc g hg => ?_, fun g hg => ?_, fun k k0 k1 hc => ?_, ?_⟩
  · have hp' : p ∈ pend ∨ ((nth h (f - 1000)).count - 1 = 0 ∧ p = f - 1000) := by
      split at hp
      · rename_i e
        rcases List.mem_append.1 hp with hp | hp
        · exact .inl hp
        · exact .inr ⟨e, List.mem_singleton.1 hp⟩
      · exact .inl hp
    rcases hp' with hp | ⟨e, rfl⟩
    · obtain ⟨p0, p1, p2⟩ := L.pr p hp
      refine ⟨p0, by simpa using p1, ?_⟩
      rw [hset p p0, if_neg (fun e : p = f - 1000 => hnp (e ▸ hp))]; exact p2
    · exact ⟨by omega, by simpa using l2, by rw [hset _ (by omega), if_pos rfl]; exact e⟩
  · split
    · exact List.nodup_append.2 ⟨L.pn, by simp, fun a ha b hb e => by rw [List.mem_singleton.1 hb] at e; subst e; exact hnp ha⟩
    · exact L.pn
  · rcases List.mem_or_eq_of_mem_set hc with hc | hc
    · exact L.cell c hc
    · rw [hc]; exact ⟨by show 0 ≤ (nth h (f - 1000)).count - 1; omega, by show (nth h (f - 1000)).count - 1 ≤ _; omega, hm.2.2⟩
  · rw [hset k k0] at hc ⊢
    simp only [List.length_set] at k1
    by_cases e : k = f - 1000
    · exfalso
      rw [if_pos e] at hc
      have hc' : (nth h (f - 1000)).count - 1 = 0 := hc
      rw [if_pos hc'] at hn
      exact hn (by simp [e])
    · rw [if_neg e] at hc ⊢
      refine L.free k k0 k1 hc fun hm => hn ?_
      split
      · exact List.mem_append_left _ hm
      · exact hm
  · obtain ⟨k, k0, k1, rfl⟩ := mem_nthI hc
    simp only [List.length_set] at k1
    rw [hfs k k0] at hg
    have hw := L.ptr _ (nth_mem k0 k1) g hg
    by_cases h1000 : 1000 ≤ g
    · refine hlv g hw ?_
      have := cntF_mem (mem_words.2 ⟨k, k0, k1, hg⟩) h1000
      have := cntF_nonneg todo (g - 1000)
      omega
    · rcases word_iff.1 hw with hi | hl
      · exact word_iff.2 (.inl hi)
      · exact absurd (live_iff.1 hl).1 h1000
  · have hw := L.ptrT g (List.mem_cons_of_mem _ hg)
    by_cases h1000 : 1000 ≤ g
    · refine hlv g hw ?_
      have := cntF_mem hg h1000
      have := cntF_nonneg (words h) (g - 1000)
      omega
    · rcases word_iff.1 hw with hi | hl
      · exact word_iff.2 (.inl hi)
      · exact absurd (live_iff.1 hl).1 h1000
  · simp only [List.length_set] at k1
    rw [hwd]
    rw [hset k k0] at hc ⊢
    by_cases e : k = f - 1000
    · rw [if_pos e] at hc ⊢
      rw [e]
      show _ ≤ (nth h (f - 1000)).count - 1
      omega
    · rw [if_neg e] at hc ⊢
      have := L.cnt k k0 k1 hc
      rw [cntF_cons, if_neg (by omega)] at this
      omega
  · obtain ⟨rk, hrk⟩ := L.acyc
    refine ⟨rk, fun k k0 k1 g hg h1000 => ?_⟩
    rw [hfs k k0] at hg
    exact hrk k k0 (by simpa using k1) g hg h1000

theorem nf_lower {z : LazyD} {k : Int} (h0 : 0 ≤ k) (h1 : k < z.cells.length) (hc : 0 < (nth z.cells k).count) : nf (lowerZ z k) = nf z := by
  have := nlive_set (c := decC (nth z.cells k)) h0 h1
  rw [if_pos hc] at this
  unfold nf lowerZ
  simp only
  by_cases e : (nth z.cells k).count - 1 = 0
  · rw [if_pos e]
    rw [if_neg (by show ¬ 0 < (nth z.cells k).count - 1; omega)] at this
    rw [List.length_append, List.length_singleton]; omega
  · rw [if_neg e]
    rw [if_pos (by show 0 < (nth z.cells k).count - 1; omega)] at this
    omega

theorem dropF_cons (z : LazyD) (f : Int) (r : List Int) : dropF z (f :: r) = dropF (if 1000 ≤ f then lowerZ z (f - 1000) else z) r := rfl
theorem dropF_snoc (z : LazyD) (f : Int) (r : List Int) : dropF z (r ++ [f]) = (if 1000 ≤ f then lowerZ (dropF z r) (f - 1000) else dropF z r) := by simp [dropF]
theorem LZ.dropF : ∀ (todo rest : List Int) {z : LazyD}, LZ z.cells z.pend (todo ++ rest) → LZ (dropF z todo).cells (dropF z todo).pend rest ∧ nf (Go.Vc.dropF z todo) = nf z ∧ (Go.Vc.dropF z todo).cells.length = z.cells.length ∧ z.pend <+: (Go.Vc.dropF z todo).pend
  | [], rest, z, L => ⟨L, rfl, rfl, List.prefix_rfl⟩
  | f :: r, rest, z, L => by
    rw [dropF_cons]
    by_cases hf : 1000 ≤ f
    · rw [if_pos hf]
      have hl := live_iff.1 (LZ.head (todo := r ++ rest) L hf)
      obtain ⟨h1, h2, h3, h4⟩ := LZ.dropF r rest (LZ.lower (todo := r ++ rest) L hf)
      refine ⟨h1, h2.trans (nf_lower (by omega) hl.2.1 hl.2.2), h3.trans (by simp [lowerZ]), List.IsPrefix.trans ?_ h4⟩
      unfold lowerZ
      simp only
      split
      · exact List.prefix_append _ _
      · exact List.prefix_rfl
    · rw [if_neg hf]
      exact LZ.dropF r rest (LZ.skip (todo := r ++ rest) L hf)

theorem LZ.pop (L : LZ h (p :: r) []) : LZ (h.set p.toNat free0) r (nth h p).fields := by
  obtain ⟨p0, p1, p2⟩ := L.pr p List.mem_cons_self
  have hset : ∀ k : Int, 0 ≤ k → nth (h.set p.toNat free0) k = if k = p then free0 else nth h k := fun k k0 => nth_set _ _ _ _ p0 p1 k0
  have hnr : p ∉ r := (List.nodup_cons.1 L.pn).1
  have hwd : ∀ i, cntF (words (h.set p.toNat free0)) i + cntF (nth h p).fields i = cntF (words h) i := fun i => by
    have := words_set (c := free0) (h := h) (k := p) p0 p1 i
    simpa [cntF] using this
  have hlv : ∀ g, word h g = true → word (h.set p.toNat free0) g = true := by
    intro g hw
    rcases word_iff.1 hw with hi | hl
    · exact word_iff.2 (.inl hi)
    · obtain ⟨g1, g2, g3⟩ := live_iff.1 hl
      refine word_iff.2 (.inr (live_iff.2 ⟨g1, by simpa using g2, ?_⟩))
      rw [hset _ (by omega), if_neg (fun e => by rw [e] at g3; omega)]; exact g3
  refine ⟨fun q hq => ?_, (List.nodup_cons.1 L.pn).2, fun c hc => ?_, fun k k0 k1 hc hn => ?_, fun c hc g hg => ?_, fun g hg => hlv g (L.ptr _ (nth_mem p0 p1) g hg), fun k k0 k1 hc => ?_, ?_⟩
  · obtain ⟨q0, q1, q2⟩ := L.pr q (List.mem_cons_of_mem _ hq)
    exact ⟨q0, by simpa using q1, by rw [hset q q0, if_neg (fun e : q = p => hnr (e ▸ hq))]; exact q2⟩
  · rcases List.mem_or_eq_of_mem_set hc with hc | hc
    · exact L.cell c hc
    · rw [hc]; simp
  · rw [hset k k0] at hc ⊢
    simp only [List.length_set] at k1
    by_cases e : k = p
    · rw [if_pos e]
    · rw [if_neg e] at hc ⊢
      exact L.free k k0 k1 hc (fun hm => by rcases List.mem_cons.1 hm with hm | hm; exact e hm; exact hn hm)
  · obtain ⟨k, k0, k1, rfl⟩ := mem_nthI hc
    simp only [List.length_set] at k1
    rw [hset k k0] at hg
    by_cases e : k = p
    · rw [if_pos e] at hg; cases hg
    · rw [if_neg e] at hg; exact hlv g (L.ptr _ (nth_mem k0 k1) g hg)
  · simp only [List.length_set] at k1
    rw [hset k k0] at hc ⊢
    by_cases e : k = p
    · rw [if_pos e] at hc; simp at hc
    · rw [if_neg e] at hc ⊢
      have := L.cnt k k0 k1 hc
      have := hwd k
      simp [cntF] at *; omega
  · obtain ⟨rk, hrk⟩ := L.acyc
    refine ⟨rk, fun k k0 k1 g hg h1000 => ?_⟩
    rw [hset k k0] at hg
    by_cases e : k = p
    · rw [if_pos e] at hg; cases hg
    · rw [if_neg e] at hg; exact hrk k k0 (by simpa using k1) g hg h1000

theorem LZ.settle1 {z : LazyD} (L : LZ z.cells z.pend []) : LZ (settle1 z).cells (settle1 z).pend [] ∧ (z.pend ≠ [] → nf (Go.Vc.settle1 z) + 1 = nf z) ∧ (Go.Vc.settle1 z).cells.length = z.cells.length ∧ z.pend.tail <+: (Go.Vc.settle1 z).pend := by
  obtain ⟨cells, pend⟩ := z
  cases pend with
  | nil => exact ⟨L, fun h => absurd rfl h, rfl, List.prefix_rfl⟩
  | cons p r =>
    have L1 := LZ.pop (h := cells) (p := p) (r := r) L
    obtain ⟨p0, p1, p2⟩ := L.pr p List.mem_cons_self
    obtain ⟨h1, h2, h3, h4⟩ := LZ.dropF (nth cells p).fields [] (z := ⟨cells.set p.toNat free0, r⟩) (by simpa using L1)
    refine ⟨h1, fun _ => ?_, h3.trans (by simp), h4⟩
    show nf (Go.Vc.dropF ⟨cells.set p.toNat free0, r⟩ (nth cells p).fields) + 1 = _
    rw [h2]
    have := nlive_set (h := cells) (c := free0) p0 p1
    have p2' : (nth cells p).count = 0 := p2
    rw [if_neg (by omega), if_neg (by simp)] at this
    simp only [nf, List.length_cons]
    omega
theorem LZ.settleN : ∀ (n : Nat) {z : LazyD}, LZ z.cells z.pend [] → LZ (settleN n z).cells (settleN n z).pend [] ∧ (Go.Vc.settleN n z).cells.length = z.cells.length ∧ (Go.Vc.settleN n z).pend.length ≤ nf z - n
  | 0, z, L => ⟨L, rfl, by simp [Go.Vc.settleN, nf]⟩
  | n + 1, z, L => by
    obtain ⟨h1, h2, h3, _⟩ := LZ.settle1 L
    obtain ⟨k1, k2, k3⟩ := LZ.settleN n h1
    refine ⟨k1, k2.trans h3, ?_⟩
    show (Go.Vc.settleN n (Go.Vc.settle1 z)).pend.length ≤ _
    by_cases e : z.pend = []
    · have e2 : Go.Vc.settle1 z = z := by unfold Go.Vc.settle1; rw [e]
      have e3 : ∀ m, Go.Vc.settleN m z = z := fun m => by
        induction m with
        | zero => rfl
        | succ m ih => show Go.Vc.settleN m (Go.Vc.settle1 z) = z; rw [e2]; exact ih
      rw [e2, e3, e]; simp
    · have := h2 e; omega
theorem settle1_nil {z : LazyD} (h : z.pend = []) : Go.Vc.settle1 z = z := by unfold Go.Vc.settle1; rw [h]
theorem settleN_nil {z : LazyD} (h : z.pend = []) (n : Nat) : Go.Vc.settleN n z = z := by
  induction n with
  | zero => rfl
  | succ n ih => show Go.Vc.settleN n (Go.Vc.settle1 z) = z; rw [settle1_nil h]; exact ih
theorem settleN_add (m n : Nat) (z : LazyD) : Go.Vc.settleN (m + n) z = Go.Vc.settleN n (Go.Vc.settleN m z) := by
  induction m generalizing z with
  | zero => rw [Nat.zero_add]; rfl
  | succ m ih => rw [show m + 1 + n = (m + n) + 1 from by omega]; exact ih (Go.Vc.settle1 z)
theorem settleN_succ' (n : Nat) (z : LazyD) : Go.Vc.settleN (n + 1) z = Go.Vc.settle1 (Go.Vc.settleN n z) := settleN_add n 1 z
end
end Go.Vc

namespace Go.Vc
open Go
set_option linter.all false

/-- z' is z with more free cells behind -/
structure Ext (z z' : LazyD) : Prop where
  cells : ∃ n, z'.cells = z.cells ++ List.replicate n free0
  pend : z'.pend = z.pend
  pin : ∀ p ∈ z.pend, 0 ≤ p ∧ p < z.cells.length

theorem nth_left {α : Type} [Inhabited α] {a b : List α} {k : Int} (h0 : 0 ≤ k) (h1 : k < a.length) : nth (a ++ b) k = nth a k := by
  unfold nth List.getD
  rw [List.getElem?_append_left (by omega)]
theorem nth_right {α : Type} [Inhabited α] {a b : List α} {k : Int} (h0 : (a.length : Int) ≤ k) : nth (a ++ b) k = nth b (k - a.length) := by
  unfold nth List.getD
  rw [List.getElem?_append_right (by omega), show k.toNat - a.length = (k - a.length).toNat from by omega]
theorem nth_free (n : Nat) (k : Int) : nth (List.replicate n free0) k = free0 := by
  unfold nth List.getD
  rw [List.getElem?_replicate]
  split <;> rfl

theorem trimN_le (h : List CellD) (pend : List Int) (n : Nat) : trimN h pend n ≤ n := by
  induction n with
  | zero => exact Nat.le_refl _
  | succ n ih => unfold trimN; split <;> omega
theorem trimN_free {h : List CellD} {pend : List Int} {n : Nat} {k : Int} (h0 : (trimN h pend n : Int) ≤ k) (h1 : k < n) : (nth h k).count = 0 ∧ k ∉ pend := by
  induction n with
  | zero => omega
  | succ n ih =>
    unfold trimN at h0
    split at h0
    · rename_i hc
      by_cases e : k = n
      · rw [e]; exact hc
      · exact ih h0 (by omega)
    · omega
theorem trimN_last {h : List CellD} {pend : List Int} {n : Nat} (hp : 0 < trimN h pend n) : (nth h ((trimN h pend n : Int) - 1)).count ≠ 0 ∨ ((trimN h pend n : Int) - 1) ∈ pend := by
  induction n with
  | zero => simp [trimN] at hp
  | succ n ih =>
    unfold trimN at hp ⊢
    by_cases hc : (nth h (n : Int)).count = 0 ∧ (n : Int) ∉ pend
    · rw [if_pos hc] at hp ⊢; exact ih hp
    · rw [if_neg hc]
      rw [show ((n + 1 : Nat) : Int) - 1 = n from by omega]
      by_cases e : (nth h (n : Int)).count = 0
      · exact .inr (Classical.byContradiction fun hn => hc ⟨e, hn⟩)
      · exact .inl e
theorem trimN_eq {h : List CellD} {pend : List Int} {n m : Nat} (hm : m ≤ n) (hf : ∀ k : Int, m ≤ k → k < n → (nth h k).count = 0 ∧ k ∉ pend) (hl : 0 < m → (nth h ((m : Int) - 1)).count ≠ 0 ∨ ((m : Int) - 1) ∈ pend) : trimN h pend n = m := by
  rcases Nat.lt_trichotomy (trimN h pend n) m with hlt | he | hgt
  · have := trimN_free (h := h) (pend := pend) (n := n) (k := (m : Int) - 1) (by omega) (by omega)
    rcases hl (by omega) with h1 | h1
    · exact absurd this.1 h1
    · exact absurd h1 this.2
  · exact he
  · have h1 := trimN_last (h := h) (pend := pend) (n := n) (by omega)
    have h2 := hf ((trimN h pend n : Int) - 1) (by omega) (by have := trimN_le h pend n; omega)
    rcases h1 with h1 | h1
    · exact absurd h2.1 h1
    · exact absurd h1 h2.2

theorem trim_ext {z : LazyD} (L : LZ z.cells z.pend []) : Ext (trimZ z) z := by
  have hle := trimN_le z.cells z.pend z.cells.length
  have hlen : (z.cells.take (trimN z.cells z.pend z.cells.length)).length = trimN z.cells z.pend z.cells.length := by simp; omega
  refine ⟨⟨z.cells.length - trimN z.cells z.pend z.cells.length, ?_⟩, rfl, fun p hp => ?_⟩
  · apply nth_ext
    · simp [trimZ]; omega
    · intro k k0 k1
      rcases Int.lt_or_le k (trimN z.cells z.pend z.cells.length) with hlt | hge
      · rw [nth_left k0 (by show k < ((z.cells.take _).length : Int); omega)]
        simp only [trimZ]
        unfold nth List.getD
        rw [List.getElem?_take, if_pos (by omega)]
      · rw [nth_right (by show ((z.cells.take _).length : Int) ≤ k; omega), nth_free]
        obtain ⟨h1, h2⟩ := trimN_free (h := z.cells) (pend := z.pend) (n := z.cells.length) (k := k) (by omega) (by omega)
        exact L.free k k0 k1 h1 h2
  · obtain ⟨p0, p1, p2⟩ := L.pr p hp
    refine ⟨p0, ?_⟩
    show p < ((z.cells.take _).length : Int)
    rw [hlen]
    rcases Int.lt_or_le p (trimN z.cells z.pend z.cells.length) with hlt | hge
    · exact hlt
    · exact absurd hp (trimN_free (h := z.cells) (pend := z.pend) (n := z.cells.length) (k := p) (by omega) (by omega)).2
theorem trim_last {z : LazyD} : lastZ (trimZ z).cells (trimZ z).pend := by
  have hle := trimN_le z.cells z.pend z.cells.length
  have hlen : (z.cells.take (trimN z.cells z.pend z.cells.length)).length = trimN z.cells z.pend z.cells.length := by simp; omega
  intro hp
  simp only [trimZ] at hp ⊢
  rw [hlen] at hp ⊢
  have := trimN_last (h := z.cells) (pend := z.pend) hp
  have e : nth (z.cells.take (trimN z.cells z.pend z.cells.length)) ((trimN z.cells z.pend z.cells.length : Int) - 1) = nth z.cells ((trimN z.cells z.pend z.cells.length : Int) - 1) := by
    unfold nth List.getD
    rw [List.getElem?_take, if_pos (by omega)]
  rw [e]; exact this

section
variable {z z' : LazyD}
theorem Ext.nth_ (E : Ext z z') {k : Int} (h0 : 0 ≤ k) (h1 : k < z.cells.length) : nth z'.cells k = nth z.cells k := by
  obtain ⟨n, e⟩ := E.cells
  rw [e, nth_left h0 h1]
theorem Ext.len (E : Ext z z') : z.cells.length ≤ z'.cells.length := by obtain ⟨n, e⟩ := E.cells; rw [e]; simp
theorem Ext.beyond (E : Ext z z') {k : Int} (h0 : (z.cells.length : Int) ≤ k) : nth z'.cells k = free0 := by
  obtain ⟨n, e⟩ := E.cells
  rw [e, nth_right h0, nth_free]
theorem words_free (a : List CellD) (n : Nat) : words (a ++ List.replicate n free0) = words a := by
  unfold words
  rw [List.flatMap_append]
  have : (List.replicate n free0).flatMap (·.fields) = [] := by
    induction n with
    | zero => rfl
    | succ n ih => rw [List.replicate_succ, List.flatMap_cons, ih]; rfl
  rw [this, List.append_nil]
theorem nlive_free (a : List CellD) (n : Nat) : nlive (a ++ List.replicate n free0) = nlive a := by
  unfold nlive
  rw [List.countP_append]
  have : (List.replicate n free0).countP (fun c => decide (0 < c.count)) = 0 := by
    rw [List.countP_eq_zero]; intro c hc; rw [List.eq_of_mem_replicate hc]; simp
  omega
theorem Ext.word_ (E : Ext z z') {f : Int} : word z'.cells f = word z.cells f := by
  apply Bool.eq_iff_iff.2
  rw [word_iff, word_iff, live_iff, live_iff]
  have hl := E.len
  constructor
  · rintro (h | ⟨h1, h2, h3⟩)
    · exact .inl h
    · right
      rcases Int.lt_or_le (f - 1000) z.cells.length with hlt | hge
      · rw [E.nth_ (by omega) hlt] at h3; exact ⟨h1, hlt, h3⟩
      · rw [E.beyond hge] at h3; simp at h3
  · rintro (h | ⟨h1, h2, h3⟩)
    · exact .inl h
    · exact .inr ⟨h1, by omega, by rw [E.nth_ (by omega) h2]; exact h3⟩
theorem Ext.nf (E : Ext z z') : nf z' = nf z := by
  obtain ⟨n, e⟩ := E.cells
  unfold Go.Vc.nf
  rw [e, E.pend, nlive_free]
/-- what is cut off was of no account -/
theorem Ext.lz (E : Ext z z') (L : LZ z'.cells z'.pend []) : LZ z.cells z.pend [] := by
  have hl := E.len
  have hn := fun k h0 h1 => E.nth_ (k := k) h0 h1
  have hmem : ∀ c ∈ z.cells, c ∈ z'.cells := fun c hc => by obtain ⟨n, e⟩ := E.cells; rw [e]; exact List.mem_append_left _ hc
  refine ⟨fun p hp => ?_, by rw [← E.pend]; exact L.pn, fun c hc => L.cell c (hmem c hc), fun k k0 k1 hc hnp => ?_, fun c hc f hf => by rw [← E.word_]; exact L.ptr c (hmem c hc) f hf, fun f hf => (by cases hf), fun k k0 k1 hc => ?_, ?_⟩
  · obtain ⟨p0, p1⟩ := E.pin p hp
    have := (L.pr p (by rw [E.pend]; exact hp)).2.2
    rw [hn p p0 p1] at this
    exact ⟨p0, p1, this⟩
  · rw [← hn k k0 k1] at hc ⊢
    exact L.free k k0 (by omega) hc (by rw [E.pend]; exact hnp)
  · rw [← hn k k0 k1] at hc ⊢
    have := L.cnt k k0 (by omega) hc
    obtain ⟨n, e⟩ := E.cells
    rw [e] at this
    rw [words_free] at this
    rw [e]; exact this
  · obtain ⟨rk, hrk⟩ := L.acyc
    exact ⟨rk, fun k k0 k1 f hf h1 => hrk k k0 (by omega) f (by rw [hn k k0 k1]; exact hf) h1⟩
theorem Ext.lower (E : Ext z z') {k : Int} (h0 : 0 ≤ k) (h1 : k < z.cells.length) : Ext (lowerZ z k) (lowerZ z' k) := by
  obtain ⟨n, e⟩ := E.cells
  have hn := E.nth_ h0 h1
  refine ⟨⟨n, ?_⟩, ?_, fun p hp => ?_⟩
  · unfold lowerZ
    simp only
    rw [hn, e, List.set_append_left _ _ (by omega)]
  · unfold lowerZ
    simp only
    rw [hn, E.pend]
  · unfold lowerZ at hp ⊢
    simp only [List.length_set] at hp ⊢
    split at hp
    · rcases List.mem_append.1 hp with hp | hp
      · exact E.pin p hp
      · rw [List.mem_singleton.1 hp]; exact ⟨h0, h1⟩
    · exact E.pin p hp
theorem Ext.dropF : ∀ (fs : List Int) {z z' : LazyD}, Ext z z' → (∀ f ∈ fs, 1000 ≤ f → f - 1000 < z.cells.length) → Ext (dropF z fs) (dropF z' fs)
  | [], _, _, E, _ => E
  | f :: r, z, z', E, hf => by
    rw [dropF_cons, dropF_cons]
    by_cases h1 : 1000 ≤ f
    · rw [if_pos h1, if_pos h1]
      exact Ext.dropF r (E.lower (by omega) (hf f List.mem_cons_self h1)) fun g hg h2 => by have := hf g (List.mem_cons_of_mem _ hg) h2; simpa [lowerZ] using this
    · rw [if_neg h1, if_neg h1]
      exact Ext.dropF r E fun g hg h2 => hf g (List.mem_cons_of_mem _ hg) h2
theorem Ext.settle1 (E : Ext z z') (L : LZ z.cells z.pend []) : Ext (settle1 z) (settle1 z') := by
  obtain ⟨cells, pend⟩ := z
  obtain ⟨cells', pend'⟩ := z'
  have hp : pend' = pend := E.pend
  subst hp
  cases pend' with
  | nil => exact E
  | cons p r =>
    obtain ⟨p0, p1⟩ := E.pin p List.mem_cons_self
    have hn := E.nth_ p0 p1
    simp only at hn p1
    obtain ⟨n, e⟩ := E.cells
    simp only at e
    show Ext (Go.Vc.dropF ⟨cells.set p.toNat free0, r⟩ (nth cells p).fields) (Go.Vc.dropF ⟨cells'.set p.toNat free0, r⟩ (nth cells' p).fields)
    rw [hn]
    refine Ext.dropF _ ⟨⟨n, ?_⟩, rfl, fun q hq => ?_⟩ fun f hf h1 => ?_
    · simp only
      rw [e, List.set_append_left _ _ (by omega)]
    · have := E.pin q (List.mem_cons_of_mem _ hq); simpa using this
    · have := word_ptr (L.ptr _ (nth_mem p0 p1) f hf) h1
      have := (live_iff.1 this).2.1
      simpa using this
theorem Ext.settleN (E : Ext z z') (L : LZ z.cells z.pend []) (n : Nat) : Ext (settleN n z) (settleN n z') := by
  induction n generalizing z z' with
  | zero => exact E
  | succ n ih => exact ih (E.settle1 L) (LZ.settle1 L).1
theorem Ext.trim (E : Ext z z') : trimZ z = trimZ z' := by
  have hl := E.len
  have hle := trimN_le z.cells z.pend z.cells.length
  have e : trimN z'.cells z'.pend z'.cells.length = trimN z.cells z.pend z.cells.length := by
    refine trimN_eq (by omega) (fun k k0 k1 => ?_) fun hp => ?_
    · rw [E.pend]
      rcases Int.lt_or_le k z.cells.length with hlt | hge
      · rw [E.nth_ (by omega) hlt]
        exact trimN_free k0 hlt
      · rw [E.beyond hge]
        exact ⟨rfl, fun hm => by have := E.pin k hm; omega⟩
    · have := trimN_last hp
      rw [E.pend, E.nth_ (by omega) (by omega)]
      exact this
  unfold trimZ
  rw [e, E.pend]
  obtain ⟨n, ec⟩ := E.cells
  rw [ec, List.take_append_of_le_length hle]
theorem trim_of_last (hl : lastZ z.cells z.pend) : trimZ z = z := by
  have : trimN z.cells z.pend z.cells.length = z.cells.length := trimN_eq (Nat.le_refl _) (fun k k0 k1 => by omega) hl
  unfold trimZ
  rw [this, List.take_length]
/-- settling, and settling again -/
theorem settle_again {z : LazyD} (L : LZ z.cells z.pend []) (m n : Nat) : settleL n (settleL m z) = settleL (m + n) z := by
  have L1 := (LZ.settleN m L).1
  have E := trim_ext L1
  have L2 := E.lz L1
  unfold settleL
  rw [settleN_add]
  exact (E.settleN L2 n).trim
theorem settle_valid {z : LazyD} (L : LZ z.cells z.pend []) (m : Nat) : vlazy (settleL m z) := by
  have L1 := (LZ.settleN m L).1
  exact vlazy_iff.2 ⟨(trim_ext L1).lz L1, trim_last⟩
theorem settle_all {z : LazyD} (L : LZ z.cells z.pend []) {m : Nat} (hm : nf z ≤ m) : settleL m z = settleL (nf z) z ∧ (settleL m z).pend = [] := by
  have h1 := (LZ.settleN (nf z) L).2.2
  have h2 : (settleN (nf z) z).pend = [] := List.eq_nil_of_length_eq_zero (by omega)
  have h3 : settleN m z = settleN (nf z) z := by
    rw [show m = nf z + (m - nf z) from by omega, settleN_add, settleN_nil h2]
  unfold settleL
  rw [h3]
  exact ⟨rfl, h2⟩
end
theorem nf_le {z : LazyD} (L : LZ z.cells z.pend []) : nf z ≤ z.cells.length := by
  -- the pending cells are among those that are not live
  unfold nf
  have h1 : z.pend.length ≤ z.cells.length - nlive z.cells := by
    have h2 : z.pend.length ≤ (((List.range z.cells.length).filter fun (k : Nat) => decide (¬ 0 < (nth z.cells (k : Int)).count)).map fun (k : Nat) => (k : Int)).length := by
      refine List.Nodup.length_le_of_subset L.pn fun p hp => ?_
      obtain ⟨p0, p1, p2⟩ := L.pr p hp
      refine List.mem_map.2 ⟨p.toNat, List.mem_filter.2 ⟨by simp; omega, ?_⟩, by omega⟩
      rw [Int.toNat_of_nonneg p0]; simp; omega
    have h3 : ∀ n : Nat, n ≤ z.cells.length → ((List.range n).filter fun (k : Nat) => decide (¬ 0 < (nth z.cells (k : Int)).count)).length + nlive (z.cells.take n) = n := by
      intro n
      induction n with
      | zero => intro _; simp [nlive]
      | succ n ih =>
        intro hn
        have ih := ih (by omega)
        have e := take_nth (l := z.cells) (i := (n : Int)) (by omega) (by omega)
        rw [show ((n : Int) + 1).toNat = n + 1 from by omega, show (n : Int).toNat = n from by omega] at e
        rw [e, List.range_succ, List.filter_append, List.length_append]
        unfold nlive at ih ⊢
        rw [List.countP_append, List.countP_singleton]
        simp only [List.filter_cons, List.filter_nil]
        by_cases hc : 0 < (nth z.cells (n : Int)).count
        · simp [hc]; simp at ih; omega
        · simp [hc]; simp at ih; omega
    have h4 := h3 z.cells.length (Nat.le_refl _)
    rw [List.take_length] at h4
    rw [List.length_map] at h2
    omega
  have h5 : nlive z.cells ≤ z.cells.length := List.countP_le_length
  omega
end Go.Vc

namespace Go.Vc
open Go
set_option linter.all false

def dropOk (z : LazyD) (n : Int) : Prop := vlazy z ∧ word z.cells n = true ∧ (1000 ≤ n → (nth z.cells (n - 1000)).count ≠ nth (refL (raiseL z.cells z.pend)) (n - 1000))
noncomputable def dropB (z : LazyD) (n : Int) : Bool := @decide (dropOk z n) (Classical.propDecidable _)
theorem dropB_iff {z : LazyD} {n : Int} : dropB z n = true ↔ dropOk z n := by unfold dropB; exact @decide_eq_true_iff _ (Classical.propDecidable _)
def dropZ (z : LazyD) (n : Int) : LazyD := if 1000 ≤ n then lowerZ z (n - 1000) else z
noncomputable def dropR (z : LazyD) (n : Int) : LazyD := bif dropB z n then dropZ z n else ⟨[], []⟩
theorem dropR_t {z : LazyD} {n : Int} (h : dropOk z n) : dropR z n = dropZ z n := by unfold dropR; rw [dropB_iff.2 h]; rfl
theorem dropB_f {z : LazyD} {n : Int} (h : ¬ dropOk z n) : dropB z n = false := Bool.eq_false_iff.2 fun e => h (dropB_iff.1 e)
theorem dropR_f {z : LazyD} {n : Int} (h : ¬ dropOk z n) : dropR z n = ⟨[], []⟩ := by unfold dropR; rw [dropB_f h]; rfl

theorem drop_lz {z : LazyD} {n : Int} (h : dropOk z n) (h1 : 1000 ≤ n) : LZ z.cells z.pend [n] := by
  obtain ⟨hv, hw, hne⟩ := h
  have hl := word_ptr hw h1
  obtain ⟨_, l2, l3⟩ := live_iff.1 hl
  have hp := hv.1.1
  have L := (vlazy_iff.1 hv).1
  have hnp : n - 1000 ∉ z.pend := fun hm => by have := (hp _ hm).2.2; omega
  have hr : nth (raiseL z.cells z.pend) (n - 1000) = nth z.cells (n - 1000) := by rw [nth_raise (fun p hp' => ⟨(hp p hp').1, (hp p hp').2.1⟩) (by omega) l2, if_neg hnp]
  have hlr : live (raiseL z.cells z.pend) (1000 + (n - 1000)) = true := live_iff.2 ⟨by omega, by rw [raiseL_length]; omega, by rw [show 1000 + (n - 1000) - 1000 = n - 1000 from by omega, hr]; exact l3⟩
  have hrefs : nth (refL (raiseL z.cells z.pend)) (n - 1000) = cntF (words z.cells) (n - 1000) := by
    rw [refL, nth_refsW (by omega) (by rw [raiseL_length]; omega), cnt_cntF _ (by omega) hlr, words_raise]
  refine { L with ptrT := fun f hf => by rw [List.mem_singleton.1 hf]; exact hw, cnt := fun k k0 k1 hc => ?_ }
  have h3 := L.cnt k k0 k1 hc
  have h0 : cntF [] k = 0 := by simp [cntF]
  rw [h0] at h3
  rw [cntF_cons, h0]
  split
  · rename_i e
    have e2 : n - 1000 = k := by omega
    have := hne h1
    rw [hrefs, e2] at this
    omega
  · omega

theorem drop_valid {z : LazyD} {n : Int} (h : dropOk z n) : vlazy (dropZ z n) := by
  unfold dropZ
  split
  · rename_i h1
    have L := LZ.lower (drop_lz h h1) h1
    have hl := word_ptr h.2.1 h1
    obtain ⟨_, l2, l3⟩ := live_iff.1 hl
    refine vlazy_iff.2 ⟨L, fun hpos => ?_⟩
    have hlast := (vlazy_iff.1 h.1).2
    unfold lowerZ at hpos ⊢
    simp only [List.length_set] at hpos ⊢
    rw [nth_set _ _ _ _ (by omega) l2 (by omega)]
    by_cases e : (z.cells.length : Int) - 1 = n - 1000
    · rw [if_pos e]
      by_cases e2 : (nth z.cells (n - 1000)).count - 1 = 0
      · rw [if_pos e2]; exact .inr (by rw [e]; simp)
      · exact .inl e2
    · rw [if_neg e]
      rcases hlast hpos with h2 | h2
      · exact .inl h2
      · refine .inr ?_
        split
        · exact List.mem_append_left _ h2
        · exact h2
  · exact h.1
theorem dropZ_len (z : LazyD) (n : Int) : (dropZ z n).cells.length = z.cells.length := by unfold dropZ lowerZ; split <;> simp
theorem pend_len' {z : LazyD} {todo : List Int} (L : LZ z.cells z.pend todo) : z.pend.length ≤ z.cells.length := by
  have := List.Nodup.length_le_of_subset (l₁ := z.pend) (l₂ := (List.range z.cells.length).map (fun (k : Nat) => (k : Int))) L.pn (fun p hp => by
    have := L.pr p hp
    exact List.mem_map.2 ⟨p.toNat, by simp; omega, by omega⟩)
  simpa using this
end Go.Vc
