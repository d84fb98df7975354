/- Giving up a reference, settling, trimming. -/
import Derived.Test.YtmmkfmmcmjpcgaaBLz
namespace Go.Vc
open Go
set_option linter.all false

def decC (c : CellD) : CellD := ⟨c.count - 1, c.tag, c.fields⟩
def lowerZ (z : LazyD) (k : Int) : LazyD := ⟨z.cells.set k.toNat (decC (nth z.cells k)), if (nth z.cells k).count - 1 = 0 then z.pend ++ [k] else z.pend⟩
def dropF (z : LazyD) (fs : List Int) : LazyD := fs.foldl (fun z f => if 1000 ≤ f then lowerZ z (f - 1000) else z) z
def settle1 (z : LazyD) : LazyD := match z.pend with
  | [] => z
  | p :: r => dropF ⟨z.cells.set p.toNat free0, r⟩ (nth z.cells p).fields
def settleN : Nat → LazyD → LazyD
  | 0, z => z
  | n + 1, z => settleN n (settle1 z)
def trimN (h : List CellD) (pend : List Int) : Nat → Nat
  | 0 => 0
  | n + 1 => if (nth h (n : Int)).count = 0 ∧ (n : Int) ∉ pend then trimN h pend n else n + 1
def trimZ (z : LazyD) : LazyD := ⟨z.cells.take (trimN z.cells z.pend z.cells.length), z.pend⟩
def settleL (n : Nat) (z : LazyD) : LazyD := trimZ (settleN n z)
def nlive (h : List CellD) : Nat := h.countP fun c => decide (0 < c.count)
def nf (z : LazyD) : Nat := nlive z.cells + z.pend.length

theorem nth_ext {h h' : List CellD} (hl : h.length = h'.length) (hn : ∀ k : Int, 0 ≤ k → k < h.length → nth h k = nth h' k) : h = h' := by
  apply List.ext_getElem hl
  intro i h1 h2
  rw [← nth_nat (l := h) h1, ← nth_nat (l := h') h2]
  exact hn i (by omega) (by omega)
theorem words_set {h : List CellD} {k : Int} {c : CellD} (h0 : 0 ≤ k) (h1 : k < h.length) (i : Int) : cntF (words (h.set k.toNat c)) i + cntF (nth h k).fields i = cntF (words h) i + cntF c.fields i := by
  have hlt : k.toNat < h.length := by omega
  have e : nth h k = h[k.toNat] := nth_of (by simp [hlt])
  have h2 : h = h.take k.toNat ++ h[k.toNat] :: h.drop (k.toNat + 1) := by rw [List.getElem_cons_drop hlt, List.take_append_drop]
  have h3 : h.set k.toNat c = h.take k.toNat ++ c :: h.drop (k.toNat + 1) := List.set_eq_take_append_cons_drop .. |>.trans (by rw [if_pos hlt])
  have e1 : cntF (words h) i = cntF (words (h.take k.toNat)) i + (cntF (h[k.toNat]).fields i + cntF (words (h.drop (k.toNat + 1))) i) := by
    conv => lhs; rw [h2]
    simp only [words, List.flatMap_append, List.flatMap_cons, cntF_append]
  have e2 : cntF (words (h.set k.toNat c)) i = cntF (words (h.take k.toNat)) i + (cntF c.fields i + cntF (words (h.drop (k.toNat + 1))) i) := by
    rw [h3]; simp only [words, List.flatMap_append, List.flatMap_cons, cntF_append]
  rw [e]; omega
theorem nlive_set {h : List CellD} {k : Int} {c : CellD} (h0 : 0 ≤ k) (h1 : k < h.length) : nlive (h.set k.toNat c) + (if 0 < (nth h k).count then 1 else 0) = nlive h + (if 0 < c.count then 1 else 0) := by
  have hlt : k.toNat < h.length := by omega
  have e : nth h k = h[k.toNat] := nth_of (by simp [hlt])
  have h2 : h = h.take k.toNat ++ h[k.toNat] :: h.drop (k.toNat + 1) := by rw [List.getElem_cons_drop hlt, List.take_append_drop]
  have h3 : h.set k.toNat c = h.take k.toNat ++ c :: h.drop (k.toNat + 1) := List.set_eq_take_append_cons_drop .. |>.trans (by rw [if_pos hlt])
  have e1 : nlive h = nlive (h.take k.toNat) + (nlive (h.drop (k.toNat + 1)) + if 0 < (h[k.toNat]).count then 1 else 0) := by
    conv => lhs; rw [h2]
    simp only [nlive, List.countP_append, List.countP_cons, decide_eq_true_eq]
  have e2 : nlive (h.set k.toNat c) = nlive (h.take k.toNat) + (nlive (h.drop (k.toNat + 1)) + if 0 < c.count then 1 else 0) := by
    rw [h3]; simp only [nlive, List.countP_append, List.countP_cons, decide_eq_true_eq]
  rw [e]; omega

section
variable {h : List CellD} {pend todo r : List Int} {f p : Int}

theorem LZ.skip (L : LZ h pend (f :: todo)) (hf : ¬ 1000 ≤ f) : LZ h pend todo :=
  ⟨L.pr, L.pn, L.cell, L.free, L.ptr, fun g hg => L.ptrT g (List.mem_cons_of_mem _ hg), fun k k0 k1 hc => by
    have := L.cnt k k0 k1 hc
    rw [cntF_cons, if_neg (by omega)] at this
    omega, L.acyc⟩

theorem LZ.head (L : LZ h pend (f :: todo)) (hf : 1000 ≤ f) : live h f = true := word_ptr (L.ptrT f List.mem_cons_self) hf

theorem LZ.lower (L : LZ h pend (f :: todo)) (hf : 1000 ≤ f) : LZ (lowerZ ⟨h, pend⟩ (f - 1000)).cells (lowerZ ⟨h, pend⟩ (f - 1000)).pend todo := by
  obtain ⟨l1, l2, l3⟩ := live_iff.1 (L.head hf)
  have hk := L.cnt (f - 1000) (by omega) l2 l3
  rw [cntF_cons, if_pos (by omega)] at hk
  have h1 := cntF_nonneg (words h) (f - 1000)
  have h2 := cntF_nonneg todo (f - 1000)
  have hset : ∀ k : Int, 0 ≤ k → nth (h.set (f - 1000).toNat (decC (nth h (f - 1000)))) k = if k = f - 1000 then decC (nth h (f - 1000)) else nth h k := fun k k0 => nth_set _ _ _ _ (by omega) l2 k0
  have hm := L.cell _ (nth_mem (l := h) (i := f - 1000) (by omega) l2)
  have hnp : f - 1000 ∉ pend := fun hp => by have := (L.pr _ hp).2.2; omega
  have hfs : ∀ k : Int, 0 ≤ k → (nth (h.set (f - 1000).toNat (decC (nth h (f - 1000)))) k).fields = (nth h k).fields := fun k k0 => by
    rw [hset k k0]; split
    · rename_i e; rw [e]; rfl
    · rfl
  have hwd : ∀ i, cntF (words (h.set (f - 1000).toNat (decC (nth h (f - 1000))))) i = cntF (words h) i := fun i => by
    have := words_set (c := decC (nth h (f - 1000))) (h := h) (k := f - 1000) (by omega) l2 i
    have e : (decC (nth h (f - 1000))).fields = (nth h (f - 1000)).fields := rfl
    rw [e] at this; omega
  -- what is still pointed to stays live
  have hlv : ∀ g, word h g = true → 0 < cntF (words h) (g - 1000) + cntF todo (g - 1000) → word (h.set (f - 1000).toNat (decC (nth h (f - 1000)))) g = true := by
    intro g hw hpos
    rcases word_iff.1 hw with hi | hl
    · exact word_iff.2 (.inl hi)
    · obtain ⟨g1, g2, g3⟩ := live_iff.1 hl
      refine word_iff.2 (.inr (live_iff.2 ⟨g1, by simpa using g2, ?_⟩))
      rw [hset _ (by omega)]
      split
      · rename_i e
        rw [e] at hpos
        show 0 < (nth h (f - 1000)).count - 1
        omega
      · exact g3
  unfold lowerZ
  simp only
  refine ⟨fun p hp => ?_, ?_, fun c hc => ?_, fun k k0 k1 hc hn => ?_, fun c hc g hg => ?_, fun g hg => ?_, fun k k0 k1 hc => ?_, ?_⟩
  · have hp' : p ∈ pend ∨ ((nth h (f - 1000)).count - 1 = 0 ∧ p = f - 1000) := by
      split at hp
      · rename_i e
        rcases List.mem_append.1 hp with hp | hp
        · exact .inl hp
        · exact .inr ⟨e, List.mem_singleton.1 hp⟩
      · exact .inl hp
    rcases hp' with hp | ⟨e, rfl⟩
    · obtain ⟨p0, p1, p2⟩ := L.pr p hp
      refine ⟨p0, by simpa using p1, ?_⟩
      rw [hset p p0, if_neg (fun e : p = f - 1000 => hnp (e ▸ hp))]; exact p2
    · exact ⟨by omega, by simpa using l2, by rw [hset _ (by omega), if_pos rfl]; exact e⟩
  · split
    · exact List.nodup_append.2 ⟨L.pn, by simp, fun a ha b hb e => by rw [List.mem_singleton.1 hb] at e; subst e; exact hnp ha⟩
    · exact L.pn
  · rcases List.mem_or_eq_of_mem_set hc with hc | hc
    · exact L.cell c hc
    · rw [hc]; exact ⟨by show 0 ≤ (nth h (f - 1000)).count - 1; omega, by show (nth h (f - 1000)).count - 1 ≤ _; omega, hm.2.2⟩
  · rw [hset k k0] at hc ⊢
    simp only [List.length_set] at k1
    by_cases e : k = f - 1000
    · exfalso
      rw [if_pos e] at hc
      have hc' : (nth h (f - 1000)).count - 1 = 0 := hc
      rw [if_pos hc'] at hn
      exact hn (by simp [e])
    · rw [if_neg e] at hc ⊢
      refine L.free k k0 k1 hc fun hm => hn ?_
      split
      · exact List.mem_append_left _ hm
      · exact hm
  · obtain ⟨k, k0, k1, rfl⟩ := mem_nthI hc
    simp only [List.length_set] at k1
    rw [hfs k k0] at hg
    have hw := L.ptr _ (nth_mem k0 k1) g hg
    by_cases h1000 : 1000 ≤ g
    · refine hlv g hw ?_
      have := cntF_mem (mem_words.2 ⟨k, k0, k1, hg⟩) h1000
      have := cntF_nonneg todo (g - 1000)
      omega
    · rcases word_iff.1 hw with hi | hl
      · exact word_iff.2 (.inl hi)
      · exact absurd (live_iff.1 hl).1 h1000
  · have hw := L.ptrT g (List.mem_cons_of_mem _ hg)
    by_cases h1000 : 1000 ≤ g
    · refine hlv g hw ?_
      have := cntF_mem hg h1000
      have := cntF_nonneg (words h) (g - 1000)
      omega
    · rcases word_iff.1 hw with hi | hl
      · exact word_iff.2 (.inl hi)
      · exact absurd (live_iff.1 hl).1 h1000
  · simp only [List.length_set] at k1
    rw [hwd]
    rw [hset k k0] at hc ⊢
    by_cases e : k = f - 1000
    · rw [if_pos e] at hc ⊢
      rw [e]
      show _ ≤ (nth h (f - 1000)).count - 1
      omega
    · rw [if_neg e] at hc ⊢
      have := L.cnt k k0 k1 hc
      rw [cntF_cons, if_neg (by omega)] at this
      omega
  · obtain ⟨rk, hrk⟩ := L.acyc
    refine ⟨rk, fun k k0 k1 g hg h1000 => ?_⟩
    rw [hfs k k0] at hg
    exact hrk k k0 (by simpa using k1) g hg h1000

theorem nf_lower {z : LazyD} {k : Int} (h0 : 0 ≤ k) (h1 : k < z.cells.length) (hc : 0 < (nth z.cells k).count) : nf (lowerZ z k) = nf z := by
  have := nlive_set (c := decC (nth z.cells k)) h0 h1
  rw [if_pos hc] at this
  unfold nf lowerZ
  simp only
  by_cases e : (nth z.cells k).count - 1 = 0
  · rw [if_pos e]
    rw [if_neg (by show ¬ 0 < (nth z.cells k).count - 1; omega)] at this
    rw [List.length_append, List.length_singleton]; omega
  · rw [if_neg e]
    rw [if_pos (by show 0 < (nth z.cells k).count - 1; omega)] at this
    omega

theorem dropF_cons (z : LazyD) (f : Int) (r : List Int) : dropF z (f :: r) = dropF (if 1000 ≤ f then lowerZ z (f - 1000) else z) r := rfl
theorem dropF_snoc (z : LazyD) (f : Int) (r : List Int) : dropF z (r ++ [f]) = (if 1000 ≤ f then lowerZ (dropF z r) (f - 1000) else dropF z r) := by simp [dropF]
theorem LZ.dropF : ∀ (todo rest : List Int) {z : LazyD}, LZ z.cells z.pend (todo ++ rest) → LZ (dropF z todo).cells (dropF z todo).pend rest ∧ nf (Go.Vc.dropF z todo) = nf z ∧ (Go.Vc.dropF z todo).cells.length = z.cells.length ∧ z.pend <+: (Go.Vc.dropF z todo).pend
  | [], rest, z, L => ⟨L, rfl, rfl, List.prefix_rfl⟩
  | f :: r, rest, z, L => by
    rw [dropF_cons]
    by_cases hf : 1000 ≤ f
    · rw [if_pos hf]
      have hl := live_iff.1 (LZ.head (todo := r ++ rest) L hf)
      obtain ⟨h1, h2, h3, h4⟩ := LZ.dropF r rest (LZ.lower (todo := r ++ rest) L hf)
      refine ⟨h1, h2.trans (nf_lower (by omega) hl.2.1 hl.2.2), h3.trans (by simp [lowerZ]), List.IsPrefix.trans ?_ h4⟩
      unfold lowerZ
      simp only
      split
      · exact List.prefix_append _ _
      · exact List.prefix_rfl
    · rw [if_neg hf]
      exact LZ.dropF r rest (LZ.skip (todo := r ++ rest) L hf)

theorem LZ.pop (L : LZ h (p :: r) []) : LZ (h.set p.toNat free0) r (nth h p).fields := by
  obtain ⟨p0, p1, p2⟩ := L.pr p List.mem_cons_self
  have hset : ∀ k : Int, 0 ≤ k → nth (h.set p.toNat free0) k = if k = p then free0 else nth h k := fun k k0 => nth_set _ _ _ _ p0 p1 k0
  have hnr : p ∉ r := (List.nodup_cons.1 L.pn).1
  have hwd : ∀ i, cntF (words (h.set p.toNat free0)) i + cntF (nth h p).fields i = cntF (words h) i := fun i => by
    have := words_set (c := free0) (h := h) (k := p) p0 p1 i
    simpa [cntF] using this
  have hlv : ∀ g, word h g = true → word (h.set p.toNat free0) g = true := by
    intro g hw
    rcases word_iff.1 hw with hi | hl
    · exact word_iff.2 (.inl hi)
    · obtain ⟨g1, g2, g3⟩ := live_iff.1 hl
      refine word_iff.2 (.inr (live_iff.2 ⟨g1, by simpa using g2, ?_⟩))
      rw [hset _ (by omega), if_neg (fun e => by rw [e] at g3; omega)]; exact g3
  refine ⟨fun q hq => ?_, (List.nodup_cons.1 L.pn).2, fun c hc => ?_, fun k k0 k1 hc hn => ?_, fun c hc g hg => ?_, fun g hg => hlv g (L.ptr _ (nth_mem p0 p1) g hg), fun k k0 k1 hc => ?_, ?_⟩
  · obtain ⟨q0, q1, q2⟩ := L.pr q (List.mem_cons_of_mem _ hq)
    exact ⟨q0, by simpa using q1, by rw [hset q q0, if_neg (fun e : q = p => hnr (e ▸ hq))]; exact q2⟩
  · rcases List.mem_or_eq_of_mem_set hc with hc | hc
    · exact L.cell c hc
    · rw [hc]; simp
  · rw [hset k k0] at hc ⊢
    simp only [List.length_set] at k1
    by_cases e : k = p
    · rw [if_pos e]
    · rw [if_neg e] at hc ⊢
      exact L.free k k0 k1 hc (fun hm => by rcases List.mem_cons.1 hm with hm | hm; exact e hm; exact hn hm)
  · obtain ⟨k, k0, k1, rfl⟩ := mem_nthI hc
    simp only [List.length_set] at k1
    rw [hset k k0] at hg
    by_cases e : k = p
    · rw [if_pos e] at hg; cases hg
    · rw [if_neg e] at hg; exact hlv g (L.ptr _ (nth_mem k0 k1) g hg)
  · simp only [List.length_set] at k1
    rw [hset k k0] at hc ⊢
    by_cases e : k = p
    · rw [if_pos e] at hc; simp at hc
    · rw [if_neg e] at hc ⊢
      have := L.cnt k k0 k1 hc
      have := hwd k
      simp [cntF] at *; omega
  · obtain ⟨rk, hrk⟩ := L.acyc
    refine ⟨rk, fun k k0 k1 g hg h1000 => ?_⟩
    rw [hset k k0] at hg
    by_cases e : k = p
    · rw [if_pos e] at hg; cases hg
    · rw [if_neg e] at hg; exact hrk k k0 (by simpa using k1) g hg h1000

theorem LZ.settle1 {z : LazyD} (L : LZ z.cells z.pend []) : LZ (settle1 z).cells (settle1 z).pend [] ∧ (z.pend ≠ [] → nf (Go.Vc.settle1 z) + 1 = nf z) ∧ (Go.Vc.settle1 z).cells.length = z.cells.length ∧ z.pend.tail <+: (Go.Vc.settle1 z).pend := by
  obtain ⟨cells, pend⟩ := z
  cases pend with
  | nil => exact ⟨L, fun h => absurd rfl h, rfl, List.prefix_rfl⟩
  | cons p r =>
    have L1 := LZ.pop (h := cells) (p := p) (r := r) L
    obtain ⟨p0, p1, p2⟩ := L.pr p List.mem_cons_self
    obtain ⟨h1, h2, h3, h4⟩ := LZ.dropF (nth cells p).fields [] (z := ⟨cells.set p.toNat free0, r⟩) (by simpa using L1)
    refine ⟨h1, fun _ => ?_, h3.trans (by simp), h4⟩
    show nf (Go.Vc.dropF ⟨cells.set p.toNat free0, r⟩ (nth cells p).fields) + 1 = _
    rw [h2]
    have := nlive_set (h := cells) (c := free0) p0 p1
    have p2' : (nth cells p).count = 0 := p2
    rw [if_neg (by omega), if_neg (by simp)] at this
    simp only [nf, List.length_cons]
    omega
theorem LZ.settleN : ∀ (n : Nat) {z : LazyD}, LZ z.cells z.pend [] → LZ (settleN n z).cells (settleN n z).pend [] ∧ (Go.Vc.settleN n z).cells.length = z.cells.length ∧ (Go.Vc.settleN n z).pend.length ≤ nf z - n
  | 0, z, L => ⟨L, rfl, by simp [Go.Vc.settleN, nf]⟩
  | n + 1, z, L => by
    obtain ⟨h1, h2, h3, _⟩ := LZ.settle1 L
    obtain ⟨k1, k2, k3⟩ := LZ.settleN n h1
    refine ⟨k1, k2.trans h3, ?_⟩
    show (Go.Vc.settleN n (Go.Vc.settle1 z)).pend.length ≤ _
    by_cases e : z.pend = []
    · have e2 : Go.Vc.settle1 z = z := by unfold Go.Vc.settle1; rw [e]
      have e3 : ∀ m, Go.Vc.settleN m z = z := fun m => by
        induction m with
        | zero => rfl
        | succ m ih => show Go.Vc.settleN m (Go.Vc.settle1 z) = z; rw [e2]; exact ih
      rw [e2, e3, e]; simp
    · have := h2 e; omega
theorem settle1_nil {z : LazyD} (h : z.pend = []) : Go.Vc.settle1 z = z := by unfold Go.Vc.settle1; rw [h]
theorem settleN_nil {z : LazyD} (h : z.pend = []) (n : Nat) : Go.Vc.settleN n z = z := by
  induction n with
  | zero => rfl
  | succ n ih => show Go.Vc.settleN n (Go.Vc.settle1 z) = z; rw [settle1_nil h]; exact ih
theorem settleN_add (m n : Nat) (z : LazyD) : Go.Vc.settleN (m + n) z = Go.Vc.settleN n (Go.Vc.settleN m z) := by
  induction m generalizing z with
  | zero => rw [Nat.zero_add]; rfl
  | succ m ih => rw [show m + 1 + n = (m + n) + 1 from by omega]; exact ih (Go.Vc.settle1 z)
theorem settleN_succ' (n : Nat) (z : LazyD) : Go.Vc.settleN (n + 1) z = Go.Vc.settle1 (Go.Vc.settleN n z) := settleN_add n 1 z
end
end Go.Vc
