/- What words reach in a heap. -/
import Derived.Test.YtmmkfmmcmjpcgaaBVcDeep
namespace Go.Vc
open Go
set_option linter.all false

inductive Reach (h : List CellD) (ws : List Int) : Int → Prop where
  | base {f : Int} (hf : f ∈ ws) (hl : live h f = true) : Reach h ws (f - 1000)
  | step {k f : Int} (hk : Reach h ws k) (hf : f ∈ (nth h k).fields) (hl : live h f = true) : Reach h ws (f - 1000)
noncomputable def reachB (h : List CellD) (ws : List Int) : List Bool := (List.range h.length).map fun (k : Nat) => @decide (Reach h ws (k : Int)) (Classical.propDecidable _)
def idxL (s : List Bool) : List Int := ((List.range s.length).filter fun (k : Nat) => nth s (k : Int)).map fun (k : Nat) => (k : Int)
noncomputable def reachL (h : List CellD) (ws : List Int) : List Int := idxL (reachB h ws)

theorem Reach.range {h : List CellD} {ws : List Int} {k : Int} (hr : Reach h ws k) : 0 ≤ k ∧ k < h.length := by
  cases hr with
  | base hf hl => have := live_spec hl; omega
  | step _ hf hl => have := live_spec hl; omega
theorem Reach.union {h : List CellD} {ws : List Int} {k : Int} : Reach h ws k ↔ ∃ f ∈ ws, Reach h [f] k := by
  constructor
  · intro hr
    induction hr with
    | base hf hl => exact ⟨_, hf, .base (by simp) hl⟩
    | step _ hf hl ih => obtain ⟨g, hg, hr⟩ := ih; exact ⟨g, hg, .step hr hf hl⟩
  · rintro ⟨f, hf, hr⟩
    induction hr with
    | base hg hl => rw [List.mem_singleton.1 hg] at hl ⊢; exact .base hf hl
    | step _ hg hl ih => exact .step ih hg hl

theorem idxL_mem {s : List Bool} {k : Int} : k ∈ idxL s ↔ 0 ≤ k ∧ k < s.length ∧ nth s k = true := by
  unfold idxL
  simp only [List.mem_map, List.mem_filter, List.mem_range]
  constructor
  · rintro ⟨a, ⟨h1, h2⟩, rfl⟩; exact ⟨by omega, by omega, h2⟩
  · rintro ⟨h1, h2, h3⟩; exact ⟨k.toNat, ⟨by omega, by rw [Int.toNat_of_nonneg h1]; exact h3⟩, by omega⟩
theorem idxL_len (s : List Bool) : (idxL s).length ≤ s.length := by
  unfold idxL; rw [List.length_map]; have := List.length_filter_le (fun k : Nat => nth s (k : Int)) (List.range s.length); simpa using this
theorem reachB_len (h : List CellD) (ws : List Int) : (reachB h ws).length = h.length := by simp [reachB]
theorem nth_reachB {h : List CellD} {ws : List Int} {k : Int} (h0 : 0 ≤ k) (h1 : k < h.length) : nth (reachB h ws) k = true ↔ Reach h ws k := by
  have e : nth (reachB h ws) k = @decide (Reach h ws k) (Classical.propDecidable _) := by
    refine nth_of ?_
    have : k.toNat < h.length := by omega
    simp [reachB, this, Int.toNat_of_nonneg h0]
  rw [e]; exact @decide_eq_true_iff _ (Classical.propDecidable _)
theorem reachL_mem {h : List CellD} {ws : List Int} {k : Int} : k ∈ reachL h ws ↔ Reach h ws k := by
  unfold reachL
  rw [idxL_mem, reachB_len]
  constructor
  · rintro ⟨h0, h1, h2⟩; exact (nth_reachB h0 h1).1 h2
  · intro hr; obtain ⟨h0, h1⟩ := hr.range; exact ⟨h0, h1, (nth_reachB h0 h1).2 hr⟩
theorem eq_reachB {h : List CellD} {ws : List Int} {s : List Bool} (hl : s.length = h.length) (hs : ∀ k : Int, 0 ≤ k → k < h.length → (nth s k = true ↔ Reach h ws k)) : s = reachB h ws := by
  apply List.ext_getElem (by rw [hl, reachB_len])
  intro k h1 h2
  have e1 := nth_nat (l := s) h1
  have e2 := nth_nat (l := reachB h ws) h2
  rw [← e1, ← e2]
  apply Bool.eq_iff_iff.2
  rw [hs k (by omega) (by omega), nth_reachB (by omega) (by omega)]

def wtS (h : List CellD) (s : List Bool) : Nat := ((List.range h.length).map fun (k : Nat) => if nth s (k : Int) then 0 else (nth h (k : Int)).fields.length).sum
structure Dfs (h : List CellD) (ws : List Int) (s : List Bool) (todo : List Int) : Prop where
  ll : s.length = h.length
  seen : ∀ k : Int, 0 ≤ k → k < h.length → nth s k = true → Reach h ws k
  todo_ : ∀ f ∈ todo, live h f = true → Reach h ws (f - 1000)
  cl0 : ∀ f ∈ ws, live h f = true → nth s (f - 1000) = true ∨ f ∈ todo
  cl1 : ∀ k : Int, 0 ≤ k → k < h.length → nth s k = true → ∀ f ∈ (nth h k).fields, live h f = true → nth s (f - 1000) = true ∨ f ∈ todo

theorem Dfs.start {h : List CellD} {ws : List Int} : Dfs h ws (List.replicate h.length false) ws := by
  have hr : ∀ k : Int, 0 ≤ k → k < h.length → nth (List.replicate h.length false) k = false := fun k h0 h1 => nth_of (List.getElem?_replicate_of_lt (by omega))
  exact ⟨by simp, fun k h0 h1 hs => (by rw [hr k h0 h1] at hs; cases hs), fun f hf hl => .base hf hl, fun f hf _ => .inr hf, fun k h0 h1 hs => (by rw [hr k h0 h1] at hs; cases hs)⟩
theorem Dfs.skip {h : List CellD} {ws t : List Int} {s : List Bool} {f : Int} (D : Dfs h ws s (t ++ [f])) (hf : live h f = false ∨ nth s (f - 1000) = true) : Dfs h ws s t := by
  have key : ∀ g, live h g = true → nth s (g - 1000) = true ∨ g ∈ t ++ [f] → nth s (g - 1000) = true ∨ g ∈ t := by
    intro g hl hg
    rcases hg with hg | hg
    · exact .inl hg
    · rcases List.mem_append.1 hg with hg | hg
      · exact .inr hg
      · rw [List.mem_singleton.1 hg] at hl ⊢
        rcases hf with hf | hf
        · rw [hf] at hl; cases hl
        · exact .inl hf
  exact ⟨D.ll, D.seen, fun g hg hl => D.todo_ g (List.mem_append_left _ hg) hl, fun g hg hl => key g hl (D.cl0 g hg hl), fun k k0 k1 hs g hg hl => key g hl (D.cl1 k k0 k1 hs g hg hl)⟩
theorem Dfs.take {h : List CellD} {ws t : List Int} {s : List Bool} {f : Int} (D : Dfs h ws s (t ++ [f])) (hl : live h f = true) :
    Dfs h ws (s.set (f - 1000).toNat true) (t ++ (nth h (f - 1000)).fields) := by
  obtain ⟨p1, p2, p3⟩ := live_spec hl
  have hll := D.ll
  have hset : ∀ k : Int, 0 ≤ k → nth (s.set (f - 1000).toNat true) k = if k = f - 1000 then true else nth s k := fun k k0 => nth_set _ _ _ _ (by omega) (by omega) k0
  have hr := D.todo_ f (by simp) hl
  have key : ∀ g, live h g = true → nth s (g - 1000) = true ∨ g ∈ t ++ [f] → nth (s.set (f - 1000).toNat true) (g - 1000) = true ∨ g ∈ t ++ (nth h (f - 1000)).fields := by
    intro g hlg hg
    have := live_spec hlg
    rw [hset _ (by omega)]
    by_cases e : g - 1000 = f - 1000
    · rw [if_pos e]; exact .inl rfl
    · rw [if_neg e]
      rcases hg with hg | hg
      · exact .inl hg
      · rcases List.mem_append.1 hg with hg | hg
        · exact .inr (List.mem_append_left _ hg)
        · rw [List.mem_singleton.1 hg] at e; exact absurd rfl e
  refine ⟨by simpa using hll, fun k k0 k1 hs => ?_, fun g hg hlg => ?_, fun g hg hlg => key g hlg (D.cl0 g hg hlg), fun k k0 k1 hs g hg hlg => ?_⟩
  · rw [hset k k0] at hs
    by_cases e : k = f - 1000
    · rw [e]; exact hr
    · rw [if_neg e] at hs; exact D.seen k k0 k1 hs
  · rcases List.mem_append.1 hg with hg | hg
    · exact D.todo_ g (List.mem_append_left _ hg) hlg
    · exact .step hr hg hlg
  · rw [hset k k0] at hs
    by_cases e : k = f - 1000
    · rw [e] at hg; exact .inr (List.mem_append_right _ hg)
    · rw [if_neg e] at hs; exact key g hlg (D.cl1 k k0 k1 hs g hg hlg)
theorem Dfs.end_ {h : List CellD} {ws : List Int} {s : List Bool} (D : Dfs h ws s []) : s = reachB h ws := by
  refine eq_reachB D.ll fun k k0 k1 => ⟨D.seen k k0 k1, fun hr => ?_⟩
  induction hr with
  | base hf hl => rcases D.cl0 _ hf hl with h | h; exact h; cases h
  | step hk hf hl ih =>
    have hkr := hk.range
    rcases D.cl1 _ hkr.1 hkr.2 (ih hkr.1 hkr.2) _ hf hl with h | h; exact h; cases h

theorem wtS_take {h : List CellD} {s : List Bool} {k : Int} (h0 : 0 ≤ k) (h1 : k < h.length) (hl : s.length = h.length) (hs : nth s k = false) : wtS h s = wtS h (s.set k.toNat true) + (nth h k).fields.length := by
  unfold wtS
  have : ∀ n : Nat, n ≤ h.length → ((List.range n).map fun (j : Nat) => if nth s (j : Int) then 0 else (nth h (j : Int)).fields.length).sum = ((List.range n).map fun (j : Nat) => if nth (s.set k.toNat true) (j : Int) then 0 else (nth h (j : Int)).fields.length).sum + (if k < n then (nth h k).fields.length else 0) := by
    intro n
    induction n with
    | zero => intro _; simp; omega
    | succ n ih =>
      intro hn
      rw [List.range_succ, List.map_append, List.map_append, List.sum_append, List.sum_append, ih (by omega)]
      simp only [List.map_cons, List.map_nil, List.sum_cons, List.sum_nil, Nat.add_zero]
      rw [nth_set _ _ _ _ h0 (by omega) (by omega)]
      by_cases e : (n : Int) = k
      · subst e; rw [hs]; simp; intro h; omega
      · rw [if_neg e]
        by_cases e2 : k < (n : Int)
        · have a1 : (if k < (n : Int) then (nth h k).fields.length else 0) = (nth h k).fields.length := if_pos e2
          have a2 : (if k < ((n + 1 : Nat) : Int) then (nth h k).fields.length else 0) = (nth h k).fields.length := if_pos (by omega)
          rw [a1, a2]; omega
        · have a1 : (if k < (n : Int) then (nth h k).fields.length else 0) = 0 := if_neg e2
          have a2 : (if k < ((n + 1 : Nat) : Int) then (nth h k).fields.length else 0) = 0 := if_neg (by omega)
          rw [a1, a2]; omega
  rw [this h.length (Nat.le_refl _), if_pos h1]
theorem wtS_le {h : List CellD} (hf : ∀ c ∈ h, c.fields.length ≤ 3) (s : List Bool) : wtS h s ≤ 3 * h.length := by
  unfold wtS
  have : ∀ n : Nat, n ≤ h.length → ((List.range n).map fun (j : Nat) => if nth s (j : Int) then 0 else (nth h (j : Int)).fields.length).sum ≤ 3 * n := by
    intro n
    induction n with
    | zero => intro _; simp
    | succ n ih =>
      intro hn
      have h1 := ih (by omega)
      have h2 := hf _ (nth_mem (l := h) (i := (n : Int)) (by omega) (by omega))
      rw [List.range_succ, List.map_append, List.sum_append]
      simp only [List.map_cons, List.map_nil, List.sum_cons, List.sum_nil, Nat.add_zero]
      split <;> omega
  exact this _ (Nat.le_refl _)

theorem idxL_snoc {s : List Bool} {i : Int} (h0 : 0 ≤ i) (h1 : i < s.length) : idxL (s.take (i + 1).toNat) = idxL (s.take i.toNat) ++ (if nth s i then [i] else []) := by
  have key : ∀ n : Nat, n ≤ s.length → idxL (s.take n) = ((List.range n).filter fun (k : Nat) => nth s (k : Int)).map fun (k : Nat) => (k : Int) := by
    intro n hn
    unfold idxL
    rw [List.length_take, Nat.min_eq_left hn]
    congr 1
    apply List.filter_congr
    intro k hk
    have hk := List.mem_range.1 hk
    simp [nth, List.getD, List.getElem?_take, hk]
  rw [key _ (by omega), key _ (by omega), show (i + 1).toNat = i.toNat + 1 from by omega, List.range_succ, List.filter_append, List.map_append]
  congr 1
  simp only [List.filter_cons, List.filter_nil, Int.toNat_of_nonneg h0]
  split <;> simp [Int.toNat_of_nonneg h0]
end Go.Vc
