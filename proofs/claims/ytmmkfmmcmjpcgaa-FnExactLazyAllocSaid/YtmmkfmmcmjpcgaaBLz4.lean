/- Lazy heaps: dropping a word. -/
import Derived.Test.YtmmkfmmcmjpcgaaBLz3
namespace Go.Vc
open Go
set_option linter.all false

def dropOk (z : LazyD) (n : Int) : Prop := vlazy z ∧ word z.cells n = true ∧ (1000 ≤ n → (nth z.cells (n - 1000)).count ≠ nth (refL (raiseL z.cells z.pend)) (n - 1000))
noncomputable def dropB (z : LazyD) (n : Int) : Bool := @decide (dropOk z n) (Classical.propDecidable _)
theorem dropB_iff {z : LazyD} {n : Int} : dropB z n = true ↔ dropOk z n := by unfold dropB; exact @decide_eq_true_iff _ (Classical.propDecidable _)
def dropZ (z : LazyD) (n : Int) : LazyD := if 1000 ≤ n then lowerZ z (n - 1000) else z
noncomputable def dropR (z : LazyD) (n : Int) : LazyD := bif dropB z n then dropZ z n else ⟨[], []⟩
theorem dropR_t {z : LazyD} {n : Int} (h : dropOk z n) : dropR z n = dropZ z n := by unfold dropR; rw [dropB_iff.2 h]; rfl
theorem dropB_f {z : LazyD} {n : Int} (h : ¬ dropOk z n) : dropB z n = false := Bool.eq_false_iff.2 fun e => h (dropB_iff.1 e)
theorem dropR_f {z : LazyD} {n : Int} (h : ¬ dropOk z n) : dropR z n = ⟨[], []⟩ := by unfold dropR; rw [dropB_f h]; rfl

theorem drop_lz {z : LazyD} {n : Int} (h : dropOk z n) (h1 : 1000 ≤ n) : LZ z.cells z.pend [n] := by
  obtain ⟨hv, hw, hne⟩ := h
  have hl := word_ptr hw h1
  obtain ⟨_, l2, l3⟩ := live_iff.1 hl
  have hp := hv.1.1
  have L := (vlazy_iff.1 hv).1
  have hnp : n - 1000 ∉ z.pend := fun hm => by have := (hp _ hm).2.2; omega
  have hr : nth (raiseL z.cells z.pend) (n - 1000) = nth z.cells (n - 1000) := by rw [nth_raise (fun p hp' => ⟨(hp p hp').1, (hp p hp').2.1⟩) (by omega) l2, if_neg hnp]
  have hlr : live (raiseL z.cells z.pend) (1000 + (n - 1000)) = true := live_iff.2 ⟨by omega, by rw [raiseL_length]; omega, by rw [show 1000 + (n - 1000) - 1000 = n - 1000 from by omega, hr]; exact l3⟩
  have hrefs : nth (refL (raiseL z.cells z.pend)) (n - 1000) = cntF (words z.cells) (n - 1000) := by
    rw [refL, nth_refsW (by omega) (by rw [raiseL_length]; omega), cnt_cntF _ (by omega) hlr, words_raise]
  refine { L with ptrT := fun f hf => by rw [List.mem_singleton.1 hf]; exact hw, cnt := fun k k0 k1 hc => ?_ }
  have h3 := L.cnt k k0 k1 hc
  have h0 : cntF [] k = 0 := by simp [cntF]
  rw [h0] at h3
  rw [cntF_cons, h0]
  split
  · rename_i e
    have e2 : n - 1000 = k := by omega
    have := hne h1
    rw [hrefs, e2] at this
    omega
  · omega

theorem drop_valid {z : LazyD} {n : Int} (h : dropOk z n) : vlazy (dropZ z n) := by
  unfold dropZ
  split
  · rename_i h1
    have L := LZ.lower (drop_lz h h1) h1
    have hl := word_ptr h.2.1 h1
    obtain ⟨_, l2, l3⟩ := live_iff.1 hl
    refine vlazy_iff.2 ⟨L, fun hpos => ?_⟩
    have hlast := (vlazy_iff.1 h.1).2
    unfold lowerZ at hpos ⊢
    simp only [List.length_set] at hpos ⊢
    rw [nth_set _ _ _ _ (by omega) l2 (by omega)]
    by_cases e : (z.cells.length : Int) - 1 = n - 1000
    · rw [if_pos e]
      by_cases e2 : (nth z.cells (n - 1000)).count - 1 = 0
      · rw [if_pos e2]; exact .inr (by rw [e]; simp)
      · exact .inl e2
    · rw [if_neg e]
      rcases hlast hpos with h2 | h2
      · exact .inl h2
      · refine .inr ?_
        split
        · exact List.mem_append_left _ h2
        · exact h2
  · exact h.1
theorem dropZ_len (z : LazyD) (n : Int) : (dropZ z n).cells.length = z.cells.length := by unfold dropZ lowerZ; split <;> simp
theorem pend_len' {z : LazyD} {todo : List Int} (L : LZ z.cells z.pend todo) : z.pend.length ≤ z.cells.length := by
  have := List.Nodup.length_le_of_subset (l₁ := z.pend) (l₂ := (List.range z.cells.length).map (fun (k : Nat) => (k : Int))) L.pn (fun p hp => by
    have := L.pr p hp
    exact List.mem_map.2 ⟨p.toNat, by simp; omega, by omega⟩)
  simpa using this
end Go.Vc
