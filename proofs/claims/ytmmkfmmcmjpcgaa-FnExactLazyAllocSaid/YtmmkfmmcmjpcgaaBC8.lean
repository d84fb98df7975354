/- Part of the proofs about the heaps: a law is joined in the text whose name ends in W and the law. -/
import Derived.Test.YtmmkfmmcmjpcgaaBC7
namespace Go.Vc
open Go Go.Proofs Go.RowKit
set_option linter.all false
section
variable {u v w : World} {x y xf : Sl} {l m fs : List Int} {h : List CellD} {n k : Int} {a : Addr} {I J L R : Items} {F : Items → Items}

theorem vheap_words {h : List CellD} (hv : vheap h) : wordsOk h := fun c hc => vcell_word (hv.2.1 c hc)
theorem vheap_len {h : List CellD} (hv : vheap h) : ∀ c ∈ h, c.fields.length ≤ 3 := fun c hc => icell_len (vcell_i (hv.2.1 c hc))
theorem vheap_count {h : List CellD} (hv : vheap h) : ∀ c ∈ h, -1 ≤ c.count ∧ c.count ≤ 999999 := fun c hc => by
  have := hv.2.1 c hc
  simp only [vcell, icell, Bool.and_eq_true, decide_eq_true_eq] at this
  exact ⟨this.1.1.1.1.1.1.2, this.2⟩
theorem vheap_ptr {h : List CellD} (hv : vheap h) : ∀ c ∈ h, PtrIn h.length c.fields := fun c hc f hf hp => by
  have := word_ptr (vheap_words hv c hc f hf) hp
  exact (live_spec this).2.1

theorem c_specDropWord (hx : Read v x h) (hn : InI n) (hl : h.length ≤ 1000000000) :
    Mk Try.prog 108 #[x.val, .int .i64 n] v fun r J => ∃ y : Sl, ∃ q h', r = .tuple #[y.val, .bool q] ∧ OwnD y h' J ∧ (q = true → vheap h ∧ From h h') := by
  refine of108 _ _ _ _ ?_
  unfold vc108
  have bad : ∀ w I, St v w (I ++ []) → ∃ J, St v w J ∧ ∃ y : Sl, ∃ q h', Value.tuple #[.slice none 0 0, .bool false] = .tuple #[y.val, .bool q] ∧ OwnD y h' J ∧ (q = true → vheap h ∧ From h h') :=
    fun w I hS => ⟨I, by simpa using hS, ⟨none, 0, 0⟩, false, [], rfl, .nilE _, fun h => by cases h⟩
  refine ⟨_, c_validHeap hx, _, fun _ => c_isWord hx hn, fun hc => bad v [] (.refl v), fun hc => ?_⟩
  simp only [decide_eq_true_eq, decide_eq_false_iff_not, Bool.and_eq_true, Bool.and_eq_false_iff, Bool.or_eq_true, Bool.or_eq_false_iff, Bool.not_eq_true', Bool.not_eq_false', Bool.not_true, Bool.not_false, Bool.false_eq_true, Bool.true_eq_false, Int.not_lt, Int.not_le, ge_iff_le, gt_iff_lt, Bool.not_eq_eq_eq_not, Bool.true_or, Bool.or_true, Bool.false_or, Bool.or_false, Bool.true_and, Bool.and_true, false_or, or_false, true_and, and_true, Decidable.not_not] at hc
  have hv := vheapB_iff.1 hc.1
  have hw := hc.2
  have hpt : 1000 ≤ n → n - 1000 < h.length := fun hp => (live_spec (word_ptr hw hp)).2.1
  have tail : ∀ (w : World) (I : Items), St v w (I ++ []) → Trip Try.prog 96 #[x.val] w fun r17 w18 =>
            ∃ x19 : Sl, r17 = x19.val ∧
            StepT Try.prog (Instr.buildSlice 26 1 #[(0, (.int .i64 n))]) w18 fun r20 w21 =>
              ∃ x22 : Sl, r20 = x22.val ∧
              Trip Try.prog 114 #[x19.val, x22.val] w21 fun r23 w24 =>
                ∃ x25 : Sl, r23 = x25.val ∧ ∃ J, St v w24 J ∧ ∃ y : Sl, ∃ q h', Value.tuple #[x25.val, .bool true] = .tuple #[y.val, .bool q] ∧ OwnD y h' J ∧ (q = true → vheap h ∧ From h h') := by
    intro w I hS
    refine Mk.use (c_copyHeap hx) hS ?_
    rintro _ w2 J ⟨z, rfl, hO⟩ hS hsub
    refine ⟨_, rfl, ?_⟩
    refine St.build (α := Int) hS (by (repeat' (first | exact VsOf.nil | apply VsOf.cons | (apply VOf.int; first | assumption | (constructor <;> first | omega | (simp only [List.length_set, List.length_append, List.length_replicate, List.length_cons, List.length_nil, List.length_take, List.length_drop, List.length_map, List.length_singleton] at *; omega))) | exact VOf.bool | exact VOf.str))) rfl (by decide) ?_
    intro x3 w3 I3 hO3 hS hs
    refine ⟨_, rfl, ?_⟩
    refine Trip.mono' (c_dropWords hO hS (Own.read hO3 hS) (vheap_len hv) (fun c hc => (vheap_count hv c hc).1) (vheap_ptr hv) (fun f hf hp => ?_) hl (by simp)) ?_
    · rw [List.mem_singleton.1 hf] at hp ⊢; exact hpt hp
    rintro _ w4 ⟨z4, h4, I4, rfl, hO4, hS, hF⟩
    exact ⟨_, rfl, I4, hS.left, z4, true, h4, rfl, hO4, fun _ => ⟨hv, hF⟩⟩
  refine ⟨_, c_isPointer, n - 1000, fun hp => wrap_i64 (by simp only [decide_eq_true_eq, decide_eq_false_iff_not, Bool.and_eq_true, Bool.and_eq_false_iff, Bool.or_eq_true, Bool.or_eq_false_iff, Bool.not_eq_true', Bool.not_eq_false', Bool.not_true, Bool.not_false, Bool.false_eq_true, Bool.true_eq_false, Int.not_lt, Int.not_le, ge_iff_le, gt_iff_lt, Bool.not_eq_eq_eq_not, Bool.true_or, Bool.or_true, Bool.false_or, Bool.or_false, Bool.true_and, Bool.and_true, false_or, or_false, true_and, and_true, Decidable.not_not] at hp; omega) (by omega), fun hp => hx.ix (by simp only [decide_eq_true_eq, decide_eq_false_iff_not, Bool.and_eq_true, Bool.and_eq_false_iff, Bool.or_eq_true, Bool.or_eq_false_iff, Bool.not_eq_true', Bool.not_eq_false', Bool.not_true, Bool.not_false, Bool.false_eq_true, Bool.true_eq_false, Int.not_lt, Int.not_le, ge_iff_le, gt_iff_lt, Bool.not_eq_eq_eq_not, Bool.true_or, Bool.or_true, Bool.false_or, Bool.or_false, Bool.true_and, Bool.and_true, false_or, or_false, true_and, and_true, Decidable.not_not] at hp; omega) (by simp only [decide_eq_true_eq, decide_eq_false_iff_not, Bool.and_eq_true, Bool.and_eq_false_iff, Bool.or_eq_true, Bool.or_eq_false_iff, Bool.not_eq_true', Bool.not_eq_false', Bool.not_true, Bool.not_false, Bool.false_eq_true, Bool.true_eq_false, Int.not_lt, Int.not_le, ge_iff_le, gt_iff_lt, Bool.not_eq_eq_eq_not, Bool.true_or, Bool.or_true, Bool.false_or, Bool.or_false, Bool.true_and, Bool.and_true, false_or, or_false, true_and, and_true, Decidable.not_not] at hp; exact hpt hp), ?_⟩
  refine ld_countg (hx.src (.refl v)) (fun hp => ⟨by simp only [decide_eq_true_eq, decide_eq_false_iff_not, Bool.and_eq_true, Bool.and_eq_false_iff, Bool.or_eq_true, Bool.or_eq_false_iff, Bool.not_eq_true', Bool.not_eq_false', Bool.not_true, Bool.not_false, Bool.false_eq_true, Bool.true_eq_false, Int.not_lt, Int.not_le, ge_iff_le, gt_iff_lt, Bool.not_eq_eq_eq_not, Bool.true_or, Bool.or_true, Bool.false_or, Bool.or_false, Bool.true_and, Bool.and_true, false_or, or_false, true_and, and_true, Decidable.not_not] at hp; omega, by simp only [decide_eq_true_eq, decide_eq_false_iff_not, Bool.and_eq_true, Bool.and_eq_false_iff, Bool.or_eq_true, Bool.or_eq_false_iff, Bool.not_eq_true', Bool.not_eq_false', Bool.not_true, Bool.not_false, Bool.false_eq_true, Bool.true_eq_false, Int.not_lt, Int.not_le, ge_iff_le, gt_iff_lt, Bool.not_eq_eq_eq_not, Bool.true_or, Bool.or_true, Bool.false_or, Bool.or_false, Bool.true_and, Bool.and_true, false_or, or_false, true_and, and_true, Decidable.not_not] at hp; exact hpt hp⟩) ?_
  refine ⟨n - 1000, fun hp => wrap_i64 (by simp only [decide_eq_true_eq, decide_eq_false_iff_not, Bool.and_eq_true, Bool.and_eq_false_iff, Bool.or_eq_true, Bool.or_eq_false_iff, Bool.not_eq_true', Bool.not_eq_false', Bool.not_true, Bool.not_false, Bool.false_eq_true, Bool.true_eq_false, Int.not_lt, Int.not_le, ge_iff_le, gt_iff_lt, Bool.not_eq_eq_eq_not, Bool.true_or, Bool.or_true, Bool.false_or, Bool.or_false, Bool.true_and, Bool.and_true, false_or, or_false, true_and, and_true, Decidable.not_not] at hp; omega) (by omega), fun hp => ?_, fun hp => ⟨.refl v, tail v [] (.refl v)⟩⟩
  simp only [decide_eq_true_eq, decide_eq_false_iff_not, Bool.and_eq_true, Bool.and_eq_false_iff, Bool.or_eq_true, Bool.or_eq_false_iff, Bool.not_eq_true', Bool.not_eq_false', Bool.not_true, Bool.not_false, Bool.false_eq_true, Bool.true_eq_false, Int.not_lt, Int.not_le, ge_iff_le, gt_iff_lt, Bool.not_eq_eq_eq_not, Bool.true_or, Bool.or_true, Bool.false_or, Bool.or_false, Bool.true_and, Bool.and_true, false_or, or_false, true_and, and_true, Decidable.not_not] at hp
  have hS := St.refl v
  refine Mk.use (c_refsOf hx (vheap_len hv)) hS ?_
  rintro _ w2 J ⟨z, rfl, hO⟩ hS hsub
  have hrl := length_refs h
  refine ⟨_, rfl, hsub, hO.ix (by omega) (by have := hpt hp; omega), ?_⟩
  refine ld_int (Own.read hO hS) (by omega) (by have := hpt hp; omega) ?_
  intro b0 b1
  exact ⟨fun _ => bad w2 J hS, fun _ => tail w2 J hS⟩
end
end Go.Vc
