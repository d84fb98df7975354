/- Built-in steps at a base world: new slices. -/
import Derived.Test.YtmmkfmmcmjpcgaaBVcRep
namespace Go.Vc
open Go Go.RowKit
set_option linter.all false

theorem run_makeN {P : Program} (t e : TypeId) (i : TypeInfo) (z : Value) (ht : P.underlying t = some (.slice e)) (hi : P.info? e = some i) (hz : i.zero = some z)
    (kl kc : IntKind) (n c : Nat) (hnc : n ≤ c) (hbytes : i.bytes * c ≤ 281474976710656) (h63 : c ≤ 9223372036854775807) (w : World) :
    (Instr.makeSlice t (.int kl (n : Int)) (.int kc (c : Int))).run P w = .ok (.slice (some ⟨w.heap.size, 0, none⟩) n c) (w.alloc (.cells (madeCells z.cells (c * i.size)) e)) := by
  have hb : (i.bytes : Int) * (c : Int) ≤ 281474976710656 := by
    have h : ((i.bytes * c : Nat) : Int) ≤ 281474976710656 := by omega
    rwa [Int.natCast_mul] at h
  have hr := run_make (P := P) w t e i z ht hi hz kl kc n c (by omega) (by omega) hb (by omega)
  simp only [Int.toNat_natCast] at hr
  exact hr

/-- make([]T, n) -/
theorem stepT_make {P : Program} {t e : TypeId} {i : TypeInfo} {z : Value} (ht : P.underlying t = some (.slice e)) (hi : P.info? e = some i) (hz : i.zero = some z) {n : Int} {v : World} {Q : Value → World → Prop}
    (h0 : 0 ≤ n) (hb : i.bytes * n.toNat ≤ 281474976710656) (h63 : n ≤ 9223372036854775807)
    (h : ∀ (g : Nat) (w' : World), v.heap.size ≤ g → Sub v w' → w'.heap[g]? = some (.cells (madeCells z.cells (n.toNat * i.size)) e (0, 0)) → Q (Sl.mk (some ⟨g, 0, none⟩) n.toNat n.toNat).val w') :
    StepT P (Instr.makeSlice t (.int .i64 n) (.int .i64 n)) v Q := by
  intro w hs
  obtain ⟨m, rfl⟩ := Int.eq_ofNat_of_zero_le h0
  simp only [Int.toNat_natCast] at *
  have hr := run_makeN (P := P) t e i z ht hi hz .i64 .i64 m m (Nat.le_refl _) hb (by omega) w
  obtain ⟨v', fr, hk⟩ := newAt_step (o := .cells (madeCells z.cells (m * i.size)) e) (Q := fun a w' => ∃ g, a = ⟨g, 0, none⟩ ∧ Q (Sl.mk (some ⟨g, 0, none⟩) m m).val w') hs (fun g w' hg hsub hh => ⟨g, rfl, h g w' hg hsub hh⟩)
  obtain ⟨g, hg, hq⟩ := hk
  cases hg
  exact ⟨_, _, v', hr, fr, hq⟩

/-- a new slice literal -/
theorem stepT_build {P : Program} {t e : TypeId} {i : TypeInfo} {z : Value} (ht : P.underlying t = some (.slice e)) (hi : P.info? e = some i) (hz : i.zero = some z) {n : Nat} {ps : Array (Nat × Value)} {cells : Array Value} {v : World} {Q : Value → World → Prop}
    (hsz : n * i.size ≤ 16777216) (hf : Instr.fill (fun k => some (k * i.size, i.size)) ((Array.range (n * i.size)).map (z.cells[· % z.cells.size]!)) ps.toList = some cells)
    (h : ∀ (g : Nat) (w' : World), v.heap.size ≤ g → Sub v w' → w'.heap[g]? = some (.cells cells e (0, 0)) → Q (Sl.mk (some ⟨g, 0, none⟩) n n).val w') :
    StepT P (Instr.buildSlice t n ps) v Q := by
  intro w hs
  have hne : ¬ n * i.size > 2 ^ 24 := by omega
  have hr : (Instr.buildSlice t n ps).run P w = .ok (.slice (some ⟨w.heap.size, 0, none⟩) n n) (w.alloc (.cells cells e)) := by
    by_cases h0 : n * i.size = 0
    · have em : ∀ f : Nat → Value, Array.map f (Array.range 0) = #[] := fun f => Array.ext (by simp) (fun i h1 _ => absurd h1 (by simp))
      have hf' : Instr.fill (fun k => some (k * i.size, i.size)) #[] ps.toList = some cells := by rw [h0, em] at hf; exact hf
      simp [Instr.buildSlice, run_underlying ht, run_size hi, h0, em, hf', newRow]
    · simp [Instr.buildSlice, run_underlying ht, run_size hi, hne, h0, zeroValue, run_typeInfo w hi, hz, hf, newRow]
  obtain ⟨v', fr, hk⟩ := newAt_step (o := .cells cells e) (Q := fun a w' => ∃ g, a = ⟨g, 0, none⟩ ∧ Q (Sl.mk (some ⟨g, 0, none⟩) n n).val w') hs (fun g w' hg hsub hh => ⟨g, rfl, h g w' hg hsub hh⟩)
  obtain ⟨g, hg, hq⟩ := hk
  cases hg
  exact ⟨_, _, v', hr, fr, hq⟩

end Go.Vc
