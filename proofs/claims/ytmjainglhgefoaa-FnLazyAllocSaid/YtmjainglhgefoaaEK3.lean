/- Part of the proofs about the heaps and memories: a law is joined in the text whose name ends in W and the law. -/
import Derived.Test.YtmjainglhgefoaaEK2
namespace Go.Vc
open Go Go.Proofs Go.RowKit
set_option linter.all false


abbrev BM : Nat := 9223372036854775807
/-- the room that is left -/
def szI (b : Int) (n : Nat) : Int := if b - n < 0 then -1 else b - n
def szHf : Int → List CellD → Int
  | b, [] => b
  | b, c :: r => if szI b c.fields.length < 0 then -1 else szHf (szI b c.fields.length) r
def szH (b : Int) (h : List CellD) : Int := if b - h.length < 0 then -1 else szHf (b - h.length) h
theorem szI_le {b : Int} {n : Nat} (h : 0 ≤ szI b n) : szI b n = b - n ∧ (n : Int) ≤ b := by unfold szI at h ⊢; split at h <;> (try omega)
theorem szHf_cons (b : Int) (c : CellD) (r : List CellD) : szHf b (c :: r) = if szI b c.fields.length < 0 then -1 else szHf (szI b c.fields.length) r := rfl
theorem szHf_nil (b : Int) : szHf b [] = b := rfl
theorem szHf_le : ∀ (h : List CellD) {b : Int}, 0 ≤ szHf b h → szHf b h ≤ b ∧ ∀ c ∈ h, (c.fields.length : Int) ≤ b
  | [], b, h => ⟨Int.le_refl b, fun c hc => by cases hc⟩
  | c :: r, b, h => by
    unfold szHf at h ⊢
    split at h
    · omega
    · rename_i h2
      rw [if_neg h2]
      obtain ⟨e1, e2⟩ := szI_le (b := b) (n := c.fields.length) (by omega)
      obtain ⟨i1, i2⟩ := szHf_le r h
      refine ⟨by omega, fun d hd => ?_⟩
      rcases List.mem_cons.1 hd with rfl | hd
      · exact e2
      · have := i2 d hd; omega
theorem szH_le {h : List CellD} {b : Int} (h0 : 0 ≤ szH b h) : szH b h ≤ b ∧ (h.length : Int) ≤ b ∧ ∀ c ∈ h, (c.fields.length : Int) ≤ b := by
  unfold szH at h0 ⊢
  split at h0
  · omega
  · rename_i h2
    rw [if_neg h2]
    obtain ⟨i1, i2⟩ := szHf_le h h0
    exact ⟨by omega, by omega, fun c hc => by have := i2 c hc; omega⟩

section
variable {u v w : World} {x y xf s t : Sl} {l ws fs pend : List Int} {h g : List CellD} {z z' : LazyD} {b m n k f : Int} {a : Addr} {I J K L R R1 : Items} {F F1 : Items → Items}

theorem c_szIntS (hx : x.n = l.length) (hl : l.length ≤ BM) (hb0 : 0 ≤ b) (hb : b ≤ 1048576) : Fn Try.prog 86 #[x.val, .int .i64 b] v (.int .i64 (szI b l.length)) := by
  refine of86 _ _ _ _ ?_
  unfold vc86
  have hl : l.length ≤ 9223372036854775807 := hl
  refine go_wr (by omega) (by omega) ?_
  unfold szI
  refine ⟨fun hc => ?_, fun hc => ?_⟩
  · simp only [decide_eq_true_eq, decide_eq_false_iff_not, Bool.and_eq_true, Bool.and_eq_false_iff, Bool.or_eq_true, Bool.or_eq_false_iff, Bool.not_eq_true', Bool.not_eq_false', Bool.not_true, Bool.not_false, Bool.false_eq_true, Bool.true_eq_false, Int.not_lt, Int.not_le, ge_iff_le, gt_iff_lt, Bool.not_eq_eq_eq_not, Bool.true_or, Bool.or_true, Bool.false_or, Bool.or_false, Bool.true_and, Bool.and_true, false_or, or_false, true_and, and_true, Decidable.not_not] at hc
    rw [if_pos (by omega)]; exact ⟨rfl, .refl v⟩
  · simp only [decide_eq_true_eq, decide_eq_false_iff_not, Bool.and_eq_true, Bool.and_eq_false_iff, Bool.or_eq_true, Bool.or_eq_false_iff, Bool.not_eq_true', Bool.not_eq_false', Bool.not_true, Bool.not_false, Bool.false_eq_true, Bool.true_eq_false, Int.not_lt, Int.not_le, ge_iff_le, gt_iff_lt, Bool.not_eq_eq_eq_not, Bool.true_or, Bool.or_true, Bool.false_or, Bool.or_false, Bool.true_and, Bool.and_true, false_or, or_false, true_and, and_true, Decidable.not_not] at hc
    rw [if_neg (by omega), hx]; exact ⟨rfl, .refl v⟩

theorem cellB (hx : ReadB BM v x h) {i : Int} (h0 : 0 ≤ i) (h1 : i < h.length) : ∃ f : Sl, (v.cell? ((elA x i 3).add 0) = some (.int .i64 (nth h i).count) ∧ v.cell? ((elA x i 3).add 1) = some (.int .i64 (nth h i).tag) ∧ v.cell? ((elA x i 3).add 2) = some f.val) ∧ ReadB BM v f (nth h i).fields := by
  obtain ⟨r, hr, hc⟩ := hx.row h0 h1
  obtain ⟨f, rfl, c1, c2, c3⟩ := hr
  exact ⟨f, ⟨hc 0 _ rfl, hc 1 _ rfl, hc 2 _ rfl⟩, c3⟩

def szL (b : Int) (z : LazyD) : Int := if szH b z.cells < 0 then -1 else szI (szH b z.cells) z.pend.length
theorem ReadB.toInts {B : Nat} {l : List Int} (hx : ReadB B v x l) (hl : l.length ≤ BB) : Read v x l := let ⟨rows, h1, h2, _⟩ := hx; ⟨rows, h1, ⟨h2.1, h2.2⟩, hl⟩
theorem ReadB.toCells (hx : ReadB BM v x h) (hl : h.length ≤ BB) (hf : ∀ c ∈ h, c.fields.length ≤ BB) : Read v x h := by
  obtain ⟨rows, h1, h2, _⟩ := hx
  refine ⟨rows, h1, ⟨h2.1, fun i r a hr ha => ?_⟩, hl⟩
  obtain ⟨f, e, c1, c2, c3⟩ := h2.2 i r a hr ha
  exact ⟨f, e, c1, c2, c3.toInts (hf a (List.mem_of_getElem? ha))⟩

theorem c_toIntS (hx : Read v x l) : Mk Try.prog 41 #[x.val] v fun r J => ∃ y, r = y.val ∧ Own v y l J := by
  refine of41 _ _ _ ?_
  unfold vc41
  have hn := hx.n
  have hl := hx.le
  refine St.makeInts (.refl v) (by omega) (by omega) (by decide) ?_
  intro y w1 I1 hO hS hs
  refine ⟨_, rfl, ?_⟩
  have hz : ((x.n : Int).toNat) = l.length := by omega
  rw [hz] at hO
  refine ⟨fun i w => ∃ (m : List Int) (I : Items), Own v y m I ∧ m.length = l.length ∧ m.take i.toNat = l.take i.toNat ∧ St v w (I ++ []) ∧ 0 ≤ i ∧ i ≤ l.length, fun i _ => (l.length - i).toNat, ⟨_, I1, hO, by simp, by simp, hS, by omega, by omega⟩, ?_⟩
  clear hO hS
  rintro i w ⟨m, I, hO, hm, ht, hS, h0, h1⟩
  dsimp only
  refine ⟨fun hi => ?_, fun hi => ?_⟩
  · simp only [decide_eq_true_eq, decide_eq_false_iff_not, Bool.and_eq_true, Bool.and_eq_false_iff, Bool.or_eq_true, Bool.or_eq_false_iff, Bool.not_eq_true', Bool.not_eq_false', Bool.not_true, Bool.not_false, Bool.false_eq_true, Bool.true_eq_false, Int.not_lt, Int.not_le, ge_iff_le, gt_iff_lt, Bool.not_eq_eq_eq_not, Bool.true_or, Bool.or_true, Bool.false_or, Bool.or_false, Bool.true_and, Bool.and_true, false_or, or_false, true_and, and_true, Decidable.not_not] at hi
    refine go_ix hx h0 (by omega) ?_
    refine ld_int (hx.mono hS.sub) h0 (by omega) ?_
    intro a0 a1
    refine go_oix hO h0 (by omega) ?_
    refine st_int hO hS h0 (by omega) ⟨a0, a1⟩ ?_
    intro w2 I2 hO hS
    refine go_wr (by omega) (by omega) ?_
    refine ⟨⟨_, I2, hO, by simpa using hm, ?_, hS, by omega, by omega⟩, by omega⟩
    rw [take_nth (l := l) h0 (by omega), take_nth (l := m.set i.toNat (nth l i)) h0 (by simp; omega), nth_set _ _ _ _ h0 (by omega) h0, if_pos rfl, List.take_set_of_le (Nat.le_refl _), ht]
  · simp only [decide_eq_true_eq, decide_eq_false_iff_not, Bool.and_eq_true, Bool.and_eq_false_iff, Bool.or_eq_true, Bool.or_eq_false_iff, Bool.not_eq_true', Bool.not_eq_false', Bool.not_true, Bool.not_false, Bool.false_eq_true, Bool.true_eq_false, Int.not_lt, Int.not_le, ge_iff_le, gt_iff_lt, Bool.not_eq_eq_eq_not, Bool.true_or, Bool.or_true, Bool.false_or, Bool.or_false, Bool.true_and, Bool.and_true, false_or, or_false, true_and, and_true, Decidable.not_not] at hi
    rw [take_all (by omega), take_all (by omega)] at ht
    rw [ht] at hO
    exact ⟨I, by simpa using hS, y, rfl, hO⟩

theorem c_eqIntS (hx : Read v x l) (hy : Read v y ws) : Fn Try.prog 43 #[x.val, y.val] v (.bool (decide (l = ws))) := by
  refine of43 _ _ _ _ ?_
  unfold vc43
  have hn := hx.n
  have hl := hx.le
  have hyn := hy.n
  refine ⟨fun hc => ?_, fun hc => ?_⟩
  · simp only [decide_eq_true_eq, decide_eq_false_iff_not, Bool.and_eq_true, Bool.and_eq_false_iff, Bool.or_eq_true, Bool.or_eq_false_iff, Bool.not_eq_true', Bool.not_eq_false', Bool.not_true, Bool.not_false, Bool.false_eq_true, Bool.true_eq_false, Int.not_lt, Int.not_le, ge_iff_le, gt_iff_lt, Bool.not_eq_eq_eq_not, Bool.true_or, Bool.or_true, Bool.false_or, Bool.or_false, Bool.true_and, Bool.and_true, false_or, or_false, true_and, and_true, Decidable.not_not] at hc
    exact ⟨val_false (fun e => by rw [e] at hn; omega), .refl v⟩
  simp only [decide_eq_true_eq, decide_eq_false_iff_not, Bool.and_eq_true, Bool.and_eq_false_iff, Bool.or_eq_true, Bool.or_eq_false_iff, Bool.not_eq_true', Bool.not_eq_false', Bool.not_true, Bool.not_false, Bool.false_eq_true, Bool.true_eq_false, Int.not_lt, Int.not_le, ge_iff_le, gt_iff_lt, Bool.not_eq_eq_eq_not, Bool.true_or, Bool.or_true, Bool.false_or, Bool.or_false, Bool.true_and, Bool.and_true, false_or, or_false, true_and, and_true, Decidable.not_not] at hc
  refine ⟨fun i w => Sub v w ∧ 0 ≤ i ∧ i ≤ l.length ∧ l.take i.toNat = ws.take i.toNat, fun i _ => (l.length - i).toNat, ⟨.refl v, by omega, by omega, by simp⟩, ?_⟩
  rintro i w ⟨hs, h0, h1, h2⟩
  dsimp only
  refine ⟨fun hi => ?_, fun hi => ?_⟩
  · simp only [decide_eq_true_eq, decide_eq_false_iff_not, Bool.and_eq_true, Bool.and_eq_false_iff, Bool.or_eq_true, Bool.or_eq_false_iff, Bool.not_eq_true', Bool.not_eq_false', Bool.not_true, Bool.not_false, Bool.false_eq_true, Bool.true_eq_false, Int.not_lt, Int.not_le, ge_iff_le, gt_iff_lt, Bool.not_eq_eq_eq_not, Bool.true_or, Bool.or_true, Bool.false_or, Bool.or_false, Bool.true_and, Bool.and_true, false_or, or_false, true_and, and_true, Decidable.not_not] at hi
    refine go_ix hx h0 (by omega) ?_
    refine ld_int (hx.mono hs) h0 (by omega) ?_
    intro _ _
    refine go_ix hy h0 (by omega) ?_
    refine ld_int (hy.mono hs) h0 (by omega) ?_
    intro _ _
    refine ⟨fun hq => ?_, fun hq => ?_⟩
    · simp only [decide_eq_true_eq, decide_eq_false_iff_not, Bool.and_eq_true, Bool.and_eq_false_iff, Bool.or_eq_true, Bool.or_eq_false_iff, Bool.not_eq_true', Bool.not_eq_false', Bool.not_true, Bool.not_false, Bool.false_eq_true, Bool.true_eq_false, Int.not_lt, Int.not_le, ge_iff_le, gt_iff_lt, Bool.not_eq_eq_eq_not, Bool.true_or, Bool.or_true, Bool.false_or, Bool.or_false, Bool.true_and, Bool.and_true, false_or, or_false, true_and, and_true, Decidable.not_not] at hq
      exact ⟨val_false (fun e => hq (by rw [e])), hs⟩
    · simp only [decide_eq_true_eq, decide_eq_false_iff_not, Bool.and_eq_true, Bool.and_eq_false_iff, Bool.or_eq_true, Bool.or_eq_false_iff, Bool.not_eq_true', Bool.not_eq_false', Bool.not_true, Bool.not_false, Bool.false_eq_true, Bool.true_eq_false, Int.not_lt, Int.not_le, ge_iff_le, gt_iff_lt, Bool.not_eq_eq_eq_not, Bool.true_or, Bool.or_true, Bool.false_or, Bool.or_false, Bool.true_and, Bool.and_true, false_or, or_false, true_and, and_true, Decidable.not_not] at hq
      refine go_wr (by omega) (by omega) ?_
      refine ⟨⟨hs, by omega, by omega, ?_⟩, by omega⟩
      rw [take_nth h0 (by omega), take_nth h0 (by omega), h2, hq]
  · simp only [decide_eq_true_eq, decide_eq_false_iff_not, Bool.and_eq_true, Bool.and_eq_false_iff, Bool.or_eq_true, Bool.or_eq_false_iff, Bool.not_eq_true', Bool.not_eq_false', Bool.not_true, Bool.not_false, Bool.false_eq_true, Bool.true_eq_false, Int.not_lt, Int.not_le, ge_iff_le, gt_iff_lt, Bool.not_eq_eq_eq_not, Bool.true_or, Bool.or_true, Bool.false_or, Bool.or_false, Bool.true_and, Bool.and_true, false_or, or_false, true_and, and_true, Decidable.not_not] at hi
    rw [take_all (by omega), take_all (by omega)] at h2
    exact ⟨val_true h2, hs⟩

theorem c_eqCell {c d : CellD} {f g : Sl} (hf : Read v f c.fields) (hg : Read v g d.fields) :
    Fn Try.prog 99 #[.agg #[.int .i64 c.count, .int .i64 c.tag, f.val], .agg #[.int .i64 d.count, .int .i64 d.tag, g.val]] v (.bool (@decide (c = d) (Classical.propDecidable _))) := by
  refine of99 _ _ _ _ _ _ _ _ ?_
  unfold vc99
  obtain ⟨a1, a2, a3⟩ := c
  obtain ⟨b1, b2, b3⟩ := d
  simp only [CellD.mk.injEq]
  refine ⟨fun hc => ⟨?_, .refl v⟩, fun hc => ⟨fun hc2 => ⟨?_, .refl v⟩, fun hc2 => ⟨_, c_eqIntS hf hg, fun hc3 => ⟨?_, .refl v⟩, fun hc3 => ⟨?_, .refl v⟩⟩⟩⟩
  · simp only [decide_eq_true_eq, decide_eq_false_iff_not, Bool.and_eq_true, Bool.and_eq_false_iff, Bool.or_eq_true, Bool.or_eq_false_iff, Bool.not_eq_true', Bool.not_eq_false', Bool.not_true, Bool.not_false, Bool.false_eq_true, Bool.true_eq_false, Int.not_lt, Int.not_le, ge_iff_le, gt_iff_lt, Bool.not_eq_eq_eq_not, Bool.true_or, Bool.or_true, Bool.false_or, Bool.or_false, Bool.true_and, Bool.and_true, false_or, or_false, true_and, and_true, Decidable.not_not] at hc; simp [hc]
  · simp only [decide_eq_true_eq, decide_eq_false_iff_not, Bool.and_eq_true, Bool.and_eq_false_iff, Bool.or_eq_true, Bool.or_eq_false_iff, Bool.not_eq_true', Bool.not_eq_false', Bool.not_true, Bool.not_false, Bool.false_eq_true, Bool.true_eq_false, Int.not_lt, Int.not_le, ge_iff_le, gt_iff_lt, Bool.not_eq_eq_eq_not, Bool.true_or, Bool.or_true, Bool.false_or, Bool.or_false, Bool.true_and, Bool.and_true, false_or, or_false, true_and, and_true, Decidable.not_not] at hc hc2; simp [hc2]
  · simp only [decide_eq_true_eq, decide_eq_false_iff_not, Bool.and_eq_true, Bool.and_eq_false_iff, Bool.or_eq_true, Bool.or_eq_false_iff, Bool.not_eq_true', Bool.not_eq_false', Bool.not_true, Bool.not_false, Bool.false_eq_true, Bool.true_eq_false, Int.not_lt, Int.not_le, ge_iff_le, gt_iff_lt, Bool.not_eq_eq_eq_not, Bool.true_or, Bool.or_true, Bool.false_or, Bool.or_false, Bool.true_and, Bool.and_true, false_or, or_false, true_and, and_true, Decidable.not_not] at hc hc2 hc3; simp [hc3]
  · simp only [decide_eq_true_eq, decide_eq_false_iff_not, Bool.and_eq_true, Bool.and_eq_false_iff, Bool.or_eq_true, Bool.or_eq_false_iff, Bool.not_eq_true', Bool.not_eq_false', Bool.not_true, Bool.not_false, Bool.false_eq_true, Bool.true_eq_false, Int.not_lt, Int.not_le, ge_iff_le, gt_iff_lt, Bool.not_eq_eq_eq_not, Bool.true_or, Bool.or_true, Bool.false_or, Bool.or_false, Bool.true_and, Bool.and_true, false_or, or_false, true_and, and_true, Decidable.not_not] at hc hc2 hc3; simp [hc, hc2, hc3]

theorem c_eqCellS (hx : Read v x h) (hy : Read v y g) : Fn Try.prog 37 #[x.val, y.val] v (.bool (eqHB h g)) := by
  refine of37 _ _ _ _ ?_
  unfold vc37
  have hn := hx.n
  have hl := hx.le
  have hyn := hy.n
  refine ⟨fun hc => ?_, fun hc => ?_⟩
  · simp only [decide_eq_true_eq, decide_eq_false_iff_not, Bool.and_eq_true, Bool.and_eq_false_iff, Bool.or_eq_true, Bool.or_eq_false_iff, Bool.not_eq_true', Bool.not_eq_false', Bool.not_true, Bool.not_false, Bool.false_eq_true, Bool.true_eq_false, Int.not_lt, Int.not_le, ge_iff_le, gt_iff_lt, Bool.not_eq_eq_eq_not, Bool.true_or, Bool.or_true, Bool.false_or, Bool.or_false, Bool.true_and, Bool.and_true, false_or, or_false, true_and, and_true, Decidable.not_not] at hc
    exact ⟨by rw [eqHB_f (fun e => by rw [e] at hn; omega)], .refl v⟩
  simp only [decide_eq_true_eq, decide_eq_false_iff_not, Bool.and_eq_true, Bool.and_eq_false_iff, Bool.or_eq_true, Bool.or_eq_false_iff, Bool.not_eq_true', Bool.not_eq_false', Bool.not_true, Bool.not_false, Bool.false_eq_true, Bool.true_eq_false, Int.not_lt, Int.not_le, ge_iff_le, gt_iff_lt, Bool.not_eq_eq_eq_not, Bool.true_or, Bool.or_true, Bool.false_or, Bool.or_false, Bool.true_and, Bool.and_true, false_or, or_false, true_and, and_true, Decidable.not_not] at hc
  refine ⟨fun i w => Sub v w ∧ 0 ≤ i ∧ i ≤ h.length ∧ h.take i.toNat = g.take i.toNat, fun i _ => (h.length - i).toNat, ⟨.refl v, by omega, by omega, by simp⟩, ?_⟩
  rintro i w ⟨hs, h0, h1, h2⟩
  dsimp only
  refine ⟨fun hi => ?_, fun hi => ?_⟩
  · simp only [decide_eq_true_eq, decide_eq_false_iff_not, Bool.and_eq_true, Bool.and_eq_false_iff, Bool.or_eq_true, Bool.or_eq_false_iff, Bool.not_eq_true', Bool.not_eq_false', Bool.not_true, Bool.not_false, Bool.false_eq_true, Bool.true_eq_false, Int.not_lt, Int.not_le, ge_iff_le, gt_iff_lt, Bool.not_eq_eq_eq_not, Bool.true_or, Bool.or_true, Bool.false_or, Bool.or_false, Bool.true_and, Bool.and_true, false_or, or_false, true_and, and_true, Decidable.not_not] at hi
    refine go_ix hx h0 (by omega) ?_
    refine ld_cell (hx.src hs) h0 (by omega) ?_
    intro f hf _ _
    refine go_ix hy h0 (by omega) ?_
    refine ld_cell (hy.src hs) h0 (by omega) ?_
    intro f2 hf2 _ _
    refine ⟨_, c_eqCell (c := nth h i) (d := nth g i) (hf.mono hs) (hf2.mono hs), fun hq => ?_, fun hq => ?_⟩
    · refine ⟨?_, hs⟩
      rw [eqHB_f fun e => ?_]
      subst e
      simp at hq
    · simp at hq
      refine go_wr (by omega) (by omega) ?_
      refine ⟨⟨hs, by omega, by omega, ?_⟩, by omega⟩
      rw [take_nth h0 (by omega), take_nth h0 (by omega), h2, hq]
  · simp only [decide_eq_true_eq, decide_eq_false_iff_not, Bool.and_eq_true, Bool.and_eq_false_iff, Bool.or_eq_true, Bool.or_eq_false_iff, Bool.not_eq_true', Bool.not_eq_false', Bool.not_true, Bool.not_false, Bool.false_eq_true, Bool.true_eq_false, Int.not_lt, Int.not_le, ge_iff_le, gt_iff_lt, Bool.not_eq_eq_eq_not, Bool.true_or, Bool.or_true, Bool.false_or, Bool.or_false, Bool.true_and, Bool.and_true, false_or, or_false, true_and, and_true, Decidable.not_not] at hi
    refine ⟨?_, hs⟩
    rw [take_all (by omega), take_all (by omega)] at h2
    rw [eqHB_iff.2 h2]

noncomputable def eqZB (z z' : LazyD) : Bool := @decide (z = z') (Classical.propDecidable _)
theorem eqZB_iff {z z' : LazyD} : eqZB z z' = true ↔ z = z' := by unfold eqZB; exact @decide_eq_true_iff _ (Classical.propDecidable _)
end


/-- owned to the leaves as far as element i; what follows is as q says -/
def OwnP (q : Nat → List Value → Prop) (i : Nat) (x : Sl) (l : List CellD) (I : Items) : Prop :=
  ∃ (rows : List (List Value)) (I0 : Items) (Is : List Items), OSl 3 x rows I0 ∧ rows.length = l.length ∧ Is.length = i ∧ i ≤ l.length ∧
    (∀ (j : Nat) (r : List Value) (a : CellD) (K : Items), rows[j]? = some r → l[j]? = some a → Is[j]? = some K → DatO.own r a K) ∧ (∀ (j : Nat) (r : List Value), i ≤ j → rows[j]? = some r → q j r) ∧ I.Perm (I0 ++ Is.flatten) ∧ l.length ≤ BB

section
variable {u v w : World} {x y xf s t : Sl} {l ws fs pend : List Int} {h g : List CellD} {z z' : LazyD} {b m n k f : Int} {a : Addr} {I J K L R R1 : Items} {F F1 : Items → Items} {q : Nat → List Value → Prop}

theorem OwnP.start {rows : List (List Value)} (h1 : OSl 3 x rows I) (h2 : rows.length = h.length) (h3 : ∀ (j : Nat) (r : List Value), rows[j]? = some r → q j r) (hl : h.length ≤ BB) : OwnP q 0 x h I :=
  ⟨rows, I, [], h1, h2, rfl, Nat.zero_le _, fun j r a K _ _ hK => by simp at hK, fun j r _ hr => h3 j r hr, by simp, hl⟩
theorem OwnP.done (h : OwnP q g.length x g I) : OwnD x g I := by
  obtain ⟨rows, I0, Is, h1, h2, h3, _, h4, _, h5, h6⟩ := h
  exact ⟨rows, I0, Is, [], h1, h2, h3, h4, by simpa using h5, h6⟩
theorem OwnP.ix {i : Nat} (h : OwnP q i x g I) {j : Int} (h0 : 0 ≤ j) (h1 : j < g.length) : IxOk x j := by
  obtain ⟨rows, I0, Is, k1, k2, _⟩ := h
  cases k1 with
  | nil => simp at k2; omega
  | blk g o n c cur e _ hn hc hm hs hr => exact ⟨rfl, h0, by simp only [] at *; omega⟩
theorem OwnP.len_ {i : Nat} (h : OwnP q i x g I) : x.n = g.length := by
  obtain ⟨rows, I0, Is, k1, k2, _⟩ := h
  exact k1.len.trans k2

theorem OwnP.step {i : Int} (h : OwnP q i.toNat x g I) (hS : St u w (K ++ (I ++ R))) (h0 : 0 ≤ i) (hi : i < g.length) {off : Nat} {vals : List Value} (hv : off + vals.length ≤ 3)
    (hown : ∀ r, q i.toNat r → DatO.own (putR r off vals) (nth g i) K) {Kt : World → Prop} (k : ∀ w' I', OwnP q (i + 1).toNat x g I' → St u w' (I' ++ R) → Kt w') : StoreAt w (elA x i 3) off vals Kt := by
  obtain ⟨rows, I0, Is, k1, k2, k3, k4, k5, k6, k7, k8⟩ := h
  have hlt : i.toNat < rows.length := by omega
  have er := List.getElem?_eq_getElem hlt
  have hS1 : St u w (I0 ++ (Is.flatten ++ (K ++ R))) := hS.perm (by
    classical
    exact List.perm_iff_count.2 fun a => by have := k7.count_eq a; simp only [List.count_append] at *; omega)
  obtain ⟨c1, I0', c2, c3⟩ := k1.store hS1 h0 er hv
  refine ⟨c1, k _ (I0' ++ (Is ++ [K]).flatten) ⟨_, I0', Is ++ [K], c2, by simpa using k2, by simp; omega, by omega, fun j r a K' hr ha hK => ?_, fun j r hj hr => ?_, .refl _, k8⟩ (c3.perm (by
    classical
    exact List.perm_iff_count.2 fun a => by simp only [List.flatten_append, List.flatten_cons, List.flatten_nil, List.append_nil, List.count_append]; omega))⟩
  · rw [List.getElem?_set] at hr
    split at hr
    · rename_i e
      subst e
      rw [List.getElem?_append_right (by omega), show i.toNat - Is.length = 0 from by omega] at hK
      simp only [List.getElem?_cons_zero, Option.some.injEq] at hK hr
      subst hK
      subst hr
      have := nth_of (i := i) ha
      rw [← this]
      exact hown _ (k6 _ _ (Nat.le_refl _) er)
    · rename_i e
      have hj : j < Is.length := by
        have := (List.getElem?_eq_some_iff.1 hK).1
        simp only [List.length_append, List.length_singleton] at this
        omega
      rw [List.getElem?_append_left hj] at hK
      exact k5 j r a K' hr ha hK
  · rw [List.getElem?_set, if_neg (by omega)] at hr
    exact k6 j r (by omega) hr

/-- a copy owned to the leaves -/
theorem c_cloneHeapD (hx : Read v x h) : Mk Try.prog 83 #[x.val] v fun r J => ∃ y, r = y.val ∧ OwnD y h J := by
  refine of83 _ _ _ ?_
  unfold vc83
  have hn := hx.n
  have hl := hx.le
  refine Mk.use (c_cloneCells hx) (.refl v) ?_
  rintro _ w1 J1 ⟨y, rfl, hO⟩ hS hsub
  refine ⟨_, rfl, ?_⟩
  have hP0 : OwnP (fun j r => ∀ c, h[j]? = some c → Dat.cells BB v r c) 0 y h J1 := by
    obtain ⟨rows, k1, k2, k3⟩ := hO
    exact .start k1 k2.1 (fun j r hr c hc => k2.2 j r c hr hc) k3
  refine ⟨fun i w => ∃ I, OwnP (fun j r => ∀ c, h[j]? = some c → Dat.cells BB v r c) i.toNat y h I ∧ St v w (I ++ []) ∧ 0 ≤ i ∧ i ≤ h.length, fun i _ => (h.length - i).toNat, ⟨J1, hP0, hS, by omega, by omega⟩, ?_⟩
  clear hO hS hP0
  rintro i w ⟨I, hO, hS, h0, h1⟩
  dsimp only
  refine ⟨fun hi => ?_, fun hi => ?_⟩
  · simp only [decide_eq_true_eq, decide_eq_false_iff_not, Bool.and_eq_true, Bool.and_eq_false_iff, Bool.or_eq_true, Bool.or_eq_false_iff, Bool.not_eq_true', Bool.not_eq_false', Bool.not_true, Bool.not_false, Bool.false_eq_true, Bool.true_eq_false, Int.not_lt, Int.not_le, ge_iff_le, gt_iff_lt, Bool.not_eq_eq_eq_not, Bool.true_or, Bool.or_true, Bool.false_or, Bool.or_false, Bool.true_and, Bool.and_true, false_or, or_false, true_and, and_true, Decidable.not_not] at hi
    refine go_ix hx h0 (by omega) ?_
    refine ld_cell (hx.src hS.sub) h0 (by omega) ?_
    intro f hf hcI htI
    refine Mk.use (c_cloneInts hf) hS ?_
    rintro _ w2 J2 ⟨t, rfl, hT⟩ hS hsub
    refine ⟨_, rfl, hO.ix h0 (by omega), ?_⟩
    refine hO.step hS h0 (by omega) (Nat.le_of_ble_eq_true rfl) (fun r hr => ?_) ?_
    · obtain ⟨f, rfl, c1, c2, c3⟩ := hr _ (nth_get h0 (by omega))
      exact ⟨t, rfl, c1, c2, hT.toAll⟩
    intro w3 I3 hO3 hS
    refine go_wr (by omega) (by omega) ?_
    exact ⟨⟨I3, hO3, hS, by omega, by omega⟩, by omega⟩
  · simp only [decide_eq_true_eq, decide_eq_false_iff_not, Bool.and_eq_true, Bool.and_eq_false_iff, Bool.or_eq_true, Bool.or_eq_false_iff, Bool.not_eq_true', Bool.not_eq_false', Bool.not_true, Bool.not_false, Bool.false_eq_true, Bool.true_eq_false, Int.not_lt, Int.not_le, ge_iff_le, gt_iff_lt, Bool.not_eq_eq_eq_not, Bool.true_or, Bool.or_true, Bool.false_or, Bool.or_false, Bool.true_and, Bool.and_true, false_or, or_false, true_and, and_true, Decidable.not_not] at hi
    rw [show i.toNat = h.length from by omega] at hO
    exact ⟨I, by simpa using hS, y, rfl, hO.done⟩

theorem c_cloneLazyD (hx : Read v x z.cells) (hy : Read v y z.pend) : Mk Try.prog 64 #[.agg #[x.val, y.val]] v fun r J => ∃ t s, ∃ J1 J2, r = .agg #[t.val, s.val] ∧ OwnD t z.cells J1 ∧ Own v s z.pend J2 ∧ J = J1 ++ J2 := by
  refine of64 _ _ _ _ ?_
  unfold vc64
  refine Mk.use (c_cloneHeapD hx) (.refl v) ?_
  rintro _ w1 J1 ⟨t, rfl, hO⟩ hS hsub
  refine ⟨_, rfl, hsub, ?_⟩
  refine Mk.use (c_cloneInts hy) hS ?_
  rintro _ w2 J2 ⟨s, rfl, hP⟩ hS hsub
  exact ⟨_, rfl, J1 ++ J2, (hS.to : St v w2 (J1 ++ (J2 ++ []))).perm (by simp), t, s, J1, J2, rfl, hO, hP, rfl⟩

theorem c_implDropD (hC : Cel a [x.val, y.val] I) (hO : OwnD x h J) (hP : Own u y pend L) (hS : St u w (I ++ (J ++ (L ++ R)))) (h0 : 0 ≤ k) (h1 : k < h.length) (hc : 0 < (nth h k).count) (hk : k ≤ 1000000000000) (hpl : pend.length < 1099511627776) :
    Trip Try.prog 77 #[.pointer (some (a.add 0)), .int .i64 k] w fun r w' => ∃ y' I' J' L', r = .tuple #[] ∧ Cel a [x.val, y'.val] I' ∧ OwnD x (lowerZ ⟨h, pend⟩ k).cells J' ∧ Own u y' (lowerZ ⟨h, pend⟩ k).pend L' ∧ St u w' (I' ++ (J' ++ (L' ++ R))) := by
  refine of77 _ _ _ _ ?_
  unfold vc77
  refine ⟨x, Cel.load hC hS rfl, hO.ix h0 h1, ?_⟩
  refine ld_count (OwnD.src hO hS) h0 h1 ?_
  intro a0 a1
  refine go_wr (by omega) (by omega) ?_
  refine ⟨hO.ix h0 h1, ?_⟩
  have hin1 : InI ((nth h k).count - 1) := ⟨by omega, by omega⟩
  refine OwnD.store hO hS h0 h1 (decC (nth h k)) [] (Nat.le_of_ble_eq_true rfl) (fun r K hr => ?_) ?_
  · obtain ⟨f, rfl, c1, c2, c3⟩ := hr
    exact ⟨K, ⟨f, rfl, hin1, c2, c3⟩, .inr ⟨rfl, rfl⟩⟩
  intro w2 J2 hO2 hS
  rw [List.append_nil] at hO2
  refine ⟨x, Cel.load hC hS rfl, hO2.ix h0 (by simpa using h1), ?_⟩
  refine ld_count (OwnD.src hO2 hS) h0 (by simpa using h1) ?_
  rw [nth_set _ _ _ _ h0 h1 h0, if_pos rfl]
  intro _ _
  have hz : (decC (nth h k)).count = (nth h k).count - 1 := rfl
  refine ⟨fun hc => ?_, fun hc => ?_⟩
  · simp only [decide_eq_true_eq, decide_eq_false_iff_not, Bool.and_eq_true, Bool.and_eq_false_iff, Bool.or_eq_true, Bool.or_eq_false_iff, Bool.not_eq_true', Bool.not_eq_false', Bool.not_true, Bool.not_false, Bool.false_eq_true, Bool.true_eq_false, Int.not_lt, Int.not_le, ge_iff_le, gt_iff_lt, Bool.not_eq_eq_eq_not, Bool.true_or, Bool.or_true, Bool.false_or, Bool.or_false, Bool.true_and, Bool.and_true, false_or, or_false, true_and, and_true, Decidable.not_not] at hc
    refine ⟨y, Cel.load hC hS rfl, ?_⟩
    refine St.build (α := Int) hS (by (repeat' (first | exact VsOf.nil | apply VsOf.cons | (apply VOf.int; first | assumption | (constructor <;> first | omega | (simp only [List.length_set, List.length_append, List.length_replicate, List.length_cons, List.length_nil, List.length_take, List.length_drop, List.length_map, List.length_singleton] at *; omega))) | exact VOf.bool | exact VOf.str))) rfl (by decide) ?_
    intro x4 w4 I4 hO4 hS hs
    refine ⟨_, rfl, ?_⟩
    refine Own.append hP hS (hO4.src hS) (by simp; omega) (by decide) ?_
    intro x5 w5 I5 hO5 hS
    refine ⟨_, rfl, ?_⟩
    refine Cel.store hC hS (by simp) ?_
    intro w6 I6 hC hS
    simp [putR] at hC
    refine ⟨x5, I6, J2, I5, rfl, hC, hO2, ?_, hS.to⟩
    unfold lowerZ
    simp only
    rw [if_pos (by omega)]; exact hO5
  · simp only [decide_eq_true_eq, decide_eq_false_iff_not, Bool.and_eq_true, Bool.and_eq_false_iff, Bool.or_eq_true, Bool.or_eq_false_iff, Bool.not_eq_true', Bool.not_eq_false', Bool.not_true, Bool.not_false, Bool.false_eq_true, Bool.true_eq_false, Int.not_lt, Int.not_le, ge_iff_le, gt_iff_lt, Bool.not_eq_eq_eq_not, Bool.true_or, Bool.or_true, Bool.false_or, Bool.or_false, Bool.true_and, Bool.and_true, false_or, or_false, true_and, and_true, Decidable.not_not] at hc
    refine ⟨y, I, J2, L, rfl, hC, hO2, ?_, hS.to⟩
    unfold lowerZ
    simp only
    rw [if_neg (by omega)]; exact hP

theorem c_implLazyDropD (hx : Read v x z.cells) (hy : Read v y z.pend) (hn : InI n) (hl : z.cells.length ≤ 1000000000) :
    Mk Try.prog 20 #[.agg #[x.val, y.val], .int .i64 n] v fun r J => ∃ x' y' : Sl, ∃ J1 J2, r = .tuple #[.agg #[x'.val, y'.val], .bool (dropB z n)] ∧ OwnD x' (dropR z n).cells J1 ∧ Own v y' (dropR z n).pend J2 ∧ J = J1 ++ J2 := by
  refine of20 _ _ _ _ _ ?_
  unfold vc20
  have bad : ¬ dropOk z n → ∀ w I, St v w (I ++ []) → ∃ J, St v w J ∧ ∃ x' y' : Sl, ∃ J1 J2, Value.tuple #[.agg #[.slice none 0 0, .slice none 0 0], .bool false] = .tuple #[.agg #[x'.val, y'.val], .bool (dropB z n)] ∧ OwnD x' (dropR z n).cells J1 ∧ Own v y' (dropR z n).pend J2 ∧ J = J1 ++ J2 :=
    fun hb w I hS => ⟨[], hS.to, ⟨none, 0, 0⟩, ⟨none, 0, 0⟩, [], [], by rw [dropB_f hb]; rfl, by rw [dropR_f hb]; exact OwnD.nil, by rw [dropR_f hb]; exact Own.nil v, rfl⟩
  refine Mk.use (c_checkedLazy hx hy) (.refl v) ?_
  rintro _ w1 J1 ⟨t, rfl, hR⟩ hS hsub
  refine ⟨_, _, rfl, _, fun _ => c_wordValid (hx.mono hS.sub) hn, fun hc => bad (fun hd => ?_) w1 J1 hS, fun hc => ?_⟩
  · simp only [decide_eq_true_eq, decide_eq_false_iff_not, Bool.and_eq_true, Bool.and_eq_false_iff, Bool.or_eq_true, Bool.or_eq_false_iff, Bool.not_eq_true', Bool.not_eq_false', Bool.not_true, Bool.not_false, Bool.false_eq_true, Bool.true_eq_false, Int.not_lt, Int.not_le, ge_iff_le, gt_iff_lt, Bool.not_eq_eq_eq_not, Bool.true_or, Bool.or_true, Bool.false_or, Bool.or_false, Bool.true_and, Bool.and_true, false_or, or_false, true_and, and_true, Decidable.not_not] at hc
    rw [vlazyB_iff.2 hd.1, hd.2.1] at hc
    simp at hc
  simp only [decide_eq_true_eq, decide_eq_false_iff_not, Bool.and_eq_true, Bool.and_eq_false_iff, Bool.or_eq_true, Bool.or_eq_false_iff, Bool.not_eq_true', Bool.not_eq_false', Bool.not_true, Bool.not_false, Bool.false_eq_true, Bool.true_eq_false, Int.not_lt, Int.not_le, ge_iff_le, gt_iff_lt, Bool.not_eq_eq_eq_not, Bool.true_or, Bool.or_true, Bool.false_or, Bool.or_false, Bool.true_and, Bool.and_true, false_or, or_false, true_and, and_true, Decidable.not_not] at hc
  have hv := vlazyB_iff.1 hc.1
  have hw := hc.2
  replace hR := hR hv
  have hrl := length_refs (raiseL z.cells z.pend)
  have hrl2 := raiseL_length z.cells z.pend
  refine Mk.use (c_cloneLazyD hx hy) hS ?_
  rintro _ w2 _ ⟨c, p, I2, J2, rfl, hO, hP, rfl⟩ hS hsub
  replace hS : St v w2 (I2 ++ (J2 ++ (J1 ++ []))) := hS.perm (by simp)
  refine ⟨_, _, rfl, ?_⟩
  refine St.box (vals := [.slice none 0 0, .slice none 0 0]) hS fun a w3 I3 hC hS hs => ?_
  refine Cel.store hC hS (by simp) ?_
  intro w4 I4 hC hS
  simp [putR] at hC
  refine ⟨_, _, c_liveAt (hx.mono hS.sub) hn, fun hq => ?_, fun hq => ?_⟩
  · obtain ⟨l1, l2, l3⟩ := live_iff.1 hq
    have hat : atI n = n - 1000 := atI_of l1 hn.2
    rw [hat]
    refine go_ix hx (by omega) l2 ?_
    refine ld_count (hx.src hS.sub) (by omega) l2 ?_
    intro a0 a1
    refine go_oix hR (by omega) (by omega) ?_
    refine ld_int (Own.read hR hS) (by omega) (by omega) ?_
    intro b0 b1
    refine ⟨fun hc => bad (fun hd => ?_) w4 (I4 ++ (I2 ++ (J2 ++ J1))) (hS.perm (by simp)), fun hc => ?_⟩
    · simp only [decide_eq_true_eq, decide_eq_false_iff_not, Bool.and_eq_true, Bool.and_eq_false_iff, Bool.or_eq_true, Bool.or_eq_false_iff, Bool.not_eq_true', Bool.not_eq_false', Bool.not_true, Bool.not_false, Bool.false_eq_true, Bool.true_eq_false, Int.not_lt, Int.not_le, ge_iff_le, gt_iff_lt, Bool.not_eq_eq_eq_not, Bool.true_or, Bool.or_true, Bool.false_or, Bool.or_false, Bool.true_and, Bool.and_true, false_or, or_false, true_and, and_true, Decidable.not_not] at hc
      exact hd.2.2 l1 hc
    · simp only [decide_eq_true_eq, decide_eq_false_iff_not, Bool.and_eq_true, Bool.and_eq_false_iff, Bool.or_eq_true, Bool.or_eq_false_iff, Bool.not_eq_true', Bool.not_eq_false', Bool.not_true, Bool.not_false, Bool.false_eq_true, Bool.true_eq_false, Int.not_lt, Int.not_le, ge_iff_le, gt_iff_lt, Bool.not_eq_eq_eq_not, Bool.true_or, Bool.or_true, Bool.false_or, Bool.or_false, Bool.true_and, Bool.and_true, false_or, or_false, true_and, and_true, Decidable.not_not] at hc
      have hd : dropOk z n := ⟨hv, hw, fun _ => hc⟩
      have hpl := pend_len' (vlazy_iff.1 hv).1
      refine Trip.mono' (c_implDropD hC hO hP hS (by omega) l2 l3 (by omega) (by omega)) ?_
      rintro _ w5 ⟨y5, I5, J5, L5, rfl, hC, hO, hP, hS⟩
      refine ⟨rfl, c, y5, ⟨Cel.load hC hS rfl, Cel.load hC hS rfl⟩, J5 ++ L5, (hS.to : St v w5 (J5 ++ (L5 ++ []))).perm (by simp), c, y5, J5, L5, by rw [dropB_iff.2 hd], ?_, ?_, rfl⟩
      · rw [dropR_t hd, dropZ, if_pos l1]; exact hO
      · rw [dropR_t hd, dropZ, if_pos l1]; exact hP
  · have hnp : ¬ 1000 ≤ n := fun hp => by
      have := word_ptr hw hp
      rw [this] at hq; cases hq
    have hd : dropOk z n := ⟨hv, hw, fun h => absurd h hnp⟩
    refine ⟨c, p, ⟨Cel.load hC hS rfl, Cel.load hC hS rfl⟩, I2 ++ J2, (hS.to : St v w4 (I2 ++ (J2 ++ []))).perm (by simp), c, p, I2, J2, by rw [dropB_iff.2 hd], ?_, ?_, rfl⟩
    · rw [dropR_t hd, dropZ, if_neg hnp]; exact hO
    · rw [dropR_t hd, dropZ, if_neg hnp]; exact hP
end


def marks (n : Int) (k : Nat) : List Int := (List.range k).map fun (i : Nat) => n + (i : Int)
theorem marks_len (n : Int) (k : Nat) : (marks n k).length = k := by simp [marks]
theorem marks_nth {n : Int} {k : Nat} {i : Int} (h0 : 0 ≤ i) (h1 : i < k) : nth (marks n k) i = n + i := by
  refine nth_of ?_
  have : i.toNat < k := by omega
  simp [marks, this]
  omega
def markH : Int → List CellD → List CellD
  | _, [] => []
  | n, c :: r => ⟨n, n + 1, marks (n + 2) c.fields.length⟩ :: markH (n + 2 + c.fields.length) r
def endH : Int → List CellD → Int
  | n, [] => n
  | n, c :: r => endH (n + 2 + c.fields.length) r
theorem markH_len : ∀ (h : List CellD) (n : Int), (markH n h).length = h.length
  | [], _ => rfl
  | _ :: r, _ => by simp [markH, markH_len r]
theorem markH_snoc : ∀ (h : List CellD) (n : Int) (c : CellD), markH n (h ++ [c]) = markH n h ++ [⟨endH n h, endH n h + 1, marks (endH n h + 2) c.fields.length⟩]
  | [], _, _ => rfl
  | d :: r, n, c => by simp only [List.cons_append, markH, endH]; rw [markH_snoc r]
theorem endH_snoc : ∀ (h : List CellD) (n : Int) (c : CellD), endH n (h ++ [c]) = endH n h + 2 + c.fields.length
  | [], _, _ => rfl
  | d :: r, n, c => by simp only [List.cons_append, endH]; rw [endH_snoc r]
theorem markH_app : ∀ (h g : List CellD) (n : Int), markH n (h ++ g) = markH n h ++ markH (endH n h) g
  | [], _, _ => rfl
  | d :: r, g, n => by simp only [List.cons_append, markH, endH]; rw [markH_app r]
theorem endH_app : ∀ (h g : List CellD) (n : Int), endH n (h ++ g) = endH (endH n h) g
  | [], _, _ => rfl
  | d :: r, g, n => by simp only [List.cons_append, endH]; rw [endH_app r]
theorem endH_le : ∀ (h : List CellD) (n : Int), (∀ c ∈ h, c.fields.length ≤ 2000000) → n ≤ endH n h ∧ endH n h ≤ n + h.length * 2000002
  | [], n, _ => by simp [endH]
  | c :: r, n, hb => by
    have h1 := hb c List.mem_cons_self
    obtain ⟨i1, i2⟩ := endH_le r (n + 2 + c.fields.length) (fun d hd => hb d (List.mem_cons_of_mem _ hd))
    simp only [endH, List.length_cons]
    constructor <;> omega

section
variable {u v w : World} {x y xf s t : Sl} {l ws fs pend : List Int} {h g : List CellD} {z z' : LazyD} {b m n k f : Int} {a : Addr} {I J K L R R1 : Items} {F F1 : Items → Items} {q : Nat → List Value → Prop}

theorem c_markIntS (hO : Own u x l I) (hS : St u w (I ++ R)) (n0 : 0 ≤ n) (n1 : n ≤ 1000000000000000) :
    Trip Try.prog 44 #[x.val, .int .i64 n] w fun r w' => ∃ I', r = .int .i64 (n + l.length) ∧ Own u x (marks n l.length) I' ∧ St u w' (I' ++ R) := by
  refine of44 _ _ _ _ ?_
  unfold vc44
  have hn := hO.n
  have hl := hO.le
  refine ⟨fun n3 i w => ∃ (m : List Int) (I : Items), n3 = n + i ∧ Own u x m I ∧ m.length = l.length ∧ m.take i.toNat = (marks n l.length).take i.toNat ∧ St u w (I ++ R) ∧ 0 ≤ i ∧ i ≤ l.length, fun _ i _ => (l.length - i).toNat,
    ⟨l, I, by omega, hO, rfl, by simp, hS, by omega, by omega⟩, ?_⟩
  clear hO hS
  rintro n3 i w ⟨m, I, rfl, hO, hm, ht, hS, h0, h1⟩
  dsimp only
  refine ⟨fun hi => ?_, fun hi => ?_⟩
  · simp only [decide_eq_true_eq, decide_eq_false_iff_not, Bool.and_eq_true, Bool.and_eq_false_iff, Bool.or_eq_true, Bool.or_eq_false_iff, Bool.not_eq_true', Bool.not_eq_false', Bool.not_true, Bool.not_false, Bool.false_eq_true, Bool.true_eq_false, Int.not_lt, Int.not_le, ge_iff_le, gt_iff_lt, Bool.not_eq_eq_eq_not, Bool.true_or, Bool.or_true, Bool.false_or, Bool.or_false, Bool.true_and, Bool.and_true, false_or, or_false, true_and, and_true, Decidable.not_not] at hi
    refine go_oix hO h0 (by omega) ?_
    refine st_int hO hS h0 (by omega) ⟨by omega, by omega⟩ ?_
    intro w2 I2 hO hS
    refine go_wr (by omega) (by omega) ?_
    refine go_wr (by omega) (by omega) ?_
    refine ⟨⟨_, I2, by omega, hO, by simpa using hm, ?_, hS, by omega, by omega⟩, by omega⟩
    rw [take_nth (l := marks n l.length) h0 (by rw [marks_len]; omega), take_nth (l := m.set i.toNat (n + i)) h0 (by simp; omega), nth_set _ _ _ _ h0 (by omega) h0, if_pos rfl, List.take_set_of_le (Nat.le_refl _), ht, marks_nth h0 (by omega)]
  · simp only [decide_eq_true_eq, decide_eq_false_iff_not, Bool.and_eq_true, Bool.and_eq_false_iff, Bool.or_eq_true, Bool.or_eq_false_iff, Bool.not_eq_true', Bool.not_eq_false', Bool.not_true, Bool.not_false, Bool.false_eq_true, Bool.true_eq_false, Int.not_lt, Int.not_le, ge_iff_le, gt_iff_lt, Bool.not_eq_eq_eq_not, Bool.true_or, Bool.or_true, Bool.false_or, Bool.or_false, Bool.true_and, Bool.and_true, false_or, or_false, true_and, and_true, Decidable.not_not] at hi
    rw [take_all (by omega), take_all (by rw [marks_len]; omega)] at ht
    rw [ht] at hO
    exact ⟨I, by rw [show i = (l.length : Int) from by omega], hO, hS⟩

theorem nth_mid {α : Type} [Inhabited α] (p r : List α) (c : α) {i : Int} (h : i = p.length) : nth (p ++ c :: r) i = c := nth_of (by subst h; simp)
theorem set_mid {α : Type} (p r : List α) (c d : α) {i : Int} (h : i = p.length) : (p ++ c :: r).set i.toNat d = p ++ d :: r := by subst h; simp

theorem c_markCellS (hO : OwnD x h I) (hS : St u w (I ++ R)) (n0 : 0 ≤ n) (n1 : n ≤ 10000000000000) (hl : h.length ≤ 2000000) (hb : ∀ c ∈ h, c.fields.length ≤ 2000000) :
    Trip Try.prog 38 #[x.val, .int .i64 n] w fun r w' => ∃ I', r = .int .i64 (endH n h) ∧ OwnD x (markH n h) I' ∧ St u w' (I' ++ R) := by
  refine of38 _ _ _ _ ?_
  unfold vc38
  have hn := hO.n
  refine ⟨fun n3 i w => ∃ (p r : List CellD) (I : Items), h = p ++ r ∧ i = p.length ∧ n3 = endH n p ∧ OwnD x (markH n p ++ r) I ∧ St u w (I ++ R), fun _ i _ => (h.length - i).toNat, ⟨[], h, I, rfl, rfl, rfl, hO, hS⟩, ?_⟩
  clear hO hS
  rintro n3 i w ⟨p, r, I, hpr, rfl, rfl, hO, hS⟩
  dsimp only
  have hle : h.length = p.length + r.length := by rw [hpr, List.length_append]
  obtain ⟨e1, e2⟩ := endH_le p n (fun c hc => hb c (by rw [hpr]; exact List.mem_append_left _ hc))
  have hml := markH_len p n
  refine ⟨fun hi => ?_, fun hi => ?_⟩
  · simp only [decide_eq_true_eq, decide_eq_false_iff_not, Bool.and_eq_true, Bool.and_eq_false_iff, Bool.or_eq_true, Bool.or_eq_false_iff, Bool.not_eq_true', Bool.not_eq_false', Bool.not_true, Bool.not_false, Bool.false_eq_true, Bool.true_eq_false, Int.not_lt, Int.not_le, ge_iff_le, gt_iff_lt, Bool.not_eq_eq_eq_not, Bool.true_or, Bool.or_true, Bool.false_or, Bool.or_false, Bool.true_and, Bool.and_true, false_or, or_false, true_and, and_true, Decidable.not_not] at hi
    obtain ⟨c, r, rfl⟩ : ∃ c r', r = c :: r' := by
      cases r with
      | nil => simp at hle; omega
      | cons c r => exact ⟨c, r, rfl⟩
    simp only [List.length_cons] at hle
    have hc := hb c (by rw [hpr]; simp)
    have hi0 : (0 : Int) ≤ (p.length : Int) := by omega
    have hin1 : InI (endH n p) := ⟨by omega, by omega⟩
    have hin2 : InI (endH n p + 1) := ⟨by omega, by omega⟩
    have hlt : ∀ d : CellD, (p.length : Int) < (markH n p ++ d :: r).length := fun d => by simp; omega
    have hpm : (p.length : Int) = (markH n p).length := by rw [hml]
    refine ⟨hO.ix hi0 (hlt c), ?_⟩
    refine OwnD.store hO hS hi0 (hlt c) (⟨endH n p, c.tag, c.fields⟩ : CellD) [] (Nat.le_of_ble_eq_true rfl) (fun r' K hr => ?_) ?_
    · rw [nth_mid _ _ _ hpm] at hr
      obtain ⟨f, rfl, q1, q2, q3⟩ := hr
      exact ⟨K, ⟨f, rfl, hin1, q2, q3⟩, .inr ⟨rfl, rfl⟩⟩
    intro w2 I2 hO hS
    rw [List.append_nil, set_mid _ _ _ _ hpm] at hO
    refine go_wr (by omega) (by omega) ?_
    refine ⟨hO.ix hi0 (hlt _), ?_⟩
    refine OwnD.store hO hS hi0 (hlt _) (⟨endH n p, endH n p + 1, c.fields⟩ : CellD) [] (Nat.le_of_ble_eq_true rfl) (fun r' K hr => ?_) ?_
    · rw [nth_mid _ _ _ hpm] at hr
      obtain ⟨f, rfl, q1, q2, q3⟩ := hr
      exact ⟨K, ⟨f, rfl, q1, hin2, q3⟩, .inr ⟨rfl, rfl⟩⟩
    intro w3 I3 hO hS
    rw [List.append_nil, set_mid _ _ _ _ hpm] at hO
    refine go_wr (by omega) (by omega) ?_
    refine ⟨hO.ix hi0 (hlt _), ?_⟩
    obtain ⟨row, K, Rest, hrow, hperm, hcell, hput⟩ := hO.borrow hi0 (hlt _)
    rw [nth_mid _ _ _ hpm] at hrow
    obtain ⟨f, rfl, q1, q2, hF⟩ := hrow
    have hS2 : St u w3 (K ++ (Rest ++ R)) := hS.perm (by rw [← List.append_assoc]; exact hperm.symm.append_right _)
    refine ⟨f, hcell w3 (hS2.items (I := Rest)) 2 _ rfl, ?_⟩
    refine Trip.mono' (c_markIntS (hF u) hS2 (by omega) (by omega)) ?_
    rintro _ w4 ⟨K', rfl, hF', hS4⟩
    have hO4 := hput (⟨endH n p, endH n p + 1, marks (endH n p + 1 + 1) c.fields.length⟩ : CellD) K' ⟨f, rfl, q1, q2, hF'.toAll⟩
    rw [set_mid _ _ _ _ hpm] at hO4
    refine ⟨_, rfl, ?_⟩
    refine go_wr (by omega) (by omega) ?_
    refine ⟨⟨p ++ [c], r, K' ++ Rest, by rw [hpr]; simp, by simp, by rw [endH_snoc]; simp only; omega, ?_, by rw [List.append_assoc]; exact hS4⟩, by omega⟩
    rw [markH_snoc, List.append_assoc]
    rw [show endH n p + 2 = endH n p + 1 + 1 from by omega]
    exact hO4
  · simp only [decide_eq_true_eq, decide_eq_false_iff_not, Bool.and_eq_true, Bool.and_eq_false_iff, Bool.or_eq_true, Bool.or_eq_false_iff, Bool.not_eq_true', Bool.not_eq_false', Bool.not_true, Bool.not_false, Bool.false_eq_true, Bool.true_eq_false, Int.not_lt, Int.not_le, ge_iff_le, gt_iff_lt, Bool.not_eq_eq_eq_not, Bool.true_or, Bool.or_true, Bool.false_or, Bool.or_false, Bool.true_and, Bool.and_true, false_or, or_false, true_and, and_true, Decidable.not_not] at hi
    have hr : r = [] := List.eq_nil_of_length_eq_zero (by omega)
    subst hr
    rw [List.append_nil] at hpr hO
    subst hpr
    exact ⟨I, rfl, hO, hS⟩

theorem c_heldIntS {k : Nat} (hx : Read v x (marks n k)) (n0 : 0 ≤ n) (n1 : n ≤ 1000000000000000) : Fn Try.prog 96 #[x.val, .int .i64 n] v (.int .i64 (n + k)) := by
  refine of96 _ _ _ _ ?_
  unfold vc96
  have hn := hx.n
  have hl := hx.le
  rw [marks_len] at hn hl
  refine ⟨fun n3 i w => n3 = n + i ∧ Sub v w ∧ 0 ≤ i ∧ i ≤ k, fun _ i _ => (k - i).toNat, ⟨by omega, .refl v, by omega, by omega⟩, ?_⟩
  rintro n3 i w ⟨rfl, hs, h0, h1⟩
  dsimp only
  refine ⟨fun hi => ?_, fun hi => ?_⟩
  · simp only [decide_eq_true_eq, decide_eq_false_iff_not, Bool.and_eq_true, Bool.and_eq_false_iff, Bool.or_eq_true, Bool.or_eq_false_iff, Bool.not_eq_true', Bool.not_eq_false', Bool.not_true, Bool.not_false, Bool.false_eq_true, Bool.true_eq_false, Int.not_lt, Int.not_le, ge_iff_le, gt_iff_lt, Bool.not_eq_eq_eq_not, Bool.true_or, Bool.or_true, Bool.false_or, Bool.or_false, Bool.true_and, Bool.and_true, false_or, or_false, true_and, and_true, Decidable.not_not] at hi
    refine go_ix hx h0 (by rw [marks_len]; omega) ?_
    refine ld_int (hx.mono hs) h0 (by rw [marks_len]; omega) ?_
    rw [marks_nth h0 (by omega)]
    intro _ _
    refine ⟨fun hc => ?_, fun hc => ?_⟩
    · simp only [decide_eq_true_eq, decide_eq_false_iff_not, Bool.and_eq_true, Bool.and_eq_false_iff, Bool.or_eq_true, Bool.or_eq_false_iff, Bool.not_eq_true', Bool.not_eq_false', Bool.not_true, Bool.not_false, Bool.false_eq_true, Bool.true_eq_false, Int.not_lt, Int.not_le, ge_iff_le, gt_iff_lt, Bool.not_eq_eq_eq_not, Bool.true_or, Bool.or_true, Bool.false_or, Bool.or_false, Bool.true_and, Bool.and_true, false_or, or_false, true_and, and_true, Decidable.not_not] at hc
      exact (hc trivial).elim
    · refine go_wr (by omega) (by omega) ?_
      refine go_wr (by omega) (by omega) ?_
      exact ⟨⟨by omega, hs, by omega, by omega⟩, by omega⟩
  · simp only [decide_eq_true_eq, decide_eq_false_iff_not, Bool.and_eq_true, Bool.and_eq_false_iff, Bool.or_eq_true, Bool.or_eq_false_iff, Bool.not_eq_true', Bool.not_eq_false', Bool.not_true, Bool.not_false, Bool.false_eq_true, Bool.true_eq_false, Int.not_lt, Int.not_le, ge_iff_le, gt_iff_lt, Bool.not_eq_eq_eq_not, Bool.true_or, Bool.or_true, Bool.false_or, Bool.or_false, Bool.true_and, Bool.and_true, false_or, or_false, true_and, and_true, Decidable.not_not] at hi
    exact ⟨by rw [show i = (k : Int) from by omega], hs⟩

theorem c_heldCellS (hx : Read v x (markH n h)) (n0 : 0 ≤ n) (n1 : n ≤ 10000000000000) (hl : h.length ≤ 2000000) (hb : ∀ c ∈ h, c.fields.length ≤ 2000000) : Fn Try.prog 39 #[x.val, .int .i64 n] v (.int .i64 (endH n h)) := by
  refine of39 _ _ _ _ ?_
  unfold vc39
  have hn := hx.n
  rw [markH_len] at hn
  refine ⟨fun n3 i w => ∃ (p r : List CellD), h = p ++ r ∧ i = p.length ∧ n3 = endH n p ∧ Sub v w, fun _ i _ => (h.length - i).toNat, ⟨[], h, rfl, rfl, rfl, .refl v⟩, ?_⟩
  rintro n3 i w ⟨p, r, hpr, rfl, rfl, hs⟩
  dsimp only
  have hle : h.length = p.length + r.length := by rw [hpr, List.length_append]
  obtain ⟨e1, e2⟩ := endH_le p n (fun c hc => hb c (by rw [hpr]; exact List.mem_append_left _ hc))
  have hml := markH_len p n
  refine ⟨fun hi => ?_, fun hi => ?_⟩
  · simp only [decide_eq_true_eq, decide_eq_false_iff_not, Bool.and_eq_true, Bool.and_eq_false_iff, Bool.or_eq_true, Bool.or_eq_false_iff, Bool.not_eq_true', Bool.not_eq_false', Bool.not_true, Bool.not_false, Bool.false_eq_true, Bool.true_eq_false, Int.not_lt, Int.not_le, ge_iff_le, gt_iff_lt, Bool.not_eq_eq_eq_not, Bool.true_or, Bool.or_true, Bool.false_or, Bool.or_false, Bool.true_and, Bool.and_true, false_or, or_false, true_and, and_true, Decidable.not_not] at hi
    obtain ⟨c, r, rfl⟩ : ∃ c r', r = c :: r' := by
      cases r with
      | nil => simp at hle; omega
      | cons c r => exact ⟨c, r, rfl⟩
    simp only [List.length_cons] at hle
    have hc := hb c (by rw [hpr]; simp)
    have hi0 : (0 : Int) ≤ (p.length : Int) := by omega
    have hlt : (p.length : Int) < (markH n h).length := by rw [markH_len]; omega
    have hnth : nth (markH n h) (p.length : Int) = ⟨endH n p, endH n p + 1, marks (endH n p + 2) c.fields.length⟩ := by
      rw [hpr, markH_app]
      exact nth_mid _ _ _ (by rw [hml])
    refine go_ix hx hi0 hlt ?_
    refine ld_count (hx.src hs) hi0 hlt ?_
    rw [hnth]
    intro _ _
    refine ⟨fun hc => ?_, fun _ => ?_⟩
    · simp only [decide_eq_true_eq, decide_eq_false_iff_not, Bool.and_eq_true, Bool.and_eq_false_iff, Bool.or_eq_true, Bool.or_eq_false_iff, Bool.not_eq_true', Bool.not_eq_false', Bool.not_true, Bool.not_false, Bool.false_eq_true, Bool.true_eq_false, Int.not_lt, Int.not_le, ge_iff_le, gt_iff_lt, Bool.not_eq_eq_eq_not, Bool.true_or, Bool.or_true, Bool.false_or, Bool.or_false, Bool.true_and, Bool.and_true, false_or, or_false, true_and, and_true, Decidable.not_not] at hc; exact (hc trivial).elim
    refine go_wr (by omega) (by omega) ?_
    refine go_ix hx hi0 hlt ?_
    refine ld_tag (hx.src hs) hi0 hlt ?_
    rw [hnth]
    intro _ _
    refine ⟨fun hc => ?_, fun _ => ?_⟩
    · simp only [decide_eq_true_eq, decide_eq_false_iff_not, Bool.and_eq_true, Bool.and_eq_false_iff, Bool.or_eq_true, Bool.or_eq_false_iff, Bool.not_eq_true', Bool.not_eq_false', Bool.not_true, Bool.not_false, Bool.false_eq_true, Bool.true_eq_false, Int.not_lt, Int.not_le, ge_iff_le, gt_iff_lt, Bool.not_eq_eq_eq_not, Bool.true_or, Bool.or_true, Bool.false_or, Bool.or_false, Bool.true_and, Bool.and_true, false_or, or_false, true_and, and_true, Decidable.not_not] at hc; exact (hc trivial).elim
    refine go_wr (by omega) (by omega) ?_
    refine go_ix hx hi0 hlt ?_
    refine ld_fields (hx.src hs) hi0 hlt ?_
    rw [hnth]
    intro f hf
    replace hf := hf.mono hs
    rw [show endH n p + 2 = endH n p + 1 + 1 from by omega] at hf
    refine ⟨_, c_heldIntS hf (by omega) (by omega), fun hc => ?_, fun _ => ?_⟩
    · simp only [decide_eq_true_eq, decide_eq_false_iff_not, Bool.and_eq_true, Bool.and_eq_false_iff, Bool.or_eq_true, Bool.or_eq_false_iff, Bool.not_eq_true', Bool.not_eq_false', Bool.not_true, Bool.not_false, Bool.false_eq_true, Bool.true_eq_false, Int.not_lt, Int.not_le, ge_iff_le, gt_iff_lt, Bool.not_eq_eq_eq_not, Bool.true_or, Bool.or_true, Bool.false_or, Bool.or_false, Bool.true_and, Bool.and_true, false_or, or_false, true_and, and_true, Decidable.not_not] at hc; omega
    refine go_wr (by omega) (by omega) ?_
    exact ⟨⟨p ++ [c], r, by rw [hpr]; simp, by simp, by rw [endH_snoc]; omega, hs⟩, by omega⟩
  · simp only [decide_eq_true_eq, decide_eq_false_iff_not, Bool.and_eq_true, Bool.and_eq_false_iff, Bool.or_eq_true, Bool.or_eq_false_iff, Bool.not_eq_true', Bool.not_eq_false', Bool.not_true, Bool.not_false, Bool.false_eq_true, Bool.true_eq_false, Int.not_lt, Int.not_le, ge_iff_le, gt_iff_lt, Bool.not_eq_eq_eq_not, Bool.true_or, Bool.or_true, Bool.false_or, Bool.or_false, Bool.true_and, Bool.and_true, false_or, or_false, true_and, and_true, Decidable.not_not] at hi
    have hr : r = [] := List.eq_nil_of_length_eq_zero (by omega)
    subst hr
    rw [List.append_nil] at hpr
    subst hpr
    exact ⟨rfl, hs⟩

def markZ (n : Int) (z : LazyD) : LazyD := ⟨markH n z.cells, marks (endH n z.cells) z.pend.length⟩
def endZ (n : Int) (z : LazyD) : Int := endH n z.cells + z.pend.length
end
theorem endZ_pos {z : LazyD} (hb : ∀ c ∈ z.cells, c.fields.length ≤ 2000000) : 1 ≤ endZ 1 z := by
  have := (endH_le z.cells 1 hb).1
  unfold endZ
  omega


section
variable {u v w : World} {x y xf s t : Sl} {l ws fs pend : List Int} {h g : List CellD} {z z' : LazyD} {b m n k f : Int} {a : Addr} {I J K L R R1 : Items} {F F1 : Items → Items} {q : Nat → List Value → Prop}

theorem c_implSettleD (hC : Cel a [x.val, y.val] I) (hO : OwnD x z.cells J) (hP : Own u y z.pend K) (hS : St u w (I ++ (J ++ (K ++ R)))) (hL : LZ z.cells z.pend []) (hm0 : 0 ≤ m) (hm1 : m ≤ 1000000000) (hl : z.cells.length ≤ 1000000000) :
    Trip Try.prog 65 #[.pointer (some (a.add 0)), .int .i64 m] w fun r w' => ∃ x' y' I' J' K', r = .tuple #[] ∧ Cel a [x'.val, y'.val] I' ∧ OwnD x' (settleL m.toNat z).cells J' ∧ Own u y' (settleL m.toNat z).pend K' ∧ St u w' (I' ++ (J' ++ (K' ++ R))) := by
  refine of65 _ _ _ _ ?_
  unfold vc65
  refine ⟨fun i w => ∃ x y I J K, Cel a [x.val, y.val] I ∧ OwnD x (settleN (m - i).toNat z).cells J ∧ Own u y (settleN (m - i).toNat z).pend K ∧ St u w (I ++ (J ++ (K ++ R))) ∧ 0 ≤ i ∧ i ≤ m, fun i _ => i.toNat,
    ⟨x, y, I, J, K, hC, by rw [show (m - m).toNat = 0 from by omega]; exact hO, by rw [show (m - m).toNat = 0 from by omega]; exact hP, hS, hm0, by omega⟩, ?_⟩
  clear hC hO hP hS
  rintro i w ⟨x, y, I, J, K, hC, hO, hP, hS, h0, h1⟩
  obtain ⟨L1, hlen, _⟩ := LZ.settleN (m - i).toNat hL
  have hsucc : 0 < i → settleN (m - (i - 1)).toNat z = settle1 (settleN (m - i).toNat z) := fun hi => by rw [show (m - (i - 1)).toNat = (m - i).toNat + 1 from by omega]; exact settleN_succ' _ _
  have hend : ¬ (0 < i ∧ (settleN (m - i).toNat z).pend ≠ []) → settleN m.toNat z = settleN (m - i).toNat z := by
    intro hc
    rcases Int.lt_or_le 0 i with hlt | hge
    · have he : (settleN (m - i).toNat z).pend = [] := Classical.byContradiction fun hn => hc ⟨hlt, hn⟩
      rw [show m.toNat = (m - i).toNat + i.toNat from by omega, settleN_add, settleN_nil he]
    · rw [show m - i = m from by omega]
  dsimp only
  generalize hzz : settleN (m - i).toNat z = zz at *
  obtain ⟨cells, pend⟩ := zz
  simp only at hO hP L1 hlen
  have hyn := hP.n
  have hxn := hO.n
  refine ⟨y, fun _ => Cel.load hC hS rfl, fun hc => ?_, fun hc => ?_⟩
  · simp only [decide_eq_true_eq, decide_eq_false_iff_not, Bool.and_eq_true, Bool.and_eq_false_iff, Bool.or_eq_true, Bool.or_eq_false_iff, Bool.not_eq_true', Bool.not_eq_false', Bool.not_true, Bool.not_false, Bool.false_eq_true, Bool.true_eq_false, Int.not_lt, Int.not_le, ge_iff_le, gt_iff_lt, Bool.not_eq_eq_eq_not, Bool.true_or, Bool.or_true, Bool.false_or, Bool.or_false, Bool.true_and, Bool.and_true, false_or, or_false, true_and, and_true, Decidable.not_not] at hc
    obtain ⟨at_, r, rfl⟩ : ∃ at_ r, pend = at_ :: r := by
      cases pend with
      | nil => simp at hyn; omega
      | cons a r => exact ⟨a, r, rfl⟩
    obtain ⟨p0, p1, p2⟩ := L1.pr at_ List.mem_cons_self
    refine ⟨y, Cel.load hC hS rfl, ?_⟩
    refine go_oix hP (Int.le_refl 0) (by simp) ?_
    refine ld_int (Own.read hP hS) (Int.le_refl 0) (by simp) ?_
    have hn0 : nth (at_ :: r) 0 = at_ := rfl
    rw [hn0]
    intro a0 a1
    refine ⟨y, Cel.load hC hS rfl, ⟨by omega, by simp at hyn; omega⟩, ?_⟩
    have hcut := hP.cut (lo := 1) (hi := y.n) (by omega) (by simp at hyn; omega) (by omega)
    have hct : ((at_ :: r).take (y.n : Int).toNat).drop (1 : Int).toNat = r := by rw [hyn]; simp
    rw [hct] at hcut
    refine Cel.store hC hS (by simp) ?_
    intro w2 I2 hC hS
    simp [putR] at hC
    refine ⟨x, Cel.load hC hS rfl, hO.ix p0 p1, ?_⟩
    have hix := hO.ix p0 p1
    obtain ⟨row, K0, Rest, ⟨f, rfl, _, _, hFF⟩, hperm, hcell, hstore⟩ := hO.apart p0 p1
    have hF := hFF u
    have hS2 : St u w2 (I2 ++ (K0 ++ (Rest ++ (K ++ R)))) := hS.perm (List.Perm.append_left I2 (by rw [← List.append_assoc]; exact hperm.symm.append_right _))
    clear hS hO
    refine ⟨f, hcell w2 (hS2.items (I := Rest)) 2 _ rfl, ?_⟩
    refine ⟨x, Cel.load hC hS2 rfl, hix, ?_⟩
    refine hstore (off := 0) (a := free0) (J := []) hS2 (Nat.le_refl 3) ⟨⟨none, 0, 0⟩, rfl, zero_in, zero_in, fun u => Own.nil u⟩ ?_
    intro w5 J5 hO5 hS
    rw [List.append_nil] at hO5
    have hpop := LZ.pop (h := cells) (p := at_) (r := r) L1
    have hfn : f.n = (nth cells at_).fields.length := hF.n
    have hfl := (L1.cell _ (nth_mem (l := cells) p0 p1)).2.2.1
    have hs1 : settle1 (⟨cells, at_ :: r⟩ : LazyD) = dropF ⟨cells.set at_.toNat free0, r⟩ (nth cells at_).fields := rfl
    generalize hz1 : (⟨cells.set at_.toNat free0, r⟩ : LazyD) = z1 at *
    have hz1c : z1.cells = cells.set at_.toNat free0 := by rw [← hz1]
    have hz1p : z1.pend = r := by rw [← hz1]
    rw [← hz1c] at hO5 hpop
    rw [← hz1p] at hcut hpop
    refine ⟨fun j w => ∃ x y I J K, Cel a [x.val, y.val] I ∧ OwnD x (dropF z1 ((nth cells at_).fields.take j.toNat)).cells J ∧ Own u y (dropF z1 ((nth cells at_).fields.take j.toNat)).pend K ∧ St u w (I ++ (J ++ (K ++ (K0 ++ R)))) ∧ 0 ≤ j ∧ j ≤ (nth cells at_).fields.length ∧
        LZ (dropF z1 ((nth cells at_).fields.take j.toNat)).cells (dropF z1 ((nth cells at_).fields.take j.toNat)).pend ((nth cells at_).fields.drop j.toNat),
      fun j _ => ((nth cells at_).fields.length - j).toNat, ⟨x, _, I2, J5, K, hC, hO5, hcut, hS.to, by omega, by omega, hpop⟩, ?_⟩
    clear hO5 hcut hS hP hC hS2
    rintro j w ⟨x, y, I, J, K, hC, hO, hP, hS, j0, j1, L2⟩
    dsimp only
    have hdl := dropF_len z1 ((nth cells at_).fields.take j.toNat)
    have hz1l : z1.cells.length = cells.length := by rw [hz1c]; simp
    have hpl := pend_len L2
    refine ⟨fun hj => ?_, fun hj => ?_⟩
    · simp only [decide_eq_true_eq, decide_eq_false_iff_not, Bool.and_eq_true, Bool.and_eq_false_iff, Bool.or_eq_true, Bool.or_eq_false_iff, Bool.not_eq_true', Bool.not_eq_false', Bool.not_true, Bool.not_false, Bool.false_eq_true, Bool.true_eq_false, Int.not_lt, Int.not_le, ge_iff_le, gt_iff_lt, Bool.not_eq_eq_eq_not, Bool.true_or, Bool.or_true, Bool.false_or, Bool.or_false, Bool.true_and, Bool.and_true, false_or, or_false, true_and, and_true, Decidable.not_not] at hj
      have hlt : j.toNat < (nth cells at_).fields.length := by omega
      have hdrop : (nth cells at_).fields.drop j.toNat = nth (nth cells at_).fields j :: (nth cells at_).fields.drop (j + 1).toNat := by
        rw [show (j + 1).toNat = j.toNat + 1 from by omega, List.drop_eq_getElem_cons hlt]
        congr 1
        exact (nth_of (i := j) (by simp [hlt])).symm
      have htake := take_nth (l := (nth cells at_).fields) j0 (by omega)
      have hstep := dropF_snoc z1 (nth (nth cells at_).fields j) ((nth cells at_).fields.take j.toNat)
      rw [← htake] at hstep
      rw [hdrop] at L2
      refine go_oix hF j0 (by omega) ?_
      refine ld_int (Own.read hF hS) j0 (by omega) ?_
      intro b0 b1
      refine ⟨x, Cel.load hC hS rfl, _, _, c_liveAt (OwnD.read hO hS) ⟨b0, b1⟩, fun hq => ?_, fun hq => ?_⟩
      · obtain ⟨l1, l2, l3⟩ := live_iff.1 hq
        have hat : atI (nth (nth cells at_).fields j) = nth (nth cells at_).fields j - 1000 := atI_of l1 b1
        rw [hat]
        refine Trip.mono' (c_implDropD hC hO hP hS (by omega) l2 l3 (by omega) (by omega)) ?_
        rintro _ w6 ⟨y6, I6, J6, K6, rfl, hC6, hO6, hP6, hS⟩
        refine ⟨rfl, ?_⟩
        refine go_wr (by omega) (by omega) ?_
        rw [if_pos l1] at hstep
        refine ⟨⟨x, y6, I6, J6, K6, hC6, by rw [hstep]; exact hO6, by rw [hstep]; exact hP6, hS, by omega, by omega, by rw [hstep]; exact L2.lower l1⟩, by omega⟩
      · have hnp : ¬ 1000 ≤ nth (nth cells at_).fields j := fun hp => by have := L2.head hp; rw [this] at hq; cases hq
        refine go_wr (by omega) (by omega) ?_
        rw [if_neg hnp] at hstep
        refine ⟨⟨x, y, I, J, K, hC, by rw [hstep]; exact hO, by rw [hstep]; exact hP, hS, by omega, by omega, by rw [hstep]; exact L2.skip hnp⟩, by omega⟩
    · simp only [decide_eq_true_eq, decide_eq_false_iff_not, Bool.and_eq_true, Bool.and_eq_false_iff, Bool.or_eq_true, Bool.or_eq_false_iff, Bool.not_eq_true', Bool.not_eq_false', Bool.not_true, Bool.not_false, Bool.false_eq_true, Bool.true_eq_false, Int.not_lt, Int.not_le, ge_iff_le, gt_iff_lt, Bool.not_eq_eq_eq_not, Bool.true_or, Bool.or_true, Bool.false_or, Bool.or_false, Bool.true_and, Bool.and_true, false_or, or_false, true_and, and_true, Decidable.not_not] at hj
      refine go_wr (by omega) (by omega) ?_
      rw [take_all (by omega)] at hO hP
      rw [← hs1, ← hsucc hc.1] at hO hP
      exact ⟨⟨x, y, I, J, K, hC, hO, hP, hS.to, by omega, by omega⟩, by omega⟩
  · simp only [decide_eq_true_eq, decide_eq_false_iff_not, Bool.and_eq_true, Bool.and_eq_false_iff, Bool.or_eq_true, Bool.or_eq_false_iff, Bool.not_eq_true', Bool.not_eq_false', Bool.not_true, Bool.not_false, Bool.false_eq_true, Bool.true_eq_false, Int.not_lt, Int.not_le, ge_iff_le, gt_iff_lt, Bool.not_eq_eq_eq_not, Bool.true_or, Bool.or_true, Bool.false_or, Bool.or_false, Bool.true_and, Bool.and_true, false_or, or_false, true_and, and_true, Decidable.not_not] at hc
    have he := hend (by
      rintro ⟨q1, q2⟩
      rcases hc with hc | hc
      · omega
      · exact q2 (List.eq_nil_of_length_eq_zero (by show pend.length = 0; omega)))
    have hres : settleL m.toNat z = ⟨cells.take (trimN cells pend cells.length), pend⟩ := by unfold settleL trimZ; rw [he]
    refine ⟨x, Cel.load hC hS rfl, ?_⟩
    refine ⟨fun i w => St u w (I ++ (J ++ (K ++ R))) ∧ 0 ≤ i ∧ i ≤ cells.length ∧ ∀ j : Int, i ≤ j → j < cells.length → (nth cells j).count = 0 ∧ j ∉ pend, fun i _ => i.toNat, ⟨hS, by omega, by omega, fun j h1 h2 => by omega⟩, ?_⟩
    clear hS
    rintro i w ⟨hS, h0, h1, h2⟩
    dsimp only
    have hi : decide (i > 0) = true → 0 ≤ i - 1 ∧ i - 1 < cells.length := fun hc => by simp only [decide_eq_true_eq, decide_eq_false_iff_not, Bool.and_eq_true, Bool.and_eq_false_iff, Bool.or_eq_true, Bool.or_eq_false_iff, Bool.not_eq_true', Bool.not_eq_false', Bool.not_true, Bool.not_false, Bool.false_eq_true, Bool.true_eq_false, Int.not_lt, Int.not_le, ge_iff_le, gt_iff_lt, Bool.not_eq_eq_eq_not, Bool.true_or, Bool.or_true, Bool.false_or, Bool.or_false, Bool.true_and, Bool.and_true, false_or, or_false, true_and, and_true, Decidable.not_not] at hc; omega
    refine ⟨x, fun _ => Cel.load hC hS rfl, i - 1, fun _ => wrap_i64 (by omega) (by omega), fun hc => hO.ix (hi hc).1 (hi hc).2, ?_⟩
    refine ld_countg (OwnD.src hO hS) hi ?_
    refine ⟨y, fun _ => Cel.load hC hS rfl, i - 1, fun _ => wrap_i64 (by omega) (by omega), _, fun _ => c_contains (Own.read hP hS), fun hc => ?_, fun hc => ?_⟩
    · simp only [decide_eq_true_eq, decide_eq_false_iff_not, Bool.and_eq_true, Bool.and_eq_false_iff, Bool.or_eq_true, Bool.or_eq_false_iff, Bool.not_eq_true', Bool.not_eq_false', Bool.not_true, Bool.not_false, Bool.false_eq_true, Bool.true_eq_false, Int.not_lt, Int.not_le, ge_iff_le, gt_iff_lt, Bool.not_eq_eq_eq_not, Bool.true_or, Bool.or_true, Bool.false_or, Bool.or_false, Bool.true_and, Bool.and_true, false_or, or_false, true_and, and_true, Decidable.not_not] at hc
      refine go_wr (by omega) (by omega) ?_
      refine ⟨⟨hS, by omega, by omega, fun j j0 j1 => ?_⟩, by omega⟩
      by_cases e : j = i - 1
      · rw [e]; exact ⟨hc.1.2, hc.2⟩
      · exact h2 j (by omega) j1
    · simp only [decide_eq_true_eq, decide_eq_false_iff_not, Bool.and_eq_true, Bool.and_eq_false_iff, Bool.or_eq_true, Bool.or_eq_false_iff, Bool.not_eq_true', Bool.not_eq_false', Bool.not_true, Bool.not_false, Bool.false_eq_true, Bool.true_eq_false, Int.not_lt, Int.not_le, ge_iff_le, gt_iff_lt, Bool.not_eq_eq_eq_not, Bool.true_or, Bool.or_true, Bool.false_or, Bool.or_false, Bool.true_and, Bool.and_true, false_or, or_false, true_and, and_true, Decidable.not_not] at hc
      have e : trimN cells pend cells.length = i.toNat := trimN_eq (by omega) (fun k k0 k1 => h2 k (by omega) k1) (fun hp => by
        rw [Int.toNat_of_nonneg h0]
        rcases hc with (hc | hc) | hc
        · omega
        · exact .inl hc
        · exact .inr hc)
      have hcut := hO.cut (hi := i) h0 h1
      refine ⟨x, Cel.load hC hS rfl, ⟨by omega, by omega, ?_⟩, ?_⟩
      · obtain ⟨_, hr, _⟩ := OwnD.read hO hS; have := hr.2.1; omega
      refine Cel.store hC hS (by simp) ?_
      intro w6 I6 hC hS
      simp [putR] at hC
      refine ⟨_, y, I6, J, K, rfl, hC, ?_, ?_, hS⟩
      · rw [hres, e]; exact hcut
      · rw [hres]; exact hP

theorem stlR_bound (hl : z.cells.length ≤ 2000000) (hb : ∀ c ∈ z.cells, c.fields.length ≤ 2000000) : (stlR z n).cells.length ≤ 2000000 ∧ ∀ c ∈ (stlR z n).cells, c.fields.length ≤ 2000000 := by
  by_cases hd : stlOk z n
  · rw [stlR_t hd]
    have L := (vlazy_iff.1 hd.1).1
    have h1 := (settleL_len n.toNat (.inr hd.1)).1
    have L1 := (vlazy_iff.1 (settle_valid L n.toNat)).1
    exact ⟨by omega, fun c hc => by have := (L1.cell c hc).2.2.1; omega⟩
  · rw [stlR_f hd]
    exact ⟨Nat.zero_le _, fun c hc => by cases hc⟩
end

end Go.Vc

namespace Go.Vc
open Go Go.Proofs Go.RowKit
set_option linter.all false
section
variable {u v w : World} {x y : Sl} {z : LazyD} {m n k : Int} {a : Addr}

theorem c_implSettledHeapD (hx : Read v x z.cells) (hy : Read v y z.pend) (hl : z.cells.length ≤ 1000000000) :
    Mk Try.prog 22 #[.agg #[x.val, y.val]] v fun r J => ∃ x' : Sl, r = .tuple #[x'.val, .bool (vlazyB z)] ∧ OwnD x' (shR z) J := by
  refine of22 _ _ _ _ ?_
  unfold vc22
  refine ⟨_, c_validLazyI hx hy, fun hc => ?_, fun hc => ?_⟩
  · have hb : ¬ vlazy z := fun hd => by rw [vlazyB_iff.2 hd] at hc; cases hc
    exact ⟨[], .refl v, ⟨none, 0, 0⟩, by rw [vlazyB_f hb]; rfl, by rw [shR_f hb]; exact OwnD.nil⟩
  simp only [decide_eq_true_eq, decide_eq_false_iff_not, Bool.and_eq_true, Bool.and_eq_false_iff, Bool.or_eq_true, Bool.or_eq_false_iff, Bool.not_eq_true', Bool.not_eq_false', Bool.not_true, Bool.not_false, Bool.false_eq_true, Bool.true_eq_false, Int.not_lt, Int.not_le, ge_iff_le, gt_iff_lt, Bool.not_eq_eq_eq_not, Bool.true_or, Bool.or_true, Bool.false_or, Bool.or_false, Bool.true_and, Bool.and_true, false_or, or_false, true_and, and_true, Decidable.not_not] at hc
  have hd := vlazyB_iff.1 hc
  have hL := (vlazy_iff.1 hd).1
  refine Mk.use (c_cloneLazyD hx hy) (.refl v) ?_
  rintro _ w2 _ ⟨c, p, I2, J2, rfl, hO, hP, rfl⟩ hS hsub
  replace hS : St v w2 (I2 ++ (J2 ++ [])) := hS.perm (by simp)
  refine ⟨_, _, rfl, ?_⟩
  refine St.box (vals := [.slice none 0 0, .slice none 0 0]) hS fun a w3 I3 hC hS hs => ?_
  refine Cel.store hC hS (by simp) ?_
  intro w4 I4 hC hS
  simp [putR] at hC
  let Inv : Nat → World → Prop := fun n w => ∃ (k : Nat) (x y : Sl) (I J K : Items), n = nf z - 100000 * k ∧ Cel a [x.val, y.val] I ∧ OwnD x (settleL (100000 * k) z).cells J ∧ Own v y (settleL (100000 * k) z).pend K ∧ St v w (I ++ (J ++ (K ++ [])))
  refine ⟨fun w => ∃ n, Inv n w, fun w => leastM fun n => Inv n w, ⟨_, 0, c, p, I4, I2, J2, rfl, hC, by rw [Nat.mul_zero, settle_zero hd]; exact hO, by rw [Nat.mul_zero, settle_zero hd]; exact hP, hS⟩, ?_⟩
  clear hC hO hP hS
  intro w hI
  replace hI := leastM_spec hI
  dsimp only
  generalize leastM (fun n => Inv n w) = n at *
  obtain ⟨k, x, y, I, J, K, hn, hC, hO, hP, hS⟩ := hI
  have hyn := hP.n
  refine ⟨y, Cel.load hC hS rfl, fun hc => ?_, fun hc => ?_⟩
  · simp only [decide_eq_true_eq, decide_eq_false_iff_not, Bool.and_eq_true, Bool.and_eq_false_iff, Bool.or_eq_true, Bool.or_eq_false_iff, Bool.not_eq_true', Bool.not_eq_false', Bool.not_true, Bool.not_false, Bool.false_eq_true, Bool.true_eq_false, Int.not_lt, Int.not_le, ge_iff_le, gt_iff_lt, Bool.not_eq_eq_eq_not, Bool.true_or, Bool.or_true, Bool.false_or, Bool.or_false, Bool.true_and, Bool.and_true, false_or, or_false, true_and, and_true, Decidable.not_not] at hc
    have hlt : 100000 * k < nf z := by
      rcases Nat.lt_or_ge (100000 * k) (nf z) with h | h
      · exact h
      · have := (settle_all hL h).2
        rw [this] at hyn; simp at hyn; omega
    have L2 := (vlazy_iff.1 (settle_valid hL (100000 * k))).1
    have hle : (settleL (100000 * k) z).cells.length ≤ z.cells.length := (settleL_len (100000 * k) (.inr hd)).1
    refine Trip.mono' (c_implSettleD (m := 100000) hC hO hP hS L2 (by omega) (by omega) (by omega)) ?_
    rintro _ w5 ⟨x5, y5, I5, J5, K5, rfl, hC, hO, hP, hS⟩
    have hag : settleL (100000 : Int).toNat (settleL (100000 * k) z) = settleL (100000 * (k + 1)) z := by rw [settle_again hL, Nat.mul_add]; rfl
    rw [hag] at hO hP
    exact ⟨rfl, rfl, rfl, loopEnd (k := nf z - 100000 * (k + 1)) ⟨k + 1, x5, y5, I5, J5, K5, rfl, hC, hO, hP, hS⟩ (by omega)⟩
  · simp only [decide_eq_true_eq, decide_eq_false_iff_not, Bool.and_eq_true, Bool.and_eq_false_iff, Bool.or_eq_true, Bool.or_eq_false_iff, Bool.not_eq_true', Bool.not_eq_false', Bool.not_true, Bool.not_false, Bool.false_eq_true, Bool.true_eq_false, Int.not_lt, Int.not_le, ge_iff_le, gt_iff_lt, Bool.not_eq_eq_eq_not, Bool.true_or, Bool.or_true, Bool.false_or, Bool.or_false, Bool.true_and, Bool.and_true, false_or, or_false, true_and, and_true, Decidable.not_not] at hc
    have hp : (settleL (100000 * k) z).pend = [] := List.eq_nil_of_length_eq_zero (by omega)
    rw [settle_full hL hp] at hO
    exact ⟨x, Cel.load hC hS rfl, J, (hS.to : St v w (J ++ [])).left, x, by rw [vlazyB_iff.2 hd], by rw [shR_t hd]; exact hO⟩

theorem shR_bound (hl : z.cells.length ≤ 2000000) : (shR z).length ≤ 2000000 ∧ ∀ c ∈ shR z, c.fields.length ≤ 2000000 := by
  by_cases hd : vlazy z
  · rw [shR_t hd]
    have L := (vlazy_iff.1 hd).1
    have h1 := (settleL_len z.cells.length (.inr hd)).1
    have L1 := (vlazy_iff.1 (settle_valid L z.cells.length)).1
    exact ⟨by omega, fun c hc => by have := (L1.cell c hc).2.2.1; omega⟩
  · rw [shR_f hd]
    exact ⟨Nat.zero_le _, fun c hc => by cases hc⟩
end

end Go.Vc

namespace Go.Vc
open Go Go.Proofs Go.RowKit
set_option linter.all false

def lzP (z : LazyD) (k : Nat) : Prop := k = z.cells.length ∨ (k < z.cells.length ∧ (nth z.cells k).count = 0 ∧ (k : Int) ∉ z.pend)
/-- the first cell that is free -/
noncomputable def lzIdx (z : LazyD) : Nat := leastM (lzP z)
theorem lzIdx_eq {z : LazyD} {i : Nat} (h : lzP z i) (hs : ∀ j, j < i → ¬ lzP z j) : lzIdx z = i := by
  have h1 := leastM_spec (p := lzP z) ⟨i, h⟩
  have h2 := leastM_le h
  unfold lzIdx
  rcases Nat.lt_or_ge (leastM (lzP z)) i with hlt | hge
  · exact absurd h1 (hs _ hlt)
  · omega
theorem lzIdx_le (z : LazyD) : lzIdx z ≤ z.cells.length := leastM_le (p := lzP z) (.inl rfl)
def alZ (z : LazyD) (k n : Int) (fs : List Int) : LazyD := ⟨placeL z.cells k ⟨1, n, fs⟩, z.pend⟩
def alOk (z : LazyD) (n : Int) (fs : List Int) : Prop := vlazy z ∧ (∀ f ∈ fs, word (settleL 1 z).cells f = true) ∧ vlazy (alZ (settleL 1 z) (lzIdx (settleL 1 z)) n fs)
noncomputable def alB (z : LazyD) (n : Int) (fs : List Int) : Bool := @decide (alOk z n fs) (Classical.propDecidable _)
theorem alB_t {z : LazyD} {n : Int} {fs : List Int} (h : alOk z n fs) : alB z n fs = true := by unfold alB; exact (@decide_eq_true_iff _ (Classical.propDecidable _)).2 h
theorem alB_f {z : LazyD} {n : Int} {fs : List Int} (h : ¬ alOk z n fs) : alB z n fs = false := by unfold alB; exact (@decide_eq_false_iff_not _ (Classical.propDecidable _)).2 h
noncomputable def alR (z : LazyD) (n : Int) (fs : List Int) : LazyD := bif alB z n fs then alZ (settleL 1 z) (lzIdx (settleL 1 z)) n fs else ⟨[], []⟩
noncomputable def alN (z : LazyD) (n : Int) (fs : List Int) : Int := bif alB z n fs then 1000 + (lzIdx (settleL 1 z) : Int) else 0

section
variable {u v w : World} {x y xf s t : Sl} {l ws fs pend : List Int} {h g : List CellD} {z z' : LazyD} {b m n k f : Int} {a : Addr} {I J K L R R1 : Items} {F F1 : Items → Items} {q : Nat → List Value → Prop}

theorem c_lazyIndex (hx : Read v x z.cells) (hy : Read v y z.pend) : Fn Try.prog 73 #[.agg #[x.val, y.val]] v (.int .i64 (lzIdx z)) := by
  refine of73 _ _ _ _ ?_
  unfold vc73
  have hn := hx.n
  have hl := hx.le
  refine ⟨fun i w => Sub v w ∧ 0 ≤ i ∧ i ≤ z.cells.length ∧ ∀ j : Nat, (j : Int) < i → ¬ lzP z j, fun i _ => (z.cells.length - i).toNat, ⟨.refl v, by omega, by omega, fun j hj => by omega⟩, ?_⟩
  rintro i w ⟨hs, h0, h1, h2⟩
  dsimp only
  refine ⟨fun hi => ?_, fun hi => ?_⟩
  · simp only [decide_eq_true_eq, decide_eq_false_iff_not, Bool.and_eq_true, Bool.and_eq_false_iff, Bool.or_eq_true, Bool.or_eq_false_iff, Bool.not_eq_true', Bool.not_eq_false', Bool.not_true, Bool.not_false, Bool.false_eq_true, Bool.true_eq_false, Int.not_lt, Int.not_le, ge_iff_le, gt_iff_lt, Bool.not_eq_eq_eq_not, Bool.true_or, Bool.or_true, Bool.false_or, Bool.or_false, Bool.true_and, Bool.and_true, false_or, or_false, true_and, and_true, Decidable.not_not] at hi
    refine go_ix hx h0 (by omega) ?_
    refine ld_count (hx.src hs) h0 (by omega) ?_
    intro a0 a1
    refine ⟨_, fun _ => c_specIsIn (hy.mono hs), fun hc => ?_, fun hc => ?_⟩
    · simp only [decide_eq_true_eq, decide_eq_false_iff_not, Bool.and_eq_true, Bool.and_eq_false_iff, Bool.or_eq_true, Bool.or_eq_false_iff, Bool.not_eq_true', Bool.not_eq_false', Bool.not_true, Bool.not_false, Bool.false_eq_true, Bool.true_eq_false, Int.not_lt, Int.not_le, ge_iff_le, gt_iff_lt, Bool.not_eq_eq_eq_not, Bool.true_or, Bool.or_true, Bool.false_or, Bool.or_false, Bool.true_and, Bool.and_true, false_or, or_false, true_and, and_true, Decidable.not_not] at hc
      have e : lzIdx z = i.toNat := lzIdx_eq (.inr ⟨by omega, by rw [Int.toNat_of_nonneg h0]; exact hc.1, by rw [Int.toNat_of_nonneg h0]; exact hc.2⟩) (fun j hj => h2 j (by omega))
      exact ⟨by rw [e, Int.toNat_of_nonneg h0], hs⟩
    · simp only [decide_eq_true_eq, decide_eq_false_iff_not, Bool.and_eq_true, Bool.and_eq_false_iff, Bool.or_eq_true, Bool.or_eq_false_iff, Bool.not_eq_true', Bool.not_eq_false', Bool.not_true, Bool.not_false, Bool.false_eq_true, Bool.true_eq_false, Int.not_lt, Int.not_le, ge_iff_le, gt_iff_lt, Bool.not_eq_eq_eq_not, Bool.true_or, Bool.or_true, Bool.false_or, Bool.or_false, Bool.true_and, Bool.and_true, false_or, or_false, true_and, and_true, Decidable.not_not] at hc
      refine go_wr (by omega) (by omega) ?_
      refine ⟨rfl, rfl, ⟨hs, by omega, by omega, fun j hj hp => ?_⟩, by omega⟩
      by_cases e : (j : Int) = i
      · rcases hp with hp | ⟨hp1, hp2, hp3⟩
        · omega
        · rw [e] at hp2 hp3
          rcases hc with hc | hc
          · exact hc hp2
          · exact hp3 hc
      · exact h2 j (by omega) hp
  · simp only [decide_eq_true_eq, decide_eq_false_iff_not, Bool.and_eq_true, Bool.and_eq_false_iff, Bool.or_eq_true, Bool.or_eq_false_iff, Bool.not_eq_true', Bool.not_eq_false', Bool.not_true, Bool.not_false, Bool.false_eq_true, Bool.true_eq_false, Int.not_lt, Int.not_le, ge_iff_le, gt_iff_lt, Bool.not_eq_eq_eq_not, Bool.true_or, Bool.or_true, Bool.false_or, Bool.or_false, Bool.true_and, Bool.and_true, false_or, or_false, true_and, and_true, Decidable.not_not] at hi
    have e : lzIdx z = z.cells.length := lzIdx_eq (.inl rfl) (fun j hj => h2 j (by omega))
    exact ⟨by rw [e, hn], hs⟩

theorem c_specLazyAlloc (hx : Read v x z.cells) (hy : Read v y z.pend) (hf : Read v xf fs) (hn : InI n) (hl : z.cells.length ≤ 1000000000) :
    Mk Try.prog 17 #[.agg #[x.val, y.val], .int .i64 n, xf.val] v fun r J => ∃ x' y' : Sl, ∃ J1 J2, r = .tuple #[.agg #[x'.val, y'.val], .int .i64 (alN z n fs)] ∧ OwnD x' (alR z n fs).cells J1 ∧ Own v y' (alR z n fs).pend J2 ∧ J = J1 ++ J2 := by
  refine of17 _ _ _ _ _ _ ?_
  unfold vc17
  have hfn := hf.n
  have hfl := hf.le
  have bad : ¬ alOk z n fs → ∀ w I, St v w (I ++ []) → ∃ J, St v w J ∧ ∃ x' y' : Sl, ∃ J1 J2, Value.tuple #[.agg #[.slice none 0 0, .slice none 0 0], .int .i64 0] = .tuple #[.agg #[x'.val, y'.val], .int .i64 (alN z n fs)] ∧ OwnD x' (alR z n fs).cells J1 ∧ Own v y' (alR z n fs).pend J2 ∧ J = J1 ++ J2 :=
    fun hb w I hS => ⟨[], hS.to, ⟨none, 0, 0⟩, ⟨none, 0, 0⟩, [], [], by unfold alN; rw [alB_f hb]; rfl, by unfold alR; rw [alB_f hb]; exact OwnD.nil, by unfold alR; rw [alB_f hb]; exact Own.nil v, rfl⟩
  refine ⟨_, c_validLazy hx hy, fun hc => bad (fun hd => ?_) v [] (.refl v), fun hc => ?_⟩
  · rw [vlazyB_iff.2 hd.1] at hc; cases hc
  simp only [decide_eq_true_eq, decide_eq_false_iff_not, Bool.and_eq_true, Bool.and_eq_false_iff, Bool.or_eq_true, Bool.or_eq_false_iff, Bool.not_eq_true', Bool.not_eq_false', Bool.not_true, Bool.not_false, Bool.false_eq_true, Bool.true_eq_false, Int.not_lt, Int.not_le, ge_iff_le, gt_iff_lt, Bool.not_eq_eq_eq_not, Bool.true_or, Bool.or_true, Bool.false_or, Bool.or_false, Bool.true_and, Bool.and_true, false_or, or_false, true_and, and_true, Decidable.not_not] at hc
  have hd := vlazyB_iff.1 hc
  refine Mk.use (c_copyLazy hx hy) (.refl v) ?_
  rintro _ w1 _ ⟨t, s, J1, J2, rfl, hO, hP, rfl⟩ hS hsub
  replace hS : St v w1 (J1 ++ (J2 ++ [])) := hS.perm (by simp)
  refine ⟨_, _, rfl, ?_⟩
  refine Trip.mono' (c_specSettle (m := 1) hO hP hS (vlazy_iff.1 hd).1 (by omega) (by omega) hl) ?_
  rintro _ w2 ⟨x7, y7, J7, K7, rfl, hO, hP, hS⟩
  rw [show (1 : Int).toNat = 1 from rfl] at hO hP
  have hl7 := (settleL_len 1 (.inr hd)).1
  refine ⟨_, _, rfl, ?_⟩
  refine ⟨fun i w => St v w (J7 ++ (K7 ++ [])) ∧ 0 ≤ i ∧ i ≤ fs.length ∧ ∀ f ∈ fs.take i.toNat, word (settleL 1 z).cells f = true, fun i _ => (fs.length - i).toNat, ⟨hS, by omega, by omega, by simp⟩, ?_⟩
  clear hS
  rintro i w ⟨hS, h0, h1, h2⟩
  dsimp only
  refine ⟨fun hi => ?_, fun hi => ?_⟩
  · simp only [decide_eq_true_eq, decide_eq_false_iff_not, Bool.and_eq_true, Bool.and_eq_false_iff, Bool.or_eq_true, Bool.or_eq_false_iff, Bool.not_eq_true', Bool.not_eq_false', Bool.not_true, Bool.not_false, Bool.false_eq_true, Bool.true_eq_false, Int.not_lt, Int.not_le, ge_iff_le, gt_iff_lt, Bool.not_eq_eq_eq_not, Bool.true_or, Bool.or_true, Bool.false_or, Bool.or_false, Bool.true_and, Bool.and_true, false_or, or_false, true_and, and_true, Decidable.not_not] at hi
    have hm := nth_mem (l := fs) h0 (by omega)
    refine go_ix hf h0 (by omega) ?_
    refine ld_int (hf.mono hS.sub) h0 (by omega) ?_
    intro a0 a1
    refine ⟨_, c_isWord (OwnD.read hO hS) ⟨a0, a1⟩, fun hc => bad (fun hd => ?_) w (J7 ++ K7) (hS.perm (by simp)), fun hc => ?_⟩
    · rw [hd.2.1 _ hm] at hc; cases hc
    · simp only [decide_eq_true_eq, decide_eq_false_iff_not, Bool.and_eq_true, Bool.and_eq_false_iff, Bool.or_eq_true, Bool.or_eq_false_iff, Bool.not_eq_true', Bool.not_eq_false', Bool.not_true, Bool.not_false, Bool.false_eq_true, Bool.true_eq_false, Int.not_lt, Int.not_le, ge_iff_le, gt_iff_lt, Bool.not_eq_eq_eq_not, Bool.true_or, Bool.or_true, Bool.false_or, Bool.or_false, Bool.true_and, Bool.and_true, false_or, or_false, true_and, and_true, Decidable.not_not] at hc
      refine go_wr (by omega) (by omega) ?_
      refine ⟨rfl, rfl, rfl, rfl, rfl, rfl, ⟨hS, by omega, by omega, ?_⟩, by omega⟩
      rw [take_nth h0 (by omega)]; intro f hf2
      rcases List.mem_append.1 hf2 with hf2 | hf2
      · exact h2 f hf2
      · rw [List.mem_singleton.1 hf2]; exact hc
  · simp only [decide_eq_true_eq, decide_eq_false_iff_not, Bool.and_eq_true, Bool.and_eq_false_iff, Bool.or_eq_true, Bool.or_eq_false_iff, Bool.not_eq_true', Bool.not_eq_false', Bool.not_true, Bool.not_false, Bool.false_eq_true, Bool.true_eq_false, Int.not_lt, Int.not_le, ge_iff_le, gt_iff_lt, Bool.not_eq_eq_eq_not, Bool.true_or, Bool.or_true, Bool.false_or, Bool.or_false, Bool.true_and, Bool.and_true, false_or, or_false, true_and, and_true, Decidable.not_not] at hi
    rw [take_all (by omega)] at h2
    have hk := lzIdx_le (settleL 1 z)
    refine ⟨_, c_lazyIndex (OwnD.read hO hS) (Own.read hP hS), ?_⟩
    refine Trip.mono' (c_place hO hS (hf.mono hS.sub) (by omega) (by omega) hn (by omega)) ?_
    rintro _ w3 ⟨x8, I8, rfl, hO, hS⟩
    refine ⟨_, rfl, _, c_validLazy (z := alZ (settleL 1 z) (lzIdx (settleL 1 z)) n fs) (OwnD.read hO hS) (Own.read hP hS), fun hc => bad (fun hd => ?_) w3 (I8 ++ K7) (hS.perm (by simp)), fun hc => ?_⟩
    · rw [vlazyB_iff.2 hd.2.2] at hc; cases hc
    · simp only [decide_eq_true_eq, decide_eq_false_iff_not, Bool.and_eq_true, Bool.and_eq_false_iff, Bool.or_eq_true, Bool.or_eq_false_iff, Bool.not_eq_true', Bool.not_eq_false', Bool.not_true, Bool.not_false, Bool.false_eq_true, Bool.true_eq_false, Int.not_lt, Int.not_le, ge_iff_le, gt_iff_lt, Bool.not_eq_eq_eq_not, Bool.true_or, Bool.or_true, Bool.false_or, Bool.or_false, Bool.true_and, Bool.and_true, false_or, or_false, true_and, and_true, Decidable.not_not] at hc
      have hok : alOk z n fs := ⟨hd, h2, vlazyB_iff.1 hc⟩
      refine go_wr (by omega) (by omega) ?_
      refine ⟨I8 ++ K7, hS.perm (by simp), x8, y7, I8, K7, by unfold alN; rw [alB_t hok]; rfl, by unfold alR; rw [alB_t hok]; exact hO, by unfold alR; rw [alB_t hok]; exact hP, rfl⟩

theorem c_implLazyAllocD (hx : Read v x z.cells) (hy : Read v y z.pend) (hf : Read v xf fs) (hn : InI n) (hl : z.cells.length ≤ 1000000000) :
    Mk Try.prog 16 #[.agg #[x.val, y.val], .int .i64 n, xf.val] v fun r J => ∃ x' y' : Sl, ∃ J1 J2, r = .tuple #[.agg #[x'.val, y'.val], .int .i64 (alN z n fs)] ∧ OwnD x' (alR z n fs).cells J1 ∧ Own v y' (alR z n fs).pend J2 ∧ J = J1 ++ J2 := by
  refine of16 _ _ _ _ _ _ ?_
  unfold vc16
  have hfn := hf.n
  have hfl := hf.le
  have bad : ¬ alOk z n fs → ∀ w I, St v w (I ++ []) → ∃ J, St v w J ∧ ∃ x' y' : Sl, ∃ J1 J2, Value.tuple #[.agg #[.slice none 0 0, .slice none 0 0], .int .i64 0] = .tuple #[.agg #[x'.val, y'.val], .int .i64 (alN z n fs)] ∧ OwnD x' (alR z n fs).cells J1 ∧ Own v y' (alR z n fs).pend J2 ∧ J = J1 ++ J2 :=
    fun hb w I hS => ⟨[], hS.to, ⟨none, 0, 0⟩, ⟨none, 0, 0⟩, [], [], by unfold alN; rw [alB_f hb]; rfl, by unfold alR; rw [alB_f hb]; exact OwnD.nil, by unfold alR; rw [alB_f hb]; exact Own.nil v, rfl⟩
  refine ⟨_, c_validLazyI hx hy, fun hc => bad (fun hd => ?_) v [] (.refl v), fun hc => ?_⟩
  · rw [vlazyB_iff.2 hd.1] at hc; cases hc
  simp only [decide_eq_true_eq, decide_eq_false_iff_not, Bool.and_eq_true, Bool.and_eq_false_iff, Bool.or_eq_true, Bool.or_eq_false_iff, Bool.not_eq_true', Bool.not_eq_false', Bool.not_true, Bool.not_false, Bool.false_eq_true, Bool.true_eq_false, Int.not_lt, Int.not_le, ge_iff_le, gt_iff_lt, Bool.not_eq_eq_eq_not, Bool.true_or, Bool.or_true, Bool.false_or, Bool.or_false, Bool.true_and, Bool.and_true, false_or, or_false, true_and, and_true, Decidable.not_not] at hc
  have hd := vlazyB_iff.1 hc
  refine Mk.use (c_cloneLazyD hx hy) (.refl v) ?_
  rintro _ w1 _ ⟨c, p, I2, J2, rfl, hO, hP, rfl⟩ hS hsub
  replace hS : St v w1 (I2 ++ (J2 ++ [])) := hS.perm (by simp)
  refine ⟨_, _, rfl, ?_⟩
  refine St.box (vals := [.slice none 0 0, .slice none 0 0]) hS fun a w3 I3 hC hS hs => ?_
  refine Cel.store hC hS (by simp) ?_
  intro w4 I4 hC hS
  simp [putR] at hC
  refine Trip.mono' (c_implSettleD (m := 1) hC hO hP hS (vlazy_iff.1 hd).1 (by omega) (by omega) hl) ?_
  rintro _ w5 ⟨x7, y7, I, J, K, rfl, hC, hO, hP, hS⟩
  rw [show (1 : Int).toNat = 1 from rfl] at hO hP
  have hl7 := (settleL_len 1 (.inr hd)).1
  have hon := hO.n
  refine ⟨rfl, ?_⟩
  refine ⟨fun i w => St v w (I ++ (J ++ (K ++ []))) ∧ 0 ≤ i ∧ i ≤ fs.length ∧ ∀ f ∈ fs.take i.toNat, word (settleL 1 z).cells f = true, fun i _ => (fs.length - i).toNat, ⟨hS, by omega, by omega, by simp⟩, ?_⟩
  clear hS
  rintro i w ⟨hS, h0, h1, h2⟩
  dsimp only
  refine ⟨fun hi => ?_, fun hi => ?_⟩
  · simp only [decide_eq_true_eq, decide_eq_false_iff_not, Bool.and_eq_true, Bool.and_eq_false_iff, Bool.or_eq_true, Bool.or_eq_false_iff, Bool.not_eq_true', Bool.not_eq_false', Bool.not_true, Bool.not_false, Bool.false_eq_true, Bool.true_eq_false, Int.not_lt, Int.not_le, ge_iff_le, gt_iff_lt, Bool.not_eq_eq_eq_not, Bool.true_or, Bool.or_true, Bool.false_or, Bool.or_false, Bool.true_and, Bool.and_true, false_or, or_false, true_and, and_true, Decidable.not_not] at hi
    have hm := nth_mem (l := fs) h0 (by omega)
    refine go_ix hf h0 (by omega) ?_
    refine ld_int (hf.mono hS.sub) h0 (by omega) ?_
    intro a0 a1
    refine ⟨x7, Cel.load hC hS rfl, _, c_wordValid (OwnD.read hO hS) ⟨a0, a1⟩, fun hc => bad (fun hd => ?_) w (I ++ (J ++ K)) (hS.perm (by simp)), fun hc => ?_⟩
    · rw [hd.2.1 _ hm] at hc; cases hc
    · simp only [decide_eq_true_eq, decide_eq_false_iff_not, Bool.and_eq_true, Bool.and_eq_false_iff, Bool.or_eq_true, Bool.or_eq_false_iff, Bool.not_eq_true', Bool.not_eq_false', Bool.not_true, Bool.not_false, Bool.false_eq_true, Bool.true_eq_false, Int.not_lt, Int.not_le, ge_iff_le, gt_iff_lt, Bool.not_eq_eq_eq_not, Bool.true_or, Bool.or_true, Bool.false_or, Bool.or_false, Bool.true_and, Bool.and_true, false_or, or_false, true_and, and_true, Decidable.not_not] at hc
      refine go_wr (by omega) (by omega) ?_
      refine ⟨rfl, rfl, rfl, rfl, ⟨hS, by omega, by omega, ?_⟩, by omega⟩
      rw [take_nth h0 (by omega)]; intro f hf2
      rcases List.mem_append.1 hf2 with hf2 | hf2
      · exact h2 f hf2
      · rw [List.mem_singleton.1 hf2]; exact hc
  simp only [decide_eq_true_eq, decide_eq_false_iff_not, Bool.and_eq_true, Bool.and_eq_false_iff, Bool.or_eq_true, Bool.or_eq_false_iff, Bool.not_eq_true', Bool.not_eq_false', Bool.not_true, Bool.not_false, Bool.false_eq_true, Bool.true_eq_false, Int.not_lt, Int.not_le, ge_iff_le, gt_iff_lt, Bool.not_eq_eq_eq_not, Bool.true_or, Bool.or_true, Bool.false_or, Bool.or_false, Bool.true_and, Bool.and_true, false_or, or_false, true_and, and_true, Decidable.not_not] at hi
  rw [take_all (by omega)] at h2
  refine Mk.use (c_cloneInts hf) hS ?_
  rintro _ w6 M ⟨tf, rfl, hM⟩ hS hsub
  refine ⟨_, rfl, ?_⟩
  generalize hzz : settleL 1 z = zz at *
  refine ⟨fun i w => St v w (M ++ (I ++ (J ++ (K ++ [])))) ∧ 0 ≤ i ∧ i ≤ zz.cells.length ∧ ∀ j : Nat, (j : Int) < i → ¬ lzP zz j, fun i _ => (zz.cells.length - i).toNat, ⟨hS, by omega, by omega, fun j hj => by omega⟩, ?_⟩
  clear hS
  rintro i w ⟨hS, i0, i1, h3⟩
  dsimp only
  have rng : decide (i < (x7.n : Int)) = true → 0 ≤ i ∧ i < zz.cells.length := fun hc => by simp only [decide_eq_true_eq, decide_eq_false_iff_not, Bool.and_eq_true, Bool.and_eq_false_iff, Bool.or_eq_true, Bool.or_eq_false_iff, Bool.not_eq_true', Bool.not_eq_false', Bool.not_true, Bool.not_false, Bool.false_eq_true, Bool.true_eq_false, Int.not_lt, Int.not_le, ge_iff_le, gt_iff_lt, Bool.not_eq_eq_eq_not, Bool.true_or, Bool.or_true, Bool.false_or, Bool.or_false, Bool.true_and, Bool.and_true, false_or, or_false, true_and, and_true, Decidable.not_not] at hc; omega
  refine ⟨x7, Cel.load hC hS rfl, x7, fun _ => Cel.load hC hS rfl, fun hc => hO.ix (rng hc).1 (rng hc).2, ?_⟩
  refine ld_countg (OwnD.src hO hS) rng ?_
  refine ⟨y7, fun _ _ => Cel.load hC hS rfl, _, fun _ _ => c_contains (Own.read hP hS), fun hc => ?_, fun hc => ?_⟩
  · simp only [decide_eq_true_eq, decide_eq_false_iff_not, Bool.and_eq_true, Bool.and_eq_false_iff, Bool.or_eq_true, Bool.or_eq_false_iff, Bool.not_eq_true', Bool.not_eq_false', Bool.not_true, Bool.not_false, Bool.false_eq_true, Bool.true_eq_false, Int.not_lt, Int.not_le, ge_iff_le, gt_iff_lt, Bool.not_eq_eq_eq_not, Bool.true_or, Bool.or_true, Bool.false_or, Bool.or_false, Bool.true_and, Bool.and_true, false_or, or_false, true_and, and_true, Decidable.not_not] at hc
    refine go_wr (by omega) (by omega) ?_
    refine ⟨rfl, rfl, rfl, rfl, rfl, rfl, rfl, ⟨hS, by omega, by omega, fun j hj hp => ?_⟩, by omega⟩
    by_cases e : (j : Int) = i
    · rcases hp with hp | ⟨hp1, hp2, hp3⟩
      · omega
      · rw [e] at hp2 hp3
        rcases hc.2 with hc | hc
        · exact hc hp2
        · exact hp3 hc
    · exact h3 j (by omega) hp
  have hidx : lzIdx zz = i.toNat := by
    refine lzIdx_eq ?_ (fun j hj => h3 j (by omega))
    simp only [decide_eq_true_eq, decide_eq_false_iff_not, Bool.and_eq_true, Bool.and_eq_false_iff, Bool.or_eq_true, Bool.or_eq_false_iff, Bool.not_eq_true', Bool.not_eq_false', Bool.not_true, Bool.not_false, Bool.false_eq_true, Bool.true_eq_false, Int.not_lt, Int.not_le, ge_iff_le, gt_iff_lt, Bool.not_eq_eq_eq_not, Bool.true_or, Bool.or_true, Bool.false_or, Bool.or_false, Bool.true_and, Bool.and_true, false_or, or_false, true_and, and_true, Decidable.not_not] at hc
    by_cases e : i = zz.cells.length
    · exact .inl (by omega)
    · refine .inr ⟨by omega, ?_⟩
      rw [Int.toNat_of_nonneg i0]
      rcases hc with hc | hc
      · omega
      · exact hc
  have hk : (lzIdx zz : Int) = i := by omega
  have fin : ∀ (w : World) (x9 : Sl) (I9 J9 : Items), Cel a [x9.val, y7.val] I9 → OwnD x9 (placeL zz.cells i ⟨1, n, fs⟩) J9 → St v w (I9 ++ (J9 ++ (K ++ []))) →
      ∃ x47 y48 : Sl, (w.cell? (a.add 0) = some x47.val ∧ w.cell? (a.add 1) = some y48.val) ∧ ∃ q49 : Bool, (Trip Try.prog 24 #[.agg #[x47.val, y48.val]] w fun r w' => r = .bool q49 ∧ Sub w w') ∧
        ((!q49) = true → ∃ J, St v w J ∧ ∃ x' y' : Sl, ∃ J1 J2, Value.tuple #[.agg #[.slice none 0 0, .slice none 0 0], .int .i64 0] = .tuple #[.agg #[x'.val, y'.val], .int .i64 (alN z n fs)] ∧ OwnD x' (alR z n fs).cells J1 ∧ Own v y' (alR z n fs).pend J2 ∧ J = J1 ++ J2) ∧
        ((!q49) = false → ∃ x52 y53 : Sl, (w.cell? (a.add 0) = some x52.val ∧ w.cell? (a.add 1) = some y53.val) ∧ ∃ n54 : Int, Wr .i64 (1000 + i) n54 ∧ ∃ J, St v w J ∧ ∃ x' y' : Sl, ∃ J1 J2, Value.tuple #[.agg #[x52.val, y53.val], .int .i64 n54] = .tuple #[.agg #[x'.val, y'.val], .int .i64 (alN z n fs)] ∧ OwnD x' (alR z n fs).cells J1 ∧ Own v y' (alR z n fs).pend J2 ∧ J = J1 ++ J2) := by
    intro w x9 I9 J9 hC hO hS
    have hcell : (alZ zz (lzIdx zz) n fs).cells = placeL zz.cells i ⟨1, n, fs⟩ := by unfold alZ; rw [hk]
    refine ⟨x9, y7, ⟨Cel.load hC hS rfl, Cel.load hC hS rfl⟩, _, c_validLazyI (z := alZ zz (lzIdx zz) n fs) (by rw [hcell]; exact OwnD.read hO hS) (Own.read hP hS), fun hc => bad (fun hd => ?_) w (I9 ++ (J9 ++ K)) (hS.perm (by simp)), fun hc => ?_⟩
    · have := hd.2.2
      rw [hzz] at this
      rw [vlazyB_iff.2 this] at hc; cases hc
    · simp only [decide_eq_true_eq, decide_eq_false_iff_not, Bool.and_eq_true, Bool.and_eq_false_iff, Bool.or_eq_true, Bool.or_eq_false_iff, Bool.not_eq_true', Bool.not_eq_false', Bool.not_true, Bool.not_false, Bool.false_eq_true, Bool.true_eq_false, Int.not_lt, Int.not_le, ge_iff_le, gt_iff_lt, Bool.not_eq_eq_eq_not, Bool.true_or, Bool.or_true, Bool.false_or, Bool.or_false, Bool.true_and, Bool.and_true, false_or, or_false, true_and, and_true, Decidable.not_not] at hc
      have hok : alOk z n fs := ⟨hd, by rw [hzz]; exact h2, by rw [hzz]; exact vlazyB_iff.1 hc⟩
      refine ⟨x9, y7, ⟨Cel.load hC hS rfl, Cel.load hC hS rfl⟩, ?_⟩
      refine go_wr (by omega) (by omega) ?_
      refine ⟨J9 ++ K, (hS.to : St v w (J9 ++ (K ++ []))).perm (by simp), x9, y7, J9, K, ?_, ?_, ?_, rfl⟩
      · unfold alN; rw [alB_t hok, hzz, ← hk]; rfl
      · unfold alR; rw [alB_t hok, hzz]; exact hcell ▸ hO
      · unfold alR; rw [alB_t hok, hzz]; exact hP
  refine ⟨x7, Cel.load hC hS rfl, fun he => ?_, fun he => ?_⟩
  · simp only [decide_eq_true_eq, decide_eq_false_iff_not, Bool.and_eq_true, Bool.and_eq_false_iff, Bool.or_eq_true, Bool.or_eq_false_iff, Bool.not_eq_true', Bool.not_eq_false', Bool.not_true, Bool.not_false, Bool.false_eq_true, Bool.true_eq_false, Int.not_lt, Int.not_le, ge_iff_le, gt_iff_lt, Bool.not_eq_eq_eq_not, Bool.true_or, Bool.or_true, Bool.false_or, Bool.or_false, Bool.true_and, Bool.and_true, false_or, or_false, true_and, and_true, Decidable.not_not] at he
    refine ⟨x7, Cel.load hC hS rfl, ?_⟩
    refine St.buildR hS ?_ ?_ ?_ ?_
    · simp [Value.cells]
    · rfl
    · decide
    intro x8 w8 I8 hB hS hs _
    refine ⟨_, rfl, ?_⟩
    refine OwnD.push' (a := (⟨1, n, fs⟩ : CellD)) hO hS (hB.rd hS.items) ⟨tf, rfl, one_in, hn, hM.toAll⟩ (by omega) (by decide) ?_
    intro x9 w9 J9 hO9 hS
    refine ⟨_, rfl, ?_⟩
    refine Cel.store hC hS (by simp) ?_
    intro w10 I10 hC hS
    simp [putR] at hC
    exact fin w10 x9 I10 J9 hC (by rw [placeL, if_pos (by omega)]; exact hO9) hS.to
  · simp only [decide_eq_true_eq, decide_eq_false_iff_not, Bool.and_eq_true, Bool.and_eq_false_iff, Bool.or_eq_true, Bool.or_eq_false_iff, Bool.not_eq_true', Bool.not_eq_false', Bool.not_true, Bool.not_false, Bool.false_eq_true, Bool.true_eq_false, Int.not_lt, Int.not_le, ge_iff_le, gt_iff_lt, Bool.not_eq_eq_eq_not, Bool.true_or, Bool.or_true, Bool.false_or, Bool.or_false, Bool.true_and, Bool.and_true, false_or, or_false, true_and, and_true, Decidable.not_not] at he
    have hlt : i < zz.cells.length := by omega
    refine ⟨x7, Cel.load hC hS rfl, hO.ix i0 hlt, ?_⟩
    refine OwnD.store hO hS i0 hlt (⟨1, n, fs⟩ : CellD) M (Nat.le_refl 3) (fun r K hr => ⟨M, ?_, .inl rfl⟩) ?_
    · obtain ⟨f, rfl, _⟩ := hr
      exact ⟨tf, rfl, one_in, hn, hM.toAll⟩
    · intro w9 J9 hO9 hS
      exact fin w9 x7 I (J9 ++ M) hC (by rw [placeL, if_neg (by omega)]; exact hO9) (hS.perm (by
        classical
        exact List.perm_iff_count.2 fun a => by simp only [List.count_append]; omega))

theorem alR_bound (hl : z.cells.length ≤ 1048576) (hf : fs.length ≤ 1048576) : (alR z n fs).cells.length ≤ 2000000 ∧ ∀ c ∈ (alR z n fs).cells, c.fields.length ≤ 2000000 := by
  unfold alR
  by_cases hd : alOk z n fs
  · rw [alB_t hd]
    simp only [cond_true, alZ]
    have L := (vlazy_iff.1 hd.1).1
    have h1 := (settleL_len 1 (.inr hd.1)).1
    have L1 := (vlazy_iff.1 (settle_valid L 1)).1
    have h2 := length_placeL (settleL 1 z).cells (lzIdx (settleL 1 z)) ⟨1, n, fs⟩
    refine ⟨by omega, fun c hc => ?_⟩
    have hc2 : c ∈ (settleL 1 z).cells ∨ c = ⟨1, n, fs⟩ := by
      unfold placeL at hc
      split at hc
      · rcases List.mem_append.1 hc with hc | hc
        · exact .inl hc
        · exact .inr (List.mem_singleton.1 hc)
      · exact mem_set_of hc
    rcases hc2 with hc | rfl
    · have := (L1.cell c hc).2.2.1; omega
    · show fs.length ≤ 2000000; omega
  · rw [alB_f hd]
    exact ⟨Nat.zero_le _, fun c hc => by cases hc⟩
end

end Go.Vc
