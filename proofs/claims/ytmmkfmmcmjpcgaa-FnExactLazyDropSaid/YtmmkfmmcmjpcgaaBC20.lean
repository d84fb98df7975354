/- Part of the proofs about the heaps: a law is joined in the text whose name ends in W and the law. -/
import Derived.Test.YtmmkfmmcmjpcgaaBC16
namespace Go.Vc
open Go Go.Proofs Go.RowKit
set_option linter.all false

abbrev BM : Nat := 9223372036854775807
/-- the room that is left -/
def szI (b : Int) (n : Nat) : Int := if b - n < 0 then -1 else b - n
def szHf : Int → List CellD → Int
  | b, [] => b
  | b, c :: r => if szI b c.fields.length < 0 then -1 else szHf (szI b c.fields.length) r
def szH (b : Int) (h : List CellD) : Int := if b - h.length < 0 then -1 else szHf (b - h.length) h
theorem szI_le {b : Int} {n : Nat} (h : 0 ≤ szI b n) : szI b n = b - n ∧ (n : Int) ≤ b := by unfold szI at h ⊢; split at h <;> (try omega)
theorem szHf_cons (b : Int) (c : CellD) (r : List CellD) : szHf b (c :: r) = if szI b c.fields.length < 0 then -1 else szHf (szI b c.fields.length) r := rfl
theorem szHf_nil (b : Int) : szHf b [] = b := rfl
theorem szHf_le : ∀ (h : List CellD) {b : Int}, 0 ≤ szHf b h → szHf b h ≤ b ∧ ∀ c ∈ h, (c.fields.length : Int) ≤ b
  | [], b, h => ⟨Int.le_refl b, fun c hc => by cases hc⟩
  | c :: r, b, h => by
    unfold szHf at h ⊢
    split at h
    · omega
    · rename_i h2
      rw [if_neg h2]
      obtain ⟨e1, e2⟩ := szI_le (b := b) (n := c.fields.length) (by omega)
      obtain ⟨i1, i2⟩ := szHf_le r h
      refine ⟨by omega, fun d hd => ?_⟩
      rcases List.mem_cons.1 hd with rfl | hd
      · exact e2
      · have := i2 d hd; omega
theorem szH_le {h : List CellD} {b : Int} (h0 : 0 ≤ szH b h) : szH b h ≤ b ∧ (h.length : Int) ≤ b ∧ ∀ c ∈ h, (c.fields.length : Int) ≤ b := by
  unfold szH at h0 ⊢
  split at h0
  · omega
  · rename_i h2
    rw [if_neg h2]
    obtain ⟨i1, i2⟩ := szHf_le h h0
    exact ⟨by omega, by omega, fun c hc => by have := i2 c hc; omega⟩

section
variable {u v w : World} {x y xf s t : Sl} {l ws fs pend : List Int} {h g : List CellD} {z z' : LazyD} {b m n k f : Int} {a : Addr} {I J K L R R1 : Items} {F F1 : Items → Items}

theorem c_szIntS (hx : x.n = l.length) (hl : l.length ≤ BM) (hb0 : 0 ≤ b) (hb : b ≤ 1048576) : Fn Try.prog 64 #[x.val, .int .i64 b] v (.int .i64 (szI b l.length)) := by
  refine of64 _ _ _ _ ?_
  unfold vc64
  have hl : l.length ≤ 9223372036854775807 := hl
  refine go_wr (by omega) (by omega) ?_
  unfold szI
  refine ⟨fun hc => ?_, fun hc => ?_⟩
  · simp only [decide_eq_true_eq, decide_eq_false_iff_not, Bool.and_eq_true, Bool.and_eq_false_iff, Bool.or_eq_true, Bool.or_eq_false_iff, Bool.not_eq_true', Bool.not_eq_false', Bool.not_true, Bool.not_false, Bool.false_eq_true, Bool.true_eq_false, Int.not_lt, Int.not_le, ge_iff_le, gt_iff_lt, Bool.not_eq_eq_eq_not, Bool.true_or, Bool.or_true, Bool.false_or, Bool.or_false, Bool.true_and, Bool.and_true, false_or, or_false, true_and, and_true, Decidable.not_not] at hc
    rw [if_pos (by omega)]; exact ⟨rfl, .refl v⟩
  · simp only [decide_eq_true_eq, decide_eq_false_iff_not, Bool.and_eq_true, Bool.and_eq_false_iff, Bool.or_eq_true, Bool.or_eq_false_iff, Bool.not_eq_true', Bool.not_eq_false', Bool.not_true, Bool.not_false, Bool.false_eq_true, Bool.true_eq_false, Int.not_lt, Int.not_le, ge_iff_le, gt_iff_lt, Bool.not_eq_eq_eq_not, Bool.true_or, Bool.or_true, Bool.false_or, Bool.or_false, Bool.true_and, Bool.and_true, false_or, or_false, true_and, and_true, Decidable.not_not] at hc
    rw [if_neg (by omega), hx]; exact ⟨rfl, .refl v⟩

theorem c_szCell {c : CellD} {f : Sl} (hf : f.n = c.fields.length) (hl : c.fields.length ≤ BM) (hb0 : 0 ≤ b) (hb : b ≤ 1048576) :
    Fn Try.prog 94 #[.agg #[.int .i64 c.count, .int .i64 c.tag, f.val], .int .i64 b] v (.int .i64 (szI b c.fields.length)) := by
  refine of94 _ _ _ _ _ _ ?_
  unfold vc94
  refine ⟨_, c_szIntS hf hl hb0 hb, fun hc => ⟨?_, .refl v⟩, fun _ => ⟨rfl, .refl v⟩⟩
  simp only [decide_eq_true_eq, decide_eq_false_iff_not, Bool.and_eq_true, Bool.and_eq_false_iff, Bool.or_eq_true, Bool.or_eq_false_iff, Bool.not_eq_true', Bool.not_eq_false', Bool.not_true, Bool.not_false, Bool.false_eq_true, Bool.true_eq_false, Int.not_lt, Int.not_le, ge_iff_le, gt_iff_lt, Bool.not_eq_eq_eq_not, Bool.true_or, Bool.or_true, Bool.false_or, Bool.or_false, Bool.true_and, Bool.and_true, false_or, or_false, true_and, and_true, Decidable.not_not] at hc
  unfold szI at hc ⊢
  split at hc
  · rename_i h2; rw [if_pos h2]
  · omega

theorem cellB (hx : ReadB BM v x h) {i : Int} (h0 : 0 ≤ i) (h1 : i < h.length) : ∃ f : Sl, (v.cell? ((elA x i 3).add 0) = some (.int .i64 (nth h i).count) ∧ v.cell? ((elA x i 3).add 1) = some (.int .i64 (nth h i).tag) ∧ v.cell? ((elA x i 3).add 2) = some f.val) ∧ ReadB BM v f (nth h i).fields := by
  obtain ⟨r, hr, hc⟩ := hx.row h0 h1
  obtain ⟨f, rfl, c1, c2, c3⟩ := hr
  exact ⟨f, ⟨hc 0 _ rfl, hc 1 _ rfl, hc 2 _ rfl⟩, c3⟩

theorem c_szCellS (hx : ReadB BM v x h) (hb0 : 0 ≤ b) (hb : b ≤ 1048576) : Fn Try.prog 63 #[x.val, .int .i64 b] v (.int .i64 (szH b h)) := by
  refine of63 _ _ _ _ ?_
  unfold vc63
  have hn := hx.n
  have hl : h.length ≤ 9223372036854775807 := hx.le
  refine go_wr (by omega) (by omega) ?_
  unfold szH
  refine ⟨fun hc => ?_, fun hc => ?_⟩
  · simp only [decide_eq_true_eq, decide_eq_false_iff_not, Bool.and_eq_true, Bool.and_eq_false_iff, Bool.or_eq_true, Bool.or_eq_false_iff, Bool.not_eq_true', Bool.not_eq_false', Bool.not_true, Bool.not_false, Bool.false_eq_true, Bool.true_eq_false, Int.not_lt, Int.not_le, ge_iff_le, gt_iff_lt, Bool.not_eq_eq_eq_not, Bool.true_or, Bool.or_true, Bool.false_or, Bool.or_false, Bool.true_and, Bool.and_true, false_or, or_false, true_and, and_true, Decidable.not_not] at hc
    rw [if_pos (by omega)]; exact ⟨rfl, .refl v⟩
  simp only [decide_eq_true_eq, decide_eq_false_iff_not, Bool.and_eq_true, Bool.and_eq_false_iff, Bool.or_eq_true, Bool.or_eq_false_iff, Bool.not_eq_true', Bool.not_eq_false', Bool.not_true, Bool.not_false, Bool.false_eq_true, Bool.true_eq_false, Int.not_lt, Int.not_le, ge_iff_le, gt_iff_lt, Bool.not_eq_eq_eq_not, Bool.true_or, Bool.or_true, Bool.false_or, Bool.or_false, Bool.true_and, Bool.and_true, false_or, or_false, true_and, and_true, Decidable.not_not] at hc
  rw [if_neg (by omega), ← hn]
  refine ⟨fun b' i w => Sub v w ∧ 0 ≤ i ∧ i ≤ h.length ∧ 0 ≤ b' ∧ b' ≤ 1048576 ∧ szHf b' (h.drop i.toNat) = szHf (b - x.n) h, fun _ i _ => (h.length - i).toNat, ⟨.refl v, by omega, by omega, by omega, by omega, by simp⟩, ?_⟩
  rintro b' i w ⟨hs, h0, h1, h2, h3, h4⟩
  dsimp only
  refine ⟨fun hi => ?_, fun hi => ?_⟩
  · simp only [decide_eq_true_eq, decide_eq_false_iff_not, Bool.and_eq_true, Bool.and_eq_false_iff, Bool.or_eq_true, Bool.or_eq_false_iff, Bool.not_eq_true', Bool.not_eq_false', Bool.not_true, Bool.not_false, Bool.false_eq_true, Bool.true_eq_false, Int.not_lt, Int.not_le, ge_iff_le, gt_iff_lt, Bool.not_eq_eq_eq_not, Bool.true_or, Bool.or_true, Bool.false_or, Bool.or_false, Bool.true_and, Bool.and_true, false_or, or_false, true_and, and_true, Decidable.not_not] at hi
    obtain ⟨f, hcell, hf⟩ := cellB (hx.mono hs) h0 (by omega)
    have hdrop : h.drop i.toNat = nth h i :: h.drop (i + 1).toNat := by
      rw [show (i + 1).toNat = i.toNat + 1 from by omega, List.drop_eq_getElem_cons (by omega)]
      congr 1
      exact (nth_of (i := i) (by rw [List.getElem?_eq_getElem (by omega)])).symm
    rw [hdrop, szHf_cons] at h4
    refine go_ix hx h0 (by omega) ?_
    refine ⟨_, _, f, hcell, _, c_szCell (c := nth h i) hf.n hf.le h2 h3, fun hq => ⟨?_, hs⟩, fun hq => ?_⟩
    · simp only [decide_eq_true_eq, decide_eq_false_iff_not, Bool.and_eq_true, Bool.and_eq_false_iff, Bool.or_eq_true, Bool.or_eq_false_iff, Bool.not_eq_true', Bool.not_eq_false', Bool.not_true, Bool.not_false, Bool.false_eq_true, Bool.true_eq_false, Int.not_lt, Int.not_le, ge_iff_le, gt_iff_lt, Bool.not_eq_eq_eq_not, Bool.true_or, Bool.or_true, Bool.false_or, Bool.or_false, Bool.true_and, Bool.and_true, false_or, or_false, true_and, and_true, Decidable.not_not] at hq
      rw [if_pos hq] at h4
      rw [← h4]
    · simp only [decide_eq_true_eq, decide_eq_false_iff_not, Bool.and_eq_true, Bool.and_eq_false_iff, Bool.or_eq_true, Bool.or_eq_false_iff, Bool.not_eq_true', Bool.not_eq_false', Bool.not_true, Bool.not_false, Bool.false_eq_true, Bool.true_eq_false, Int.not_lt, Int.not_le, ge_iff_le, gt_iff_lt, Bool.not_eq_eq_eq_not, Bool.true_or, Bool.or_true, Bool.false_or, Bool.or_false, Bool.true_and, Bool.and_true, false_or, or_false, true_and, and_true, Decidable.not_not] at hq
      rw [if_neg (by omega)] at h4
      have := (szI_le hq).1
      refine go_wr (by omega) (by omega) ?_
      exact ⟨⟨hs, by omega, by omega, hq, by omega, h4⟩, by omega⟩
  · simp only [decide_eq_true_eq, decide_eq_false_iff_not, Bool.and_eq_true, Bool.and_eq_false_iff, Bool.or_eq_true, Bool.or_eq_false_iff, Bool.not_eq_true', Bool.not_eq_false', Bool.not_true, Bool.not_false, Bool.false_eq_true, Bool.true_eq_false, Int.not_lt, Int.not_le, ge_iff_le, gt_iff_lt, Bool.not_eq_eq_eq_not, Bool.true_or, Bool.or_true, Bool.false_or, Bool.or_false, Bool.true_and, Bool.and_true, false_or, or_false, true_and, and_true, Decidable.not_not] at hi
    rw [List.drop_eq_nil_of_le (by omega), szHf_nil] at h4
    rw [← h4]
    exact ⟨rfl, hs⟩

def szL (b : Int) (z : LazyD) : Int := if szH b z.cells < 0 then -1 else szI (szH b z.cells) z.pend.length
theorem c_szLazy (hx : ReadB BM v x z.cells) (hy : ReadB BM v y z.pend) (hb0 : 0 ≤ b) (hb : b ≤ 1048576) : Fn Try.prog 24 #[.agg #[x.val, y.val], .int .i64 b] v (.int .i64 (szL b z)) := by
  refine of24 _ _ _ _ _ ?_
  unfold vc24
  unfold szL
  refine ⟨_, c_szCellS hx hb0 hb, fun hc => ?_, fun hc => ?_⟩
  · simp only [decide_eq_true_eq, decide_eq_false_iff_not, Bool.and_eq_true, Bool.and_eq_false_iff, Bool.or_eq_true, Bool.or_eq_false_iff, Bool.not_eq_true', Bool.not_eq_false', Bool.not_true, Bool.not_false, Bool.false_eq_true, Bool.true_eq_false, Int.not_lt, Int.not_le, ge_iff_le, gt_iff_lt, Bool.not_eq_eq_eq_not, Bool.true_or, Bool.or_true, Bool.false_or, Bool.or_false, Bool.true_and, Bool.and_true, false_or, or_false, true_and, and_true, Decidable.not_not] at hc
    rw [if_pos hc]; exact ⟨rfl, .refl v⟩
  · simp only [decide_eq_true_eq, decide_eq_false_iff_not, Bool.and_eq_true, Bool.and_eq_false_iff, Bool.or_eq_true, Bool.or_eq_false_iff, Bool.not_eq_true', Bool.not_eq_false', Bool.not_true, Bool.not_false, Bool.false_eq_true, Bool.true_eq_false, Int.not_lt, Int.not_le, ge_iff_le, gt_iff_lt, Bool.not_eq_eq_eq_not, Bool.true_or, Bool.or_true, Bool.false_or, Bool.or_false, Bool.true_and, Bool.and_true, false_or, or_false, true_and, and_true, Decidable.not_not] at hc
    rw [if_neg (by omega)]
    have := (szH_le hc).1
    refine ⟨_, c_szIntS hy.n hy.le hc (by omega), fun hq => ⟨?_, .refl v⟩, fun _ => ⟨rfl, .refl v⟩⟩
    simp only [decide_eq_true_eq, decide_eq_false_iff_not, Bool.and_eq_true, Bool.and_eq_false_iff, Bool.or_eq_true, Bool.or_eq_false_iff, Bool.not_eq_true', Bool.not_eq_false', Bool.not_true, Bool.not_false, Bool.false_eq_true, Bool.true_eq_false, Int.not_lt, Int.not_le, ge_iff_le, gt_iff_lt, Bool.not_eq_eq_eq_not, Bool.true_or, Bool.or_true, Bool.false_or, Bool.or_false, Bool.true_and, Bool.and_true, false_or, or_false, true_and, and_true, Decidable.not_not] at hq
    unfold szI at hq ⊢
    split at hq
    · rename_i h2; rw [if_pos h2]
    · omega

theorem ReadB.toInts {B : Nat} {l : List Int} (hx : ReadB B v x l) (hl : l.length ≤ BB) : Read v x l := let ⟨rows, h1, h2, _⟩ := hx; ⟨rows, h1, ⟨h2.1, h2.2⟩, hl⟩
theorem ReadB.toCells (hx : ReadB BM v x h) (hl : h.length ≤ BB) (hf : ∀ c ∈ h, c.fields.length ≤ BB) : Read v x h := by
  obtain ⟨rows, h1, h2, _⟩ := hx
  refine ⟨rows, h1, ⟨h2.1, fun i r a hr ha => ?_⟩, hl⟩
  obtain ⟨f, e, c1, c2, c3⟩ := h2.2 i r a hr ha
  exact ⟨f, e, c1, c2, c3.toInts (hf a (List.mem_of_getElem? ha))⟩

theorem c_toIntS (hx : Read v x l) : Mk Try.prog 47 #[x.val] v fun r J => ∃ y, r = y.val ∧ Own v y l J := by
  refine of47 _ _ _ ?_
  unfold vc47
  have hn := hx.n
  have hl := hx.le
  refine St.makeInts (.refl v) (by omega) (by omega) (by decide) ?_
  intro y w1 I1 hO hS hs
  refine ⟨_, rfl, ?_⟩
  have hz : ((x.n : Int).toNat) = l.length := by omega
  rw [hz] at hO
  refine ⟨fun i w => ∃ (m : List Int) (I : Items), Own v y m I ∧ m.length = l.length ∧ m.take i.toNat = l.take i.toNat ∧ St v w (I ++ []) ∧ 0 ≤ i ∧ i ≤ l.length, fun i _ => (l.length - i).toNat, ⟨_, I1, hO, by simp, by simp, hS, by omega, by omega⟩, ?_⟩
  clear hO hS
  rintro i w ⟨m, I, hO, hm, ht, hS, h0, h1⟩
  dsimp only
  refine ⟨fun hi => ?_, fun hi => ?_⟩
  · simp only [decide_eq_true_eq, decide_eq_false_iff_not, Bool.and_eq_true, Bool.and_eq_false_iff, Bool.or_eq_true, Bool.or_eq_false_iff, Bool.not_eq_true', Bool.not_eq_false', Bool.not_true, Bool.not_false, Bool.false_eq_true, Bool.true_eq_false, Int.not_lt, Int.not_le, ge_iff_le, gt_iff_lt, Bool.not_eq_eq_eq_not, Bool.true_or, Bool.or_true, Bool.false_or, Bool.or_false, Bool.true_and, Bool.and_true, false_or, or_false, true_and, and_true, Decidable.not_not] at hi
    refine go_ix hx h0 (by omega) ?_
    refine ld_int (hx.mono hS.sub) h0 (by omega) ?_
    intro a0 a1
    refine go_oix hO h0 (by omega) ?_
    refine st_int hO hS h0 (by omega) ⟨a0, a1⟩ ?_
    intro w2 I2 hO hS
    refine go_wr (by omega) (by omega) ?_
    refine ⟨⟨_, I2, hO, by simpa using hm, ?_, hS, by omega, by omega⟩, by omega⟩
    rw [take_nth (l := l) h0 (by omega), take_nth (l := m.set i.toNat (nth l i)) h0 (by simp; omega), nth_set _ _ _ _ h0 (by omega) h0, if_pos rfl, List.take_set_of_le (Nat.le_refl _), ht]
  · simp only [decide_eq_true_eq, decide_eq_false_iff_not, Bool.and_eq_true, Bool.and_eq_false_iff, Bool.or_eq_true, Bool.or_eq_false_iff, Bool.not_eq_true', Bool.not_eq_false', Bool.not_true, Bool.not_false, Bool.false_eq_true, Bool.true_eq_false, Int.not_lt, Int.not_le, ge_iff_le, gt_iff_lt, Bool.not_eq_eq_eq_not, Bool.true_or, Bool.or_true, Bool.false_or, Bool.or_false, Bool.true_and, Bool.and_true, false_or, or_false, true_and, and_true, Decidable.not_not] at hi
    rw [take_all (by omega), take_all (by omega)] at ht
    rw [ht] at hO
    exact ⟨I, by simpa using hS, y, rfl, hO⟩

theorem c_eqIntS (hx : Read v x l) (hy : Read v y ws) : Fn Try.prog 49 #[x.val, y.val] v (.bool (decide (l = ws))) := by
  refine of49 _ _ _ _ ?_
  unfold vc49
  have hn := hx.n
  have hl := hx.le
  have hyn := hy.n
  refine ⟨fun hc => ?_, fun hc => ?_⟩
  · simp only [decide_eq_true_eq, decide_eq_false_iff_not, Bool.and_eq_true, Bool.and_eq_false_iff, Bool.or_eq_true, Bool.or_eq_false_iff, Bool.not_eq_true', Bool.not_eq_false', Bool.not_true, Bool.not_false, Bool.false_eq_true, Bool.true_eq_false, Int.not_lt, Int.not_le, ge_iff_le, gt_iff_lt, Bool.not_eq_eq_eq_not, Bool.true_or, Bool.or_true, Bool.false_or, Bool.or_false, Bool.true_and, Bool.and_true, false_or, or_false, true_and, and_true, Decidable.not_not] at hc
    exact ⟨val_false (fun e => by rw [e] at hn; omega), .refl v⟩
  simp only [decide_eq_true_eq, decide_eq_false_iff_not, Bool.and_eq_true, Bool.and_eq_false_iff, Bool.or_eq_true, Bool.or_eq_false_iff, Bool.not_eq_true', Bool.not_eq_false', Bool.not_true, Bool.not_false, Bool.false_eq_true, Bool.true_eq_false, Int.not_lt, Int.not_le, ge_iff_le, gt_iff_lt, Bool.not_eq_eq_eq_not, Bool.true_or, Bool.or_true, Bool.false_or, Bool.or_false, Bool.true_and, Bool.and_true, false_or, or_false, true_and, and_true, Decidable.not_not] at hc
  refine ⟨fun i w => Sub v w ∧ 0 ≤ i ∧ i ≤ l.length ∧ l.take i.toNat = ws.take i.toNat, fun i _ => (l.length - i).toNat, ⟨.refl v, by omega, by omega, by simp⟩, ?_⟩
  rintro i w ⟨hs, h0, h1, h2⟩
  dsimp only
  refine ⟨fun hi => ?_, fun hi => ?_⟩
  · simp only [decide_eq_true_eq, decide_eq_false_iff_not, Bool.and_eq_true, Bool.and_eq_false_iff, Bool.or_eq_true, Bool.or_eq_false_iff, Bool.not_eq_true', Bool.not_eq_false', Bool.not_true, Bool.not_false, Bool.false_eq_true, Bool.true_eq_false, Int.not_lt, Int.not_le, ge_iff_le, gt_iff_lt, Bool.not_eq_eq_eq_not, Bool.true_or, Bool.or_true, Bool.false_or, Bool.or_false, Bool.true_and, Bool.and_true, false_or, or_false, true_and, and_true, Decidable.not_not] at hi
    refine go_ix hx h0 (by omega) ?_
    refine ld_int (hx.mono hs) h0 (by omega) ?_
    intro _ _
    refine go_ix hy h0 (by omega) ?_
    refine ld_int (hy.mono hs) h0 (by omega) ?_
    intro _ _
    refine ⟨fun hq => ?_, fun hq => ?_⟩
    · simp only [decide_eq_true_eq, decide_eq_false_iff_not, Bool.and_eq_true, Bool.and_eq_false_iff, Bool.or_eq_true, Bool.or_eq_false_iff, Bool.not_eq_true', Bool.not_eq_false', Bool.not_true, Bool.not_false, Bool.false_eq_true, Bool.true_eq_false, Int.not_lt, Int.not_le, ge_iff_le, gt_iff_lt, Bool.not_eq_eq_eq_not, Bool.true_or, Bool.or_true, Bool.false_or, Bool.or_false, Bool.true_and, Bool.and_true, false_or, or_false, true_and, and_true, Decidable.not_not] at hq
      exact ⟨val_false (fun e => hq (by rw [e])), hs⟩
    · simp only [decide_eq_true_eq, decide_eq_false_iff_not, Bool.and_eq_true, Bool.and_eq_false_iff, Bool.or_eq_true, Bool.or_eq_false_iff, Bool.not_eq_true', Bool.not_eq_false', Bool.not_true, Bool.not_false, Bool.false_eq_true, Bool.true_eq_false, Int.not_lt, Int.not_le, ge_iff_le, gt_iff_lt, Bool.not_eq_eq_eq_not, Bool.true_or, Bool.or_true, Bool.false_or, Bool.or_false, Bool.true_and, Bool.and_true, false_or, or_false, true_and, and_true, Decidable.not_not] at hq
      refine go_wr (by omega) (by omega) ?_
      refine ⟨⟨hs, by omega, by omega, ?_⟩, by omega⟩
      rw [take_nth h0 (by omega), take_nth h0 (by omega), h2, hq]
  · simp only [decide_eq_true_eq, decide_eq_false_iff_not, Bool.and_eq_true, Bool.and_eq_false_iff, Bool.or_eq_true, Bool.or_eq_false_iff, Bool.not_eq_true', Bool.not_eq_false', Bool.not_true, Bool.not_false, Bool.false_eq_true, Bool.true_eq_false, Int.not_lt, Int.not_le, ge_iff_le, gt_iff_lt, Bool.not_eq_eq_eq_not, Bool.true_or, Bool.or_true, Bool.false_or, Bool.or_false, Bool.true_and, Bool.and_true, false_or, or_false, true_and, and_true, Decidable.not_not] at hi
    rw [take_all (by omega), take_all (by omega)] at h2
    exact ⟨val_true h2, hs⟩

theorem c_eqCell {c d : CellD} {f g : Sl} (hf : Read v f c.fields) (hg : Read v g d.fields) :
    Fn Try.prog 80 #[.agg #[.int .i64 c.count, .int .i64 c.tag, f.val], .agg #[.int .i64 d.count, .int .i64 d.tag, g.val]] v (.bool (@decide (c = d) (Classical.propDecidable _))) := by
  refine of80 _ _ _ _ _ _ _ _ ?_
  unfold vc80
  obtain ⟨a1, a2, a3⟩ := c
  obtain ⟨b1, b2, b3⟩ := d
  simp only [CellD.mk.injEq]
  refine ⟨fun hc => ⟨?_, .refl v⟩, fun hc => ⟨fun hc2 => ⟨?_, .refl v⟩, fun hc2 => ⟨_, c_eqIntS hf hg, fun hc3 => ⟨?_, .refl v⟩, fun hc3 => ⟨?_, .refl v⟩⟩⟩⟩
  · simp only [decide_eq_true_eq, decide_eq_false_iff_not, Bool.and_eq_true, Bool.and_eq_false_iff, Bool.or_eq_true, Bool.or_eq_false_iff, Bool.not_eq_true', Bool.not_eq_false', Bool.not_true, Bool.not_false, Bool.false_eq_true, Bool.true_eq_false, Int.not_lt, Int.not_le, ge_iff_le, gt_iff_lt, Bool.not_eq_eq_eq_not, Bool.true_or, Bool.or_true, Bool.false_or, Bool.or_false, Bool.true_and, Bool.and_true, false_or, or_false, true_and, and_true, Decidable.not_not] at hc; simp [hc]
  · simp only [decide_eq_true_eq, decide_eq_false_iff_not, Bool.and_eq_true, Bool.and_eq_false_iff, Bool.or_eq_true, Bool.or_eq_false_iff, Bool.not_eq_true', Bool.not_eq_false', Bool.not_true, Bool.not_false, Bool.false_eq_true, Bool.true_eq_false, Int.not_lt, Int.not_le, ge_iff_le, gt_iff_lt, Bool.not_eq_eq_eq_not, Bool.true_or, Bool.or_true, Bool.false_or, Bool.or_false, Bool.true_and, Bool.and_true, false_or, or_false, true_and, and_true, Decidable.not_not] at hc hc2; simp [hc2]
  · simp only [decide_eq_true_eq, decide_eq_false_iff_not, Bool.and_eq_true, Bool.and_eq_false_iff, Bool.or_eq_true, Bool.or_eq_false_iff, Bool.not_eq_true', Bool.not_eq_false', Bool.not_true, Bool.not_false, Bool.false_eq_true, Bool.true_eq_false, Int.not_lt, Int.not_le, ge_iff_le, gt_iff_lt, Bool.not_eq_eq_eq_not, Bool.true_or, Bool.or_true, Bool.false_or, Bool.or_false, Bool.true_and, Bool.and_true, false_or, or_false, true_and, and_true, Decidable.not_not] at hc hc2 hc3; simp [hc3]
  · simp only [decide_eq_true_eq, decide_eq_false_iff_not, Bool.and_eq_true, Bool.and_eq_false_iff, Bool.or_eq_true, Bool.or_eq_false_iff, Bool.not_eq_true', Bool.not_eq_false', Bool.not_true, Bool.not_false, Bool.false_eq_true, Bool.true_eq_false, Int.not_lt, Int.not_le, ge_iff_le, gt_iff_lt, Bool.not_eq_eq_eq_not, Bool.true_or, Bool.or_true, Bool.false_or, Bool.or_false, Bool.true_and, Bool.and_true, false_or, or_false, true_and, and_true, Decidable.not_not] at hc hc2 hc3; simp [hc, hc2, hc3]

theorem c_eqCellS (hx : Read v x h) (hy : Read v y g) : Fn Try.prog 33 #[x.val, y.val] v (.bool (eqHB h g)) := by
  refine of33 _ _ _ _ ?_
  unfold vc33
  have hn := hx.n
  have hl := hx.le
  have hyn := hy.n
  refine ⟨fun hc => ?_, fun hc => ?_⟩
  · simp only [decide_eq_true_eq, decide_eq_false_iff_not, Bool.and_eq_true, Bool.and_eq_false_iff, Bool.or_eq_true, Bool.or_eq_false_iff, Bool.not_eq_true', Bool.not_eq_false', Bool.not_true, Bool.not_false, Bool.false_eq_true, Bool.true_eq_false, Int.not_lt, Int.not_le, ge_iff_le, gt_iff_lt, Bool.not_eq_eq_eq_not, Bool.true_or, Bool.or_true, Bool.false_or, Bool.or_false, Bool.true_and, Bool.and_true, false_or, or_false, true_and, and_true, Decidable.not_not] at hc
    exact ⟨by rw [eqHB_f (fun e => by rw [e] at hn; omega)], .refl v⟩
  simp only [decide_eq_true_eq, decide_eq_false_iff_not, Bool.and_eq_true, Bool.and_eq_false_iff, Bool.or_eq_true, Bool.or_eq_false_iff, Bool.not_eq_true', Bool.not_eq_false', Bool.not_true, Bool.not_false, Bool.false_eq_true, Bool.true_eq_false, Int.not_lt, Int.not_le, ge_iff_le, gt_iff_lt, Bool.not_eq_eq_eq_not, Bool.true_or, Bool.or_true, Bool.false_or, Bool.or_false, Bool.true_and, Bool.and_true, false_or, or_false, true_and, and_true, Decidable.not_not] at hc
  refine ⟨fun i w => Sub v w ∧ 0 ≤ i ∧ i ≤ h.length ∧ h.take i.toNat = g.take i.toNat, fun i _ => (h.length - i).toNat, ⟨.refl v, by omega, by omega, by simp⟩, ?_⟩
  rintro i w ⟨hs, h0, h1, h2⟩
  dsimp only
  refine ⟨fun hi => ?_, fun hi => ?_⟩
  · simp only [decide_eq_true_eq, decide_eq_false_iff_not, Bool.and_eq_true, Bool.and_eq_false_iff, Bool.or_eq_true, Bool.or_eq_false_iff, Bool.not_eq_true', Bool.not_eq_false', Bool.not_true, Bool.not_false, Bool.false_eq_true, Bool.true_eq_false, Int.not_lt, Int.not_le, ge_iff_le, gt_iff_lt, Bool.not_eq_eq_eq_not, Bool.true_or, Bool.or_true, Bool.false_or, Bool.or_false, Bool.true_and, Bool.and_true, false_or, or_false, true_and, and_true, Decidable.not_not] at hi
    refine go_ix hx h0 (by omega) ?_
    refine ld_cell (hx.src hs) h0 (by omega) ?_
    intro f hf _ _
    refine go_ix hy h0 (by omega) ?_
    refine ld_cell (hy.src hs) h0 (by omega) ?_
    intro f2 hf2 _ _
    refine ⟨_, c_eqCell (c := nth h i) (d := nth g i) (hf.mono hs) (hf2.mono hs), fun hq => ?_, fun hq => ?_⟩
    · refine ⟨?_, hs⟩
      rw [eqHB_f fun e => ?_]
      subst e
      simp at hq
    · simp at hq
      refine go_wr (by omega) (by omega) ?_
      refine ⟨⟨hs, by omega, by omega, ?_⟩, by omega⟩
      rw [take_nth h0 (by omega), take_nth h0 (by omega), h2, hq]
  · simp only [decide_eq_true_eq, decide_eq_false_iff_not, Bool.and_eq_true, Bool.and_eq_false_iff, Bool.or_eq_true, Bool.or_eq_false_iff, Bool.not_eq_true', Bool.not_eq_false', Bool.not_true, Bool.not_false, Bool.false_eq_true, Bool.true_eq_false, Int.not_lt, Int.not_le, ge_iff_le, gt_iff_lt, Bool.not_eq_eq_eq_not, Bool.true_or, Bool.or_true, Bool.false_or, Bool.or_false, Bool.true_and, Bool.and_true, false_or, or_false, true_and, and_true, Decidable.not_not] at hi
    refine ⟨?_, hs⟩
    rw [take_all (by omega), take_all (by omega)] at h2
    rw [eqHB_iff.2 h2]

noncomputable def eqZB (z z' : LazyD) : Bool := @decide (z = z') (Classical.propDecidable _)
theorem eqZB_iff {z z' : LazyD} : eqZB z z' = true ↔ z = z' := by unfold eqZB; exact @decide_eq_true_iff _ (Classical.propDecidable _)
theorem c_eqLazy (hx : Read v x z.cells) (hy : Read v y z.pend) (hs : Read v s z'.cells) (ht : Read v t z'.pend) :
    Fn Try.prog 28 #[.agg #[x.val, y.val], .agg #[s.val, t.val]] v (.bool (eqZB z z')) := by
  refine of28 _ _ _ _ _ _ ?_
  unfold vc28
  have ht2 : ∀ q : Bool, (q = true ↔ z = z') → Value.bool q = .bool (eqZB z z') := fun q hq => by congr 1; rw [Bool.eq_iff_iff, eqZB_iff]; exact hq
  obtain ⟨a1, a2⟩ := z
  obtain ⟨b1, b2⟩ := z'
  refine ⟨_, c_eqCellS hx hs, fun hc => ⟨ht2 _ ?_, .refl v⟩, fun hc => ⟨_, c_eqIntS hy ht, fun hc2 => ⟨ht2 _ ?_, .refl v⟩, fun hc2 => ⟨ht2 _ ?_, .refl v⟩⟩⟩
  · simp only [LazyD.mk.injEq]
    have hn : ¬ a1 = b1 := fun e => by rw [eqHB_iff.2 e] at hc; cases hc
    simp [hn]
  · simp only [decide_eq_true_eq, decide_eq_false_iff_not, Bool.and_eq_true, Bool.and_eq_false_iff, Bool.or_eq_true, Bool.or_eq_false_iff, Bool.not_eq_true', Bool.not_eq_false', Bool.not_true, Bool.not_false, Bool.false_eq_true, Bool.true_eq_false, Int.not_lt, Int.not_le, ge_iff_le, gt_iff_lt, Bool.not_eq_eq_eq_not, Bool.true_or, Bool.or_true, Bool.false_or, Bool.or_false, Bool.true_and, Bool.and_true, false_or, or_false, true_and, and_true, Decidable.not_not] at hc2
    simp only [LazyD.mk.injEq]
    simp [hc2]
  · simp only [decide_eq_true_eq, decide_eq_false_iff_not, Bool.and_eq_true, Bool.and_eq_false_iff, Bool.or_eq_true, Bool.or_eq_false_iff, Bool.not_eq_true', Bool.not_eq_false', Bool.not_true, Bool.not_false, Bool.false_eq_true, Bool.true_eq_false, Int.not_lt, Int.not_le, ge_iff_le, gt_iff_lt, Bool.not_eq_eq_eq_not, Bool.true_or, Bool.or_true, Bool.false_or, Bool.or_false, Bool.true_and, Bool.and_true, false_or, or_false, true_and, and_true, Decidable.not_not] at hc hc2
    simp only [LazyD.mk.injEq]
    simp [eqHB_iff.1 hc, hc2]
end
end Go.Vc
