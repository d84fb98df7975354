/- Part of the proofs about the heaps: a law is joined in the text whose name ends in W and the law. -/
import Derived.Test.YtmmkfmmcmjpcgaaBC21
namespace Go.Vc
open Go Go.Proofs Go.RowKit
set_option linter.all false

def marks (n : Int) (k : Nat) : List Int := (List.range k).map fun (i : Nat) => n + (i : Int)
theorem marks_len (n : Int) (k : Nat) : (marks n k).length = k := by simp [marks]
theorem marks_nth {n : Int} {k : Nat} {i : Int} (h0 : 0 ≤ i) (h1 : i < k) : nth (marks n k) i = n + i := by
  refine nth_of ?_
  have : i.toNat < k := by omega
  simp [marks, this]
  omega
def markH : Int → List CellD → List CellD
  | _, [] => []
  | n, c :: r => ⟨n, n + 1, marks (n + 2) c.fields.length⟩ :: markH (n + 2 + c.fields.length) r
def endH : Int → List CellD → Int
  | n, [] => n
  | n, c :: r => endH (n + 2 + c.fields.length) r
theorem markH_len : ∀ (h : List CellD) (n : Int), (markH n h).length = h.length
  | [], _ => rfl
  | _ :: r, _ => by simp [markH, markH_len r]
theorem markH_snoc : ∀ (h : List CellD) (n : Int) (c : CellD), markH n (h ++ [c]) = markH n h ++ [⟨endH n h, endH n h + 1, marks (endH n h + 2) c.fields.length⟩]
  | [], _, _ => rfl
  | d :: r, n, c => by simp only [List.cons_append, markH, endH]; rw [markH_snoc r]
theorem endH_snoc : ∀ (h : List CellD) (n : Int) (c : CellD), endH n (h ++ [c]) = endH n h + 2 + c.fields.length
  | [], _, _ => rfl
  | d :: r, n, c => by simp only [List.cons_append, endH]; rw [endH_snoc r]
theorem markH_app : ∀ (h g : List CellD) (n : Int), markH n (h ++ g) = markH n h ++ markH (endH n h) g
  | [], _, _ => rfl
  | d :: r, g, n => by simp only [List.cons_append, markH, endH]; rw [markH_app r]
theorem endH_app : ∀ (h g : List CellD) (n : Int), endH n (h ++ g) = endH (endH n h) g
  | [], _, _ => rfl
  | d :: r, g, n => by simp only [List.cons_append, endH]; rw [endH_app r]
theorem endH_le : ∀ (h : List CellD) (n : Int), (∀ c ∈ h, c.fields.length ≤ 2000000) → n ≤ endH n h ∧ endH n h ≤ n + h.length * 2000002
  | [], n, _ => by simp [endH]
  | c :: r, n, hb => by
    have h1 := hb c List.mem_cons_self
    obtain ⟨i1, i2⟩ := endH_le r (n + 2 + c.fields.length) (fun d hd => hb d (List.mem_cons_of_mem _ hd))
    simp only [endH, List.length_cons]
    constructor <;> omega

section
variable {u v w : World} {x y xf s t : Sl} {l ws fs pend : List Int} {h g : List CellD} {z z' : LazyD} {b m n k f : Int} {a : Addr} {I J K L R R1 : Items} {F F1 : Items → Items} {q : Nat → List Value → Prop}

theorem c_toCell {c : CellD} {f : Sl} (hf : Read v f c.fields) : Mk Try.prog 97 #[.agg #[.int .i64 c.count, .int .i64 c.tag, f.val]] v fun r J => ∃ y, r = .agg #[.int .i64 c.count, .int .i64 c.tag, y.val] ∧ Own v y c.fields J := by
  refine of97 _ _ _ _ _ ?_
  unfold vc97
  refine Mk.use (c_toIntS hf) (.refl v) ?_
  rintro _ w1 J1 ⟨y, rfl, hO⟩ hS hsub
  exact ⟨y, rfl, J1, hS.left, y, rfl, hO⟩

theorem c_toCellS (hx : Read v x h) : Mk Try.prog 72 #[x.val] v fun r J => ∃ y, r = y.val ∧ OwnD y h J := by
  refine of72 _ _ _ ?_
  unfold vc72
  have hn := hx.n
  have hl := hx.le
  refine St.make (α := CellD) (⟨0, 0, []⟩ : CellD) (.refl v) ⟨⟨none, 0, 0⟩, rfl, zero_in, zero_in, ReadB.nil⟩ (by omega) (by omega) (by decide) ?_
  intro y w1 J1 hO hS hs
  have hP0 : OwnP (fun j r => r.length = 3) 0 y h J1 := by
    obtain ⟨rows, k1, k2, k3⟩ := hO
    have hrl : rows.length = h.length := by have := k2.1; simp at this; omega
    refine .start k1 hrl (fun j r hr => ?_) hl
    have hj : j < rows.length := (List.getElem?_eq_some_iff.1 hr).1
    exact Dat.len (k2.2 j r _ hr (by rw [List.getElem?_eq_getElem (by simp; omega)]))
  refine ⟨_, rfl, ?_⟩
  refine ⟨fun i w => ∃ I, OwnP (fun j r => r.length = 3) i.toNat y h I ∧ St v w (I ++ []) ∧ 0 ≤ i ∧ i ≤ h.length, fun i _ => (h.length - i).toNat, ⟨J1, hP0, hS, by omega, by omega⟩, ?_⟩
  clear hO hS hP0
  rintro i w ⟨I, hO, hS, h0, h1⟩
  dsimp only
  refine ⟨fun hi => ?_, fun hi => ?_⟩
  · simp only [decide_eq_true_eq, decide_eq_false_iff_not, Bool.and_eq_true, Bool.and_eq_false_iff, Bool.or_eq_true, Bool.or_eq_false_iff, Bool.not_eq_true', Bool.not_eq_false', Bool.not_true, Bool.not_false, Bool.false_eq_true, Bool.true_eq_false, Int.not_lt, Int.not_le, ge_iff_le, gt_iff_lt, Bool.not_eq_eq_eq_not, Bool.true_or, Bool.or_true, Bool.false_or, Bool.or_false, Bool.true_and, Bool.and_true, false_or, or_false, true_and, and_true, Decidable.not_not] at hi
    refine go_ix hx h0 (by omega) ?_
    refine ld_cell (hx.src hS.sub) h0 (by omega) ?_
    intro f hf hcI htI
    refine Mk.use (c_toCell (c := nth h i) hf) hS ?_
    rintro _ w2 J2 ⟨t, rfl, hT⟩ hS hsub
    refine ⟨_, _, t, rfl, hO.ix h0 (by omega), ?_⟩
    refine hO.step hS h0 (by omega) (Nat.le_of_ble_eq_true rfl) (fun r hr => ?_) ?_
    · refine ⟨t, ?_, hcI, htI, hT.toAll⟩
      match r, hr with
      | [_, _, _], _ => rfl
    intro w3 I3 hO3 hS
    refine go_wr (by omega) (by omega) ?_
    exact ⟨⟨I3, hO3, hS, by omega, by omega⟩, by omega⟩
  · simp only [decide_eq_true_eq, decide_eq_false_iff_not, Bool.and_eq_true, Bool.and_eq_false_iff, Bool.or_eq_true, Bool.or_eq_false_iff, Bool.not_eq_true', Bool.not_eq_false', Bool.not_true, Bool.not_false, Bool.false_eq_true, Bool.true_eq_false, Int.not_lt, Int.not_le, ge_iff_le, gt_iff_lt, Bool.not_eq_eq_eq_not, Bool.true_or, Bool.or_true, Bool.false_or, Bool.or_false, Bool.true_and, Bool.and_true, false_or, or_false, true_and, and_true, Decidable.not_not] at hi
    rw [show i.toNat = h.length from by omega] at hO
    exact ⟨I, by simpa using hS, y, rfl, hO.done⟩

theorem c_toLazy (hx : Read v x z.cells) (hy : Read v y z.pend) : Mk Try.prog 26 #[.agg #[x.val, y.val]] v fun r J => ∃ t s, ∃ J1 J2, r = .agg #[t.val, s.val] ∧ OwnD t z.cells J1 ∧ Own v s z.pend J2 ∧ J = J1 ++ J2 := by
  refine of26 _ _ _ _ ?_
  unfold vc26
  refine Mk.use (c_toCellS hx) (.refl v) ?_
  rintro _ w1 J1 ⟨t, rfl, hO⟩ hS hsub
  refine ⟨_, rfl, ?_⟩
  refine Mk.use (c_toIntS hy) hS ?_
  rintro _ w2 J2 ⟨s, rfl, hP⟩ hS hsub
  exact ⟨_, rfl, J1 ++ J2, (hS.to : St v w2 (J1 ++ (J2 ++ []))).perm (by simp), t, s, J1, J2, rfl, hO, hP, rfl⟩

theorem c_markIntS (hO : Own u x l I) (hS : St u w (I ++ R)) (n0 : 0 ≤ n) (n1 : n ≤ 1000000000000000) :
    Trip Try.prog 50 #[x.val, .int .i64 n] w fun r w' => ∃ I', r = .int .i64 (n + l.length) ∧ Own u x (marks n l.length) I' ∧ St u w' (I' ++ R) := by
  refine of50 _ _ _ _ ?_
  unfold vc50
  have hn := hO.n
  have hl := hO.le
  refine ⟨fun n3 i w => ∃ (m : List Int) (I : Items), n3 = n + i ∧ Own u x m I ∧ m.length = l.length ∧ m.take i.toNat = (marks n l.length).take i.toNat ∧ St u w (I ++ R) ∧ 0 ≤ i ∧ i ≤ l.length, fun _ i _ => (l.length - i).toNat,
    ⟨l, I, by omega, hO, rfl, by simp, hS, by omega, by omega⟩, ?_⟩
  clear hO hS
  rintro n3 i w ⟨m, I, rfl, hO, hm, ht, hS, h0, h1⟩
  dsimp only
  refine ⟨fun hi => ?_, fun hi => ?_⟩
  · simp only [decide_eq_true_eq, decide_eq_false_iff_not, Bool.and_eq_true, Bool.and_eq_false_iff, Bool.or_eq_true, Bool.or_eq_false_iff, Bool.not_eq_true', Bool.not_eq_false', Bool.not_true, Bool.not_false, Bool.false_eq_true, Bool.true_eq_false, Int.not_lt, Int.not_le, ge_iff_le, gt_iff_lt, Bool.not_eq_eq_eq_not, Bool.true_or, Bool.or_true, Bool.false_or, Bool.or_false, Bool.true_and, Bool.and_true, false_or, or_false, true_and, and_true, Decidable.not_not] at hi
    refine go_oix hO h0 (by omega) ?_
    refine st_int hO hS h0 (by omega) ⟨by omega, by omega⟩ ?_
    intro w2 I2 hO hS
    refine go_wr (by omega) (by omega) ?_
    refine go_wr (by omega) (by omega) ?_
    refine ⟨⟨_, I2, by omega, hO, by simpa using hm, ?_, hS, by omega, by omega⟩, by omega⟩
    rw [take_nth (l := marks n l.length) h0 (by rw [marks_len]; omega), take_nth (l := m.set i.toNat (n + i)) h0 (by simp; omega), nth_set _ _ _ _ h0 (by omega) h0, if_pos rfl, List.take_set_of_le (Nat.le_refl _), ht, marks_nth h0 (by omega)]
  · simp only [decide_eq_true_eq, decide_eq_false_iff_not, Bool.and_eq_true, Bool.and_eq_false_iff, Bool.or_eq_true, Bool.or_eq_false_iff, Bool.not_eq_true', Bool.not_eq_false', Bool.not_true, Bool.not_false, Bool.false_eq_true, Bool.true_eq_false, Int.not_lt, Int.not_le, ge_iff_le, gt_iff_lt, Bool.not_eq_eq_eq_not, Bool.true_or, Bool.or_true, Bool.false_or, Bool.or_false, Bool.true_and, Bool.and_true, false_or, or_false, true_and, and_true, Decidable.not_not] at hi
    rw [take_all (by omega), take_all (by rw [marks_len]; omega)] at ht
    rw [ht] at hO
    exact ⟨I, by rw [show i = (l.length : Int) from by omega], hO, hS⟩

theorem nth_mid {α : Type} [Inhabited α] (p r : List α) (c : α) {i : Int} (h : i = p.length) : nth (p ++ c :: r) i = c := nth_of (by subst h; simp)
theorem set_mid {α : Type} (p r : List α) (c d : α) {i : Int} (h : i = p.length) : (p ++ c :: r).set i.toNat d = p ++ d :: r := by subst h; simp

theorem c_markCellS (hO : OwnD x h I) (hS : St u w (I ++ R)) (n0 : 0 ≤ n) (n1 : n ≤ 10000000000000) (hl : h.length ≤ 2000000) (hb : ∀ c ∈ h, c.fields.length ≤ 2000000) :
    Trip Try.prog 34 #[x.val, .int .i64 n] w fun r w' => ∃ I', r = .int .i64 (endH n h) ∧ OwnD x (markH n h) I' ∧ St u w' (I' ++ R) := by
  refine of34 _ _ _ _ ?_
  unfold vc34
  have hn := hO.n
  refine ⟨fun n3 i w => ∃ (p r : List CellD) (I : Items), h = p ++ r ∧ i = p.length ∧ n3 = endH n p ∧ OwnD x (markH n p ++ r) I ∧ St u w (I ++ R), fun _ i _ => (h.length - i).toNat, ⟨[], h, I, rfl, rfl, rfl, hO, hS⟩, ?_⟩
  clear hO hS
  rintro n3 i w ⟨p, r, I, hpr, rfl, rfl, hO, hS⟩
  dsimp only
  have hle : h.length = p.length + r.length := by rw [hpr, List.length_append]
  obtain ⟨e1, e2⟩ := endH_le p n (fun c hc => hb c (by rw [hpr]; exact List.mem_append_left _ hc))
  have hml := markH_len p n
  refine ⟨fun hi => ?_, fun hi => ?_⟩
  · simp only [decide_eq_true_eq, decide_eq_false_iff_not, Bool.and_eq_true, Bool.and_eq_false_iff, Bool.or_eq_true, Bool.or_eq_false_iff, Bool.not_eq_true', Bool.not_eq_false', Bool.not_true, Bool.not_false, Bool.false_eq_true, Bool.true_eq_false, Int.not_lt, Int.not_le, ge_iff_le, gt_iff_lt, Bool.not_eq_eq_eq_not, Bool.true_or, Bool.or_true, Bool.false_or, Bool.or_false, Bool.true_and, Bool.and_true, false_or, or_false, true_and, and_true, Decidable.not_not] at hi
    obtain ⟨c, r, rfl⟩ : ∃ c r', r = c :: r' := by
      cases r with
      | nil => simp at hle; omega
      | cons c r => exact ⟨c, r, rfl⟩
    simp only [List.length_cons] at hle
    have hc := hb c (by rw [hpr]; simp)
    have hi0 : (0 : Int) ≤ (p.length : Int) := by omega
    have hin1 : InI (endH n p) := ⟨by omega, by omega⟩
    have hin2 : InI (endH n p + 1) := ⟨by omega, by omega⟩
    have hlt : ∀ d : CellD, (p.length : Int) < (markH n p ++ d :: r).length := fun d => by simp; omega
    have hpm : (p.length : Int) = (markH n p).length := by rw [hml]
    refine ⟨hO.ix hi0 (hlt c), ?_⟩
    refine OwnD.store hO hS hi0 (hlt c) (⟨endH n p, c.tag, c.fields⟩ : CellD) [] (Nat.le_of_ble_eq_true rfl) (fun r' K hr => ?_) ?_
    · rw [nth_mid _ _ _ hpm] at hr
      obtain ⟨f, rfl, q1, q2, q3⟩ := hr
      exact ⟨K, ⟨f, rfl, hin1, q2, q3⟩, .inr ⟨rfl, rfl⟩⟩
    intro w2 I2 hO hS
    rw [List.append_nil, set_mid _ _ _ _ hpm] at hO
    refine go_wr (by omega) (by omega) ?_
    refine ⟨hO.ix hi0 (hlt _), ?_⟩
    refine OwnD.store hO hS hi0 (hlt _) (⟨endH n p, endH n p + 1, c.fields⟩ : CellD) [] (Nat.le_of_ble_eq_true rfl) (fun r' K hr => ?_) ?_
    · rw [nth_mid _ _ _ hpm] at hr
      obtain ⟨f, rfl, q1, q2, q3⟩ := hr
      exact ⟨K, ⟨f, rfl, q1, hin2, q3⟩, .inr ⟨rfl, rfl⟩⟩
    intro w3 I3 hO hS
    rw [List.append_nil, set_mid _ _ _ _ hpm] at hO
    refine go_wr (by omega) (by omega) ?_
    refine ⟨hO.ix hi0 (hlt _), ?_⟩
    obtain ⟨row, K, Rest, hrow, hperm, hcell, hput⟩ := hO.borrow hi0 (hlt _)
    rw [nth_mid _ _ _ hpm] at hrow
    obtain ⟨f, rfl, q1, q2, hF⟩ := hrow
    have hS2 : St u w3 (K ++ (Rest ++ R)) := hS.perm (by rw [← List.append_assoc]; exact hperm.symm.append_right _)
    refine ⟨f, hcell w3 (hS2.items (I := Rest)) 2 _ rfl, ?_⟩
    refine Trip.mono' (c_markIntS (hF u) hS2 (by omega) (by omega)) ?_
    rintro _ w4 ⟨K', rfl, hF', hS4⟩
    have hO4 := hput (⟨endH n p, endH n p + 1, marks (endH n p + 1 + 1) c.fields.length⟩ : CellD) K' ⟨f, rfl, q1, q2, hF'.toAll⟩
    rw [set_mid _ _ _ _ hpm] at hO4
    refine ⟨_, rfl, ?_⟩
    refine go_wr (by omega) (by omega) ?_
    refine ⟨⟨p ++ [c], r, K' ++ Rest, by rw [hpr]; simp, by simp, by rw [endH_snoc]; simp only; omega, ?_, by rw [List.append_assoc]; exact hS4⟩, by omega⟩
    rw [markH_snoc, List.append_assoc]
    rw [show endH n p + 2 = endH n p + 1 + 1 from by omega]
    exact hO4
  · simp only [decide_eq_true_eq, decide_eq_false_iff_not, Bool.and_eq_true, Bool.and_eq_false_iff, Bool.or_eq_true, Bool.or_eq_false_iff, Bool.not_eq_true', Bool.not_eq_false', Bool.not_true, Bool.not_false, Bool.false_eq_true, Bool.true_eq_false, Int.not_lt, Int.not_le, ge_iff_le, gt_iff_lt, Bool.not_eq_eq_eq_not, Bool.true_or, Bool.or_true, Bool.false_or, Bool.or_false, Bool.true_and, Bool.and_true, false_or, or_false, true_and, and_true, Decidable.not_not] at hi
    have hr : r = [] := List.eq_nil_of_length_eq_zero (by omega)
    subst hr
    rw [List.append_nil] at hpr hO
    subst hpr
    exact ⟨I, rfl, hO, hS⟩

theorem c_heldIntS {k : Nat} (hx : Read v x (marks n k)) (n0 : 0 ≤ n) (n1 : n ≤ 1000000000000000) : Fn Try.prog 77 #[x.val, .int .i64 n] v (.int .i64 (n + k)) := by
  refine of77 _ _ _ _ ?_
  unfold vc77
  have hn := hx.n
  have hl := hx.le
  rw [marks_len] at hn hl
  refine ⟨fun n3 i w => n3 = n + i ∧ Sub v w ∧ 0 ≤ i ∧ i ≤ k, fun _ i _ => (k - i).toNat, ⟨by omega, .refl v, by omega, by omega⟩, ?_⟩
  rintro n3 i w ⟨rfl, hs, h0, h1⟩
  dsimp only
  refine ⟨fun hi => ?_, fun hi => ?_⟩
  · simp only [decide_eq_true_eq, decide_eq_false_iff_not, Bool.and_eq_true, Bool.and_eq_false_iff, Bool.or_eq_true, Bool.or_eq_false_iff, Bool.not_eq_true', Bool.not_eq_false', Bool.not_true, Bool.not_false, Bool.false_eq_true, Bool.true_eq_false, Int.not_lt, Int.not_le, ge_iff_le, gt_iff_lt, Bool.not_eq_eq_eq_not, Bool.true_or, Bool.or_true, Bool.false_or, Bool.or_false, Bool.true_and, Bool.and_true, false_or, or_false, true_and, and_true, Decidable.not_not] at hi
    refine go_ix hx h0 (by rw [marks_len]; omega) ?_
    refine ld_int (hx.mono hs) h0 (by rw [marks_len]; omega) ?_
    rw [marks_nth h0 (by omega)]
    intro _ _
    refine ⟨fun hc => ?_, fun hc => ?_⟩
    · simp only [decide_eq_true_eq, decide_eq_false_iff_not, Bool.and_eq_true, Bool.and_eq_false_iff, Bool.or_eq_true, Bool.or_eq_false_iff, Bool.not_eq_true', Bool.not_eq_false', Bool.not_true, Bool.not_false, Bool.false_eq_true, Bool.true_eq_false, Int.not_lt, Int.not_le, ge_iff_le, gt_iff_lt, Bool.not_eq_eq_eq_not, Bool.true_or, Bool.or_true, Bool.false_or, Bool.or_false, Bool.true_and, Bool.and_true, false_or, or_false, true_and, and_true, Decidable.not_not] at hc
      exact (hc trivial).elim
    · refine go_wr (by omega) (by omega) ?_
      refine go_wr (by omega) (by omega) ?_
      exact ⟨⟨by omega, hs, by omega, by omega⟩, by omega⟩
  · simp only [decide_eq_true_eq, decide_eq_false_iff_not, Bool.and_eq_true, Bool.and_eq_false_iff, Bool.or_eq_true, Bool.or_eq_false_iff, Bool.not_eq_true', Bool.not_eq_false', Bool.not_true, Bool.not_false, Bool.false_eq_true, Bool.true_eq_false, Int.not_lt, Int.not_le, ge_iff_le, gt_iff_lt, Bool.not_eq_eq_eq_not, Bool.true_or, Bool.or_true, Bool.false_or, Bool.or_false, Bool.true_and, Bool.and_true, false_or, or_false, true_and, and_true, Decidable.not_not] at hi
    exact ⟨by rw [show i = (k : Int) from by omega], hs⟩

theorem c_heldCellS (hx : Read v x (markH n h)) (n0 : 0 ≤ n) (n1 : n ≤ 10000000000000) (hl : h.length ≤ 2000000) (hb : ∀ c ∈ h, c.fields.length ≤ 2000000) : Fn Try.prog 35 #[x.val, .int .i64 n] v (.int .i64 (endH n h)) := by
  refine of35 _ _ _ _ ?_
  unfold vc35
  have hn := hx.n
  rw [markH_len] at hn
  refine ⟨fun n3 i w => ∃ (p r : List CellD), h = p ++ r ∧ i = p.length ∧ n3 = endH n p ∧ Sub v w, fun _ i _ => (h.length - i).toNat, ⟨[], h, rfl, rfl, rfl, .refl v⟩, ?_⟩
  rintro n3 i w ⟨p, r, hpr, rfl, rfl, hs⟩
  dsimp only
  have hle : h.length = p.length + r.length := by rw [hpr, List.length_append]
  obtain ⟨e1, e2⟩ := endH_le p n (fun c hc => hb c (by rw [hpr]; exact List.mem_append_left _ hc))
  have hml := markH_len p n
  refine ⟨fun hi => ?_, fun hi => ?_⟩
  · simp only [decide_eq_true_eq, decide_eq_false_iff_not, Bool.and_eq_true, Bool.and_eq_false_iff, Bool.or_eq_true, Bool.or_eq_false_iff, Bool.not_eq_true', Bool.not_eq_false', Bool.not_true, Bool.not_false, Bool.false_eq_true, Bool.true_eq_false, Int.not_lt, Int.not_le, ge_iff_le, gt_iff_lt, Bool.not_eq_eq_eq_not, Bool.true_or, Bool.or_true, Bool.false_or, Bool.or_false, Bool.true_and, Bool.and_true, false_or, or_false, true_and, and_true, Decidable.not_not] at hi
    obtain ⟨c, r, rfl⟩ : ∃ c r', r = c :: r' := by
      cases r with
      | nil => simp at hle; omega
      | cons c r => exact ⟨c, r, rfl⟩
    simp only [List.length_cons] at hle
    have hc := hb c (by rw [hpr]; simp)
    have hi0 : (0 : Int) ≤ (p.length : Int) := by omega
    have hlt : (p.length : Int) < (markH n h).length := by rw [markH_len]; omega
    have hnth : nth (markH n h) (p.length : Int) = ⟨endH n p, endH n p + 1, marks (endH n p + 2) c.fields.length⟩ := by
      rw [hpr, markH_app]
      exact nth_mid _ _ _ (by rw [hml])
    refine go_ix hx hi0 hlt ?_
    refine ld_count (hx.src hs) hi0 hlt ?_
    rw [hnth]
    intro _ _
    refine ⟨fun hc => ?_, fun _ => ?_⟩
    · simp only [decide_eq_true_eq, decide_eq_false_iff_not, Bool.and_eq_true, Bool.and_eq_false_iff, Bool.or_eq_true, Bool.or_eq_false_iff, Bool.not_eq_true', Bool.not_eq_false', Bool.not_true, Bool.not_false, Bool.false_eq_true, Bool.true_eq_false, Int.not_lt, Int.not_le, ge_iff_le, gt_iff_lt, Bool.not_eq_eq_eq_not, Bool.true_or, Bool.or_true, Bool.false_or, Bool.or_false, Bool.true_and, Bool.and_true, false_or, or_false, true_and, and_true, Decidable.not_not] at hc; exact (hc trivial).elim
    refine go_wr (by omega) (by omega) ?_
    refine go_ix hx hi0 hlt ?_
    refine ld_tag (hx.src hs) hi0 hlt ?_
    rw [hnth]
    intro _ _
    refine ⟨fun hc => ?_, fun _ => ?_⟩
    · simp only [decide_eq_true_eq, decide_eq_false_iff_not, Bool.and_eq_true, Bool.and_eq_false_iff, Bool.or_eq_true, Bool.or_eq_false_iff, Bool.not_eq_true', Bool.not_eq_false', Bool.not_true, Bool.not_false, Bool.false_eq_true, Bool.true_eq_false, Int.not_lt, Int.not_le, ge_iff_le, gt_iff_lt, Bool.not_eq_eq_eq_not, Bool.true_or, Bool.or_true, Bool.false_or, Bool.or_false, Bool.true_and, Bool.and_true, false_or, or_false, true_and, and_true, Decidable.not_not] at hc; exact (hc trivial).elim
    refine go_wr (by omega) (by omega) ?_
    refine go_ix hx hi0 hlt ?_
    refine ld_fields (hx.src hs) hi0 hlt ?_
    rw [hnth]
    intro f hf
    replace hf := hf.mono hs
    rw [show endH n p + 2 = endH n p + 1 + 1 from by omega] at hf
    refine ⟨_, c_heldIntS hf (by omega) (by omega), fun hc => ?_, fun _ => ?_⟩
    · simp only [decide_eq_true_eq, decide_eq_false_iff_not, Bool.and_eq_true, Bool.and_eq_false_iff, Bool.or_eq_true, Bool.or_eq_false_iff, Bool.not_eq_true', Bool.not_eq_false', Bool.not_true, Bool.not_false, Bool.false_eq_true, Bool.true_eq_false, Int.not_lt, Int.not_le, ge_iff_le, gt_iff_lt, Bool.not_eq_eq_eq_not, Bool.true_or, Bool.or_true, Bool.false_or, Bool.or_false, Bool.true_and, Bool.and_true, false_or, or_false, true_and, and_true, Decidable.not_not] at hc; omega
    refine go_wr (by omega) (by omega) ?_
    exact ⟨⟨p ++ [c], r, by rw [hpr]; simp, by simp, by rw [endH_snoc]; omega, hs⟩, by omega⟩
  · simp only [decide_eq_true_eq, decide_eq_false_iff_not, Bool.and_eq_true, Bool.and_eq_false_iff, Bool.or_eq_true, Bool.or_eq_false_iff, Bool.not_eq_true', Bool.not_eq_false', Bool.not_true, Bool.not_false, Bool.false_eq_true, Bool.true_eq_false, Int.not_lt, Int.not_le, ge_iff_le, gt_iff_lt, Bool.not_eq_eq_eq_not, Bool.true_or, Bool.or_true, Bool.false_or, Bool.or_false, Bool.true_and, Bool.and_true, false_or, or_false, true_and, and_true, Decidable.not_not] at hi
    have hr : r = [] := List.eq_nil_of_length_eq_zero (by omega)
    subst hr
    rw [List.append_nil] at hpr
    subst hpr
    exact ⟨rfl, hs⟩

def markZ (n : Int) (z : LazyD) : LazyD := ⟨markH n z.cells, marks (endH n z.cells) z.pend.length⟩
def endZ (n : Int) (z : LazyD) : Int := endH n z.cells + z.pend.length
theorem c_markLazy (hO : OwnD x z.cells I) (hP : Own u y z.pend J) (hS : St u w (I ++ (J ++ R))) (hl : z.cells.length ≤ 2000000) (hb : ∀ c ∈ z.cells, c.fields.length ≤ 2000000) :
    Trip Try.prog 29 #[.agg #[x.val, y.val], .int .i64 1] w fun r w' => ∃ I' J', r = .int .i64 (endZ 1 z) ∧ OwnD x (markZ 1 z).cells I' ∧ Own u y (markZ 1 z).pend J' ∧ St u w' (I' ++ (J' ++ R)) := by
  refine of29 _ _ _ _ _ ?_
  unfold vc29
  obtain ⟨e1, e2⟩ := endH_le z.cells 1 hb
  refine Trip.mono' (c_markCellS hO hS (by omega) (by omega) hl hb) ?_
  rintro _ w1 ⟨I1, rfl, hO, hS⟩
  refine ⟨_, rfl, ?_⟩
  have hS1 : St u w1 (J ++ (I1 ++ R)) := hS.perm (by rw [← List.append_assoc, ← List.append_assoc]; exact List.perm_append_comm.append_right R)
  refine Trip.mono' (c_markIntS hP hS1 (by omega) (by omega)) ?_
  rintro _ w2 ⟨J1, rfl, hP, hS⟩
  exact ⟨_, rfl, I1, J1, rfl, hO, hP, hS.perm (by rw [← List.append_assoc, ← List.append_assoc]; exact List.perm_append_comm.append_right R)⟩
theorem c_heldLazy (hx : Read v x (markZ 1 z).cells) (hy : Read v y (markZ 1 z).pend) (hl : z.cells.length ≤ 2000000) (hb : ∀ c ∈ z.cells, c.fields.length ≤ 2000000) : Fn Try.prog 30 #[.agg #[x.val, y.val], .int .i64 1] v (.int .i64 (endZ 1 z)) := by
  refine of30 _ _ _ _ _ ?_
  unfold vc30
  obtain ⟨e1, e2⟩ := endH_le z.cells 1 hb
  refine ⟨_, c_heldCellS hx (by omega) (by omega) hl hb, fun hc => ?_, fun _ => ?_⟩
  · simp only [decide_eq_true_eq, decide_eq_false_iff_not, Bool.and_eq_true, Bool.and_eq_false_iff, Bool.or_eq_true, Bool.or_eq_false_iff, Bool.not_eq_true', Bool.not_eq_false', Bool.not_true, Bool.not_false, Bool.false_eq_true, Bool.true_eq_false, Int.not_lt, Int.not_le, ge_iff_le, gt_iff_lt, Bool.not_eq_eq_eq_not, Bool.true_or, Bool.or_true, Bool.false_or, Bool.or_false, Bool.true_and, Bool.and_true, false_or, or_false, true_and, and_true, Decidable.not_not] at hc; omega
  refine ⟨_, c_heldIntS hy (by omega) (by omega), fun hc => ?_, fun _ => ⟨rfl, .refl v⟩⟩
  simp only [decide_eq_true_eq, decide_eq_false_iff_not, Bool.and_eq_true, Bool.and_eq_false_iff, Bool.or_eq_true, Bool.or_eq_false_iff, Bool.not_eq_true', Bool.not_eq_false', Bool.not_true, Bool.not_false, Bool.false_eq_true, Bool.true_eq_false, Int.not_lt, Int.not_le, ge_iff_le, gt_iff_lt, Bool.not_eq_eq_eq_not, Bool.true_or, Bool.or_true, Bool.false_or, Bool.or_false, Bool.true_and, Bool.and_true, false_or, or_false, true_and, and_true, Decidable.not_not] at hc; omega
end
end Go.Vc
