/- Part of the proofs about the heaps: a law is joined in the text whose name ends in W and the law. -/
import Derived.Test.YtmmkfmmcmjpcgaaBC9
namespace Go.Vc
open Go Go.Proofs Go.RowKit
set_option linter.all false
/-- a heap that is drawn -/
def GA (h : List CellD) : Prop := h.length ≤ 100 ∧ ∀ c ∈ h, c.fields.length ≤ 100
section
variable {u v w : World} {x y xf : Sl} {l fs : List Int} {h : List CellD} {m n k : Int} {a : Addr} {I J L R : Items} {F : Items → Items}

theorem GA.set {h : List CellD} (hg : GA h) {i : Nat} {c : CellD} (hc : c.fields.length ≤ 100) : GA (h.set i c) :=
  ⟨by simpa using hg.1, fun b hb => by rcases mem_set_of hb with hb | hb; exact hg.2 b hb; rw [hb]; exact hc⟩

theorem c_anyHeap (hr : Rdr u a m I) (hS : St u w L) [p : Pos I L R F] (hm : m ≤ 999980000) :
    Trip Try.prog 52 #[.pointer (some (a.add 0))] w fun r w' => ∃ y, ∃ (h' : List CellD), ∃ J' I', r = y.val ∧ OwnD y h' J' ∧ Rdr u a (m + 710) I' ∧ St u w' (J' ++ (I' ++ R)) ∧ GA h' := by
  replace hS := hS.front (I := I)
  refine of52 _ _ _ ?_
  unfold vc52
  refine Trip.mono' (c_goodHeap hr hS (by omega)) ?_
  rintro _ w1 ⟨x, h, J, I1, rfl, hO, hR, hS, hG⟩
  have hGA : GA h := ⟨by have := hG.1; omega, fun c hc => by have := (hG.2 c hc).1; omega⟩
  have hon := hO.n
  have hGl := hG.1
  refine ⟨_, rfl, fun hc => ⟨x, h, J, I1, rfl, hO, hR.le (by omega), hS, hGA⟩, fun hc => ?_⟩
  simp only [decide_eq_true_eq, decide_eq_false_iff_not, Bool.and_eq_true, Bool.and_eq_false_iff, Bool.or_eq_true, Bool.or_eq_false_iff, Bool.not_eq_true', Bool.not_eq_false', Bool.not_true, Bool.not_false, Bool.false_eq_true, Bool.true_eq_false, Int.not_lt, Int.not_le, ge_iff_le, gt_iff_lt, Bool.not_eq_eq_eq_not, Bool.true_or, Bool.or_true, Bool.false_or, Bool.or_false, Bool.true_and, Bool.and_true, false_or, or_false, true_and, and_true, Decidable.not_not] at hc
  refine Trip.mono' (c_pick (n := x.n) hR hS (by omega) (by omega) (by omega)) ?_
  rintro _ w1 ⟨k, I1, rfl, hR, hS, a0, a1, a2⟩
  refine ⟨_, rfl, ?_⟩
  refine Trip.mono' (c_pick (n := 24) hR hS (by omega) (by omega) (by omega)) ?_
  rintro _ w1 ⟨k2, I1, rfl, hR, hS, b0, b1, b2⟩
  have hk : k < h.length := by omega
  have hmem := nth_mem a0 hk
  refine ⟨_, rfl, fun hc => ?_, fun hc => ⟨fun hc => ?_, fun hc => ⟨fun hc => ?_, fun hc => ⟨fun hc => ?_, fun hc => ⟨fun hc => ?_, fun hc => ?_⟩⟩⟩⟩⟩
  · refine St.build (α := Int) hS (by (repeat' (first | exact VsOf.nil | apply VsOf.cons | (apply VOf.int; first | assumption | (constructor <;> first | omega | (simp only [List.length_set, List.length_append, List.length_replicate, List.length_cons, List.length_nil, List.length_take, List.length_drop, List.length_map, List.length_singleton] at *; omega))) | exact VOf.bool | exact VOf.str))) rfl (by decide) ?_
    intro x4 w4 I4 hO4 hS hs
    refine ⟨_, rfl, ?_⟩
    refine Trip.mono' (c_one hR hO4 hS (by omega) (by simp) (by simp)) ?_
    rintro _ w5 ⟨k5, I5, rfl, hR, hS, hk5⟩
    have hki : InI k5 := by simp only [List.mem_cons, List.not_mem_nil, or_false] at hk5; omega
    refine ⟨_, rfl, hO.ix a0 hk, ?_⟩
    refine OwnD.store hO hS a0 hk (⟨k5, (nth h k).tag, (nth h k).fields⟩ : CellD) [] (Nat.le_of_ble_eq_true rfl) (fun r K hr => ?_) ?_
    · obtain ⟨f, rfl, q1, q2, q3⟩ := hr
      exact ⟨K, ⟨f, rfl, hki, q2, q3⟩, .inr ⟨rfl, rfl⟩⟩
    intro w2 I2 hO2 hS
    rw [List.append_nil] at hO2
    exact ⟨x, _, I2, I5, rfl, hO2, hR.le (by omega), hS.to, hGA.set (show (nth h k).fields.length ≤ 100 from hGA.2 _ hmem)⟩
  · refine St.build (α := Int) hS (by (repeat' (first | exact VsOf.nil | apply VsOf.cons | (apply VOf.int; first | assumption | (constructor <;> first | omega | (simp only [List.length_set, List.length_append, List.length_replicate, List.length_cons, List.length_nil, List.length_take, List.length_drop, List.length_map, List.length_singleton] at *; omega))) | exact VOf.bool | exact VOf.str))) rfl (by decide) ?_
    intro x4 w4 I4 hO4 hS hs
    refine ⟨_, rfl, ?_⟩
    refine Trip.mono' (c_one hR hO4 hS (by omega) (by simp) (by simp)) ?_
    rintro _ w5 ⟨k5, I5, rfl, hR, hS, hk5⟩
    have hki : InI k5 := by simp only [List.mem_cons, List.not_mem_nil, or_false] at hk5; omega
    refine ⟨_, rfl, hO.ix a0 hk, ?_⟩
    refine OwnD.store hO hS a0 hk (⟨(nth h k).count, k5, (nth h k).fields⟩ : CellD) [] (Nat.le_of_ble_eq_true rfl) (fun r K hr => ?_) ?_
    · obtain ⟨f, rfl, q1, q2, q3⟩ := hr
      exact ⟨K, ⟨f, rfl, q1, hki, q3⟩, .inr ⟨rfl, rfl⟩⟩
    intro w2 I2 hO2 hS
    rw [List.append_nil] at hO2
    exact ⟨x, _, I2, I5, rfl, hO2, hR.le (by omega), hS.to, hGA.set (show (nth h k).fields.length ≤ 100 from hGA.2 _ hmem)⟩
  · refine ⟨hO.ix a0 hk, ?_⟩
    refine ld_fields (OwnD.src hO hS) a0 hk ?_
    intro f hf
    have hf3 := hGA.2 _ hmem
    have hf4 := (hG.2 _ hmem).1
    refine Trip.mono' (c_spoilInts hR hf hS (by omega) (by omega)) ?_
    rintro _ w5 ⟨y5, l5, J5, I5, rfl, hO5, hR, hS, hl5⟩
    refine ⟨_, rfl, hO.ix a0 hk, ?_⟩
    refine OwnD.store hO hS a0 hk (⟨(nth h k).count, (nth h k).tag, l5⟩ : CellD) J5 (Nat.le_of_ble_eq_true rfl) (fun r K hr => ?_) ?_
    · obtain ⟨f, rfl, q1, q2, q3⟩ := hr
      exact ⟨J5, ⟨y5, rfl, q1, q2, hO5.toAll⟩, .inl rfl⟩
    intro w2 I2 hO2 hS
    exact ⟨x, _, I2 ++ J5, I5, rfl, hO2, hR.le (by omega), by rw [List.append_assoc]; exact hS.to, hGA.set (by show l5.length ≤ 100; omega)⟩
  · refine Trip.mono' (c_pick (n := x.n) hR hS (by omega) (by omega) (by omega)) ?_
    rintro _ w1 ⟨k3, I1, rfl, hR, hS, c0, c1, c2⟩
    refine ⟨_, rfl, ?_⟩
    refine go_wr (by omega) (by omega) ?_
    refine St.build (α := Int) hS (by (repeat' (first | exact VsOf.nil | apply VsOf.cons | (apply VOf.int; first | assumption | (constructor <;> first | omega | (simp only [List.length_set, List.length_append, List.length_replicate, List.length_cons, List.length_nil, List.length_take, List.length_drop, List.length_map, List.length_singleton] at *; omega))) | exact VOf.bool | exact VOf.str))) rfl (by decide) ?_
    intro x4 w4 I4 hO4 hS hs
    refine ⟨_, rfl, hO.ix a0 hk, ?_⟩
    refine OwnD.store hO hS a0 hk (⟨(nth h k).count, (nth h k).tag, [1000 + k3]⟩ : CellD) I4 (Nat.le_of_ble_eq_true rfl) (fun r K hr => ?_) ?_
    · obtain ⟨f, rfl, q1, q2, q3⟩ := hr
      exact ⟨I4, ⟨x4, rfl, q1, q2, hO4.toAll⟩, .inl rfl⟩
    intro w2 I2 hO2 hS
    exact ⟨x, _, I2 ++ I4, I1, rfl, hO2, hR.le (by omega), by rw [List.append_assoc]; exact hS.to, hGA.set (by simp)⟩
  · refine St.build (α := Int) hS (by (repeat' (first | exact VsOf.nil | apply VsOf.cons | (apply VOf.int; first | assumption | (constructor <;> first | omega | (simp only [List.length_set, List.length_append, List.length_replicate, List.length_cons, List.length_nil, List.length_take, List.length_drop, List.length_map, List.length_singleton] at *; omega))) | exact VOf.bool | exact VOf.str))) rfl (by decide) ?_
    intro x4 w4 I4 hO4 hS hs
    refine ⟨_, rfl, ?_⟩
    refine St.buildR hS ?_ ?_ ?_ ?_
    · simp [Value.cells]
    · rfl
    · decide
    intro x3 w3 I3 hB hS hs _
    refine ⟨_, rfl, ?_⟩
    refine OwnD.push' (a := (⟨0, 0, []⟩ : CellD)) hO hS (hB.rd hS.items) ⟨x4, rfl, zero_in, zero_in, hO4.toAll⟩ (by omega) (by decide) ?_
    intro x5 w5 I5 hO5 hS
    refine ⟨_, rfl, x5, _, I5, I1, rfl, hO5, hR.le (by omega), hS.to, by simp; omega, fun c hc => ?_⟩
    rcases List.mem_append.1 hc with hc | hc
    · exact hGA.2 c hc
    · rw [List.mem_singleton.1 hc]; simp
  · exact ⟨x, h, J, I1, rfl, hO, hR.le (by omega), hS.to, hGA⟩

theorem c_DrawValidHeap {code : List UInt8} (hx : Read v x code) : Mk Try.prog 15 #[x.val] v fun r J => ∃ y, ∃ (h : List CellD), r = y.val ∧ OwnD y h J ∧ GA h := by
  refine of15 _ _ _ ?_
  unfold vc15
  refine Mk.use (c_newReader hx) (.refl v) ?_
  rintro _ w1 J1 ⟨a, rfl, hR⟩ hS hsub
  refine ⟨_, rfl, ?_⟩
  refine Trip.mono' (c_anyHeap hR hS (by omega)) ?_
  rintro _ w2 ⟨y, h, J, I, rfl, hO, _, hS, hG⟩
  exact ⟨_, rfl, J, hS.left, y, h, rfl, hO, hG⟩
end

/-- a law's function gives true, and leaves what it was given -/
def LawTrue (P : Program) (f : FuncId) : Prop := ∀ (W : World) (x : Sl) (bs : List UInt8), Bytes W x bs → Trip P f #[x.val] W fun r v' => r = .bool true ∧ Sub W v'
theorem Bytes.read {W : World} {x : Sl} {bs : List UInt8} (h : Bytes W x bs) (hl : x.n ≤ 1099511627776) : Read W x bs := by
  have hn : x.n = bs.length := by have := Rows.len h; simpa using this
  refine ⟨_, h, ⟨by simp, fun i r a hr ha => ?_⟩, by show bs.length ≤ 1099511627776; omega⟩
  simp only [List.getElem?_map] at hr
  rw [ha] at hr
  simp at hr
  exact hr.symm

theorem circle_not {h : List CellD} {i : Int} (h0 : 0 ≤ i) (h1 : i < h.length) {c : CellD} (hc : 0 < c.count) (hf : 1000 + i ∈ c.fields) : ¬ vheap (h.set i.toNat c) := by
  rintro ⟨_, _, _, rk, hrk⟩
  have hn : nth (h.set i.toNat c) i = c := by rw [nth_set _ _ _ _ h0 h1 h0, if_pos rfl]
  have hl : live (h.set i.toNat c) (1000 + i) = true := by
    simp only [live, Bool.and_eq_true, decide_eq_true_eq, List.length_set]
    rw [show 1000 + i - 1000 = i from by omega, hn]
    omega
  have := hrk i.toNat c (1000 + i) (by rw [List.getElem?_set, if_pos rfl, if_pos (by omega)]) hf hl
  rw [show (1000 + i - 1000).toNat = i.toNat from by omega] at this
  omega

theorem l_ValidHeapCircle : LawTrue Try.prog 3 := by
  intro v x0 bs hb
  refine of3 _ _ _ ?_
  unfold vc3
  refine ⟨fun hc => ⟨rfl, .refl v⟩, fun hc => ?_⟩
  simp only [decide_eq_true_eq, decide_eq_false_iff_not, Bool.and_eq_true, Bool.and_eq_false_iff, Bool.or_eq_true, Bool.or_eq_false_iff, Bool.not_eq_true', Bool.not_eq_false', Bool.not_true, Bool.not_false, Bool.false_eq_true, Bool.true_eq_false, Int.not_lt, Int.not_le, ge_iff_le, gt_iff_lt, Bool.not_eq_eq_eq_not, Bool.true_or, Bool.or_true, Bool.false_or, Bool.or_false, Bool.true_and, Bool.and_true, false_or, or_false, true_and, and_true, Decidable.not_not] at hc
  have hcode := hb.read (by omega)
  refine Mk.use (c_DrawValidHeap hcode) (.refl v) ?_
  rintro _ w1 J1 ⟨x, h, rfl, hO, hG⟩ hS hsub
  refine ⟨_, rfl, ?_⟩
  obtain ⟨u, hvu, hS, hJ⟩ := hS.freeze J1
  have hx : Read u x h := hO.read1 hJ
  clear hO hJ
  have hn := hx.n
  have hGl := hG.1
  have fin : ∀ (w : World) (L : Items), St u w L → Value.bool true = .bool true ∧ Sub v w := fun w L hS => ⟨rfl, hvu.trans hS.sub⟩
  refine ⟨_, c_implValidHeap (hx.mono hS.sub), _, c_specValidHeap (hx.mono hS.sub), fun hc => ?_, fun hc => ?_⟩
  · refine ⟨_, c_specValidHeap (hx.mono hS.sub), by simp, hvu.trans hS.sub⟩
  · simp at hc
    refine ⟨fun i w => ∃ L, St u w L ∧ 0 ≤ i ∧ i ≤ h.length, fun i _ => (h.length - i).toNat, ⟨_, hS, by omega, by omega⟩, ?_⟩
    rintro i w ⟨L, hS, h0, h1⟩
    dsimp only
    refine ⟨fun hi => ?_, fun hi => fin w L hS⟩
    simp only [decide_eq_true_eq, decide_eq_false_iff_not, Bool.and_eq_true, Bool.and_eq_false_iff, Bool.or_eq_true, Bool.or_eq_false_iff, Bool.not_eq_true', Bool.not_eq_false', Bool.not_true, Bool.not_false, Bool.false_eq_true, Bool.true_eq_false, Int.not_lt, Int.not_le, ge_iff_le, gt_iff_lt, Bool.not_eq_eq_eq_not, Bool.true_or, Bool.or_true, Bool.false_or, Bool.or_false, Bool.true_and, Bool.and_true, false_or, or_false, true_and, and_true, Decidable.not_not] at hi
    refine go_ix hx h0 (by omega) ?_
    refine ld_count (hx.src hS.sub) h0 (by omega) ?_
    intro a0 a1
    refine ⟨fun _ => hx.ix h0 (by omega), ?_⟩
    refine ld_countg (hx.src hS.sub) (fun _ => ⟨h0, by omega⟩) ?_
    refine ⟨fun _ => hx.ix h0 (by omega), ?_⟩
    refine ld_fieldsg (hx.src hS.sub) (fun _ => ⟨h0, by omega⟩) ?_
    intro f0 hf0
    refine ⟨fun hc2 => ?_, fun hc2 => ?_⟩
    · simp only [decide_eq_true_eq, decide_eq_false_iff_not, Bool.and_eq_true, Bool.and_eq_false_iff, Bool.or_eq_true, Bool.or_eq_false_iff, Bool.not_eq_true', Bool.not_eq_false', Bool.not_true, Bool.not_false, Bool.false_eq_true, Bool.true_eq_false, Int.not_lt, Int.not_le, ge_iff_le, gt_iff_lt, Bool.not_eq_eq_eq_not, Bool.true_or, Bool.or_true, Bool.false_or, Bool.or_false, Bool.true_and, Bool.and_true, false_or, or_false, true_and, and_true, Decidable.not_not] at hc2
      have hmem := nth_mem (l := h) h0 (by omega)
      have hf100 := hG.2 _ hmem
      refine St.build (α := CellD) hS (by (repeat' (first | exact VsOf.nil | apply VsOf.cons | (apply VOf.int; first | assumption | (constructor <;> first | omega | (simp only [List.length_set, List.length_append, List.length_replicate, List.length_cons, List.length_nil, List.length_take, List.length_drop, List.length_map, List.length_singleton] at *; omega))) | exact VOf.bool | exact VOf.str))) rfl (by decide) ?_
      intro y1 w2 I2 hO2 hS hs
      refine ⟨_, rfl, ?_⟩
      refine Own.append hO2 hS (hx.src hS.sub) (by simp; omega) (by decide) ?_
      intro y3 w3 I3 hO3 hS
      rw [List.nil_append] at hO3
      refine ⟨_, rfl, ?_⟩
      refine go_ix hx h0 (by omega) ?_
      refine ld_fields (hx.src hS.sub) h0 (by omega) ?_
      intro f1 hf1
      refine go_ix hx h0 (by omega) ?_
      refine ld_fields (hx.src hS.sub) h0 (by omega) ?_
      intro f2 hf2
      have hfn2 := hf2.n
      have hfn1 := hf1.n
      have hfn0 := (hf0 (by simp only [decide_eq_true_eq, decide_eq_false_iff_not, Bool.and_eq_true, Bool.and_eq_false_iff, Bool.or_eq_true, Bool.or_eq_false_iff, Bool.not_eq_true', Bool.not_eq_false', Bool.not_true, Bool.not_false, Bool.false_eq_true, Bool.true_eq_false, Int.not_lt, Int.not_le, ge_iff_le, gt_iff_lt, Bool.not_eq_eq_eq_not, Bool.true_or, Bool.or_true, Bool.false_or, Bool.or_false, Bool.true_and, Bool.and_true, false_or, or_false, true_and, and_true, Decidable.not_not]; exact hc2.1)).n
      refine go_wr (by omega) (by omega) ?_
      refine ⟨⟨by omega, by omega, by obtain ⟨_, hr, _⟩ := hf1; have := hr.2.1; omega⟩, ?_⟩
      refine go_wr (by omega) (by omega) ?_
      refine St.build (α := Int) hS (by (repeat' (first | exact VsOf.nil | apply VsOf.cons | (apply VOf.int; first | assumption | (constructor <;> first | omega | (simp only [List.length_set, List.length_append, List.length_replicate, List.length_cons, List.length_nil, List.length_take, List.length_drop, List.length_map, List.length_singleton] at *; omega))) | exact VOf.bool | exact VOf.str))) rfl (by decide) ?_
      intro x4 w4 I4 hO4 hS hs4
      have hcut := hf1.cut (lo := 0) (hi := (f2.n : Int) - 1) (by omega) (by omega) (by omega)
      refine ⟨_, rfl, hs4, ?_⟩
      refine Mk.usew (c_join (hcut.mono hS.sub) (Own.read hO4 hS) (by simp; omega)) hS ?_
      rintro _ w5 J5 ⟨z5, rfl, hO5⟩ hS hsub5
      refine ⟨_, rfl, ?_⟩
      refine go_ix hx h0 (by omega) ?_
      refine ld_count (hx.src hS.sub) h0 (by omega) ?_
      intro _ _
      refine go_wr (by omega) (by omega) ?_
      refine go_ix hx h0 (by omega) ?_
      refine ld_tag (hx.src hS.sub) h0 (by omega) ?_
      intro c0 c1
      refine go_oix hO3 h0 (by omega) ?_
      obtain ⟨u2, hu2, hS, hJ⟩ := hS.freeze J5
      have hz := Own.read1 (u := u) (hO5.ofInts) hJ
      have hin1 : InI ((nth h i).count + 1) := ⟨by omega, by omega⟩
      generalize hfs : ((nth h i).fields.take ((f2.n : Int) - 1).toNat).drop (0 : Int).toNat ++ [1000 + i] = fs5 at hz
      refine Own.store (hO3.mono hu2) hS h0 (by omega) (⟨(nth h i).count + 1, (nth h i).tag, fs5⟩ : CellD) (Nat.le_refl 3) (fun r hr => ?_) ?_
      · obtain ⟨f, rfl, _⟩ := hr
        exact ⟨z5, rfl, hin1, ⟨c0, c1⟩, hz⟩
      intro w6 I6 hO6 hS
      refine ⟨_, c_implValidHeap (Own.read hO6 hS), fun hq => ?_, fun hq => ?_⟩
      · exact absurd (vheapB_iff.1 hq) (circle_not h0 (by omega) (by show 0 < (nth h i).count + 1; omega) (by show _ ∈ fs5; rw [← hfs]; simp))
      · refine go_wr (by omega) (by omega) ?_
        refine ⟨⟨_, St.mk (hu2.trans hS.sub) hS.nd (fun p hp => ?_) hS.at_, by omega, by omega⟩, by omega⟩
        exact hu2.out (hS.out p hp)
    · refine go_wr (by omega) (by omega) ?_
      exact ⟨⟨L, hS, by omega, by omega⟩, by omega⟩
end Go.Vc
