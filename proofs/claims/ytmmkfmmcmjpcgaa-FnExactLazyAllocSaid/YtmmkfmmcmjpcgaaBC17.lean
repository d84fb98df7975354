/- Part of the proofs about the heaps: a law is joined in the text whose name ends in W and the law. -/
import Derived.Test.YtmmkfmmcmjpcgaaBC16
namespace Go.Vc
open Go Go.Proofs Go.RowKit
set_option linter.all false
section
variable {u v w : World} {x y xf s t : Sl} {l ws fs pend : List Int} {h g : List CellD} {z z' : LazyD} {m n k f : Int} {a : Addr} {I J K L R R1 : Items} {F F1 : Items → Items}

theorem c_index (hx : Read v x l) : ∃ k : Int, (0 ≤ k ↔ n ∈ l) ∧ Fn Try.prog 106 #[x.val, .int .i64 n] v (.int .i64 k) := by
  have hn := hx.n
  have hl := hx.le
  by_cases hm : n ∈ l
  · refine ⟨(l.idxOf n : Nat), ⟨fun _ => hm, fun _ => by omega⟩, ?_⟩
    refine of106 _ _ _ _ ?_
    unfold vc106
    have hlt := List.idxOf_lt_length_iff.2 hm
    have hget : nth l (l.idxOf n : Nat) = n := nth_of (by simp [hlt])
    have hfirst : ∀ i : Int, 0 ≤ i → i < l.length → nth l i = n → ((l.idxOf n : Nat) : Int) ≤ i := fun i h0 h1 he => by
      rcases Int.lt_or_le i (l.idxOf n : Nat) with hlt2 | hge
      · exfalso
        have := List.not_of_lt_findIdx (p := (· == n)) (xs := l) (i := i.toNat) (by rw [List.idxOf] at hlt2; omega)
        have e := nth_get h0 h1
        rw [he] at e
        obtain ⟨h2, h3⟩ := List.getElem?_eq_some_iff.1 e
        simp [h3] at this
      · exact hge
    refine ⟨fun i w => Sub v w ∧ 0 ≤ i ∧ i ≤ (l.idxOf n : Nat), fun i _ => (l.length - i).toNat, ⟨.refl v, by omega, by omega⟩, ?_⟩
    rintro i w ⟨hs, h0, h1⟩
    dsimp only
    refine ⟨fun hi => ?_, fun hi => ?_⟩
    · simp only [decide_eq_true_eq, decide_eq_false_iff_not, Bool.and_eq_true, Bool.and_eq_false_iff, Bool.or_eq_true, Bool.or_eq_false_iff, Bool.not_eq_true', Bool.not_eq_false', Bool.not_true, Bool.not_false, Bool.false_eq_true, Bool.true_eq_false, Int.not_lt, Int.not_le, ge_iff_le, gt_iff_lt, Bool.not_eq_eq_eq_not, Bool.true_or, Bool.or_true, Bool.false_or, Bool.or_false, Bool.true_and, Bool.and_true, false_or, or_false, true_and, and_true, Decidable.not_not] at hi
      refine go_ix hx h0 (by omega) ?_
      refine ld_int (hx.mono hs) h0 (by omega) ?_
      intro a0 a1
      refine ⟨fun hq => ?_, fun hq => ?_⟩
      · simp only [decide_eq_true_eq, decide_eq_false_iff_not, Bool.and_eq_true, Bool.and_eq_false_iff, Bool.or_eq_true, Bool.or_eq_false_iff, Bool.not_eq_true', Bool.not_eq_false', Bool.not_true, Bool.not_false, Bool.false_eq_true, Bool.true_eq_false, Int.not_lt, Int.not_le, ge_iff_le, gt_iff_lt, Bool.not_eq_eq_eq_not, Bool.true_or, Bool.or_true, Bool.false_or, Bool.or_false, Bool.true_and, Bool.and_true, false_or, or_false, true_and, and_true, Decidable.not_not] at hq
        have := hfirst i h0 (by omega) hq.symm
        exact ⟨by rw [show i = ((l.idxOf n : Nat) : Int) from by omega], hs⟩
      · simp only [decide_eq_true_eq, decide_eq_false_iff_not, Bool.and_eq_true, Bool.and_eq_false_iff, Bool.or_eq_true, Bool.or_eq_false_iff, Bool.not_eq_true', Bool.not_eq_false', Bool.not_true, Bool.not_false, Bool.false_eq_true, Bool.true_eq_false, Int.not_lt, Int.not_le, ge_iff_le, gt_iff_lt, Bool.not_eq_eq_eq_not, Bool.true_or, Bool.or_true, Bool.false_or, Bool.or_false, Bool.true_and, Bool.and_true, false_or, or_false, true_and, and_true, Decidable.not_not] at hq
        refine go_wr (by omega) (by omega) ?_
        refine ⟨⟨hs, by omega, ?_⟩, by omega⟩
        rcases Int.lt_or_le i (l.idxOf n : Nat) with hlt2 | hge
        · omega
        · exfalso; rw [show i = ((l.idxOf n : Nat) : Int) from by omega, hget] at hq; exact hq rfl
    · simp only [decide_eq_true_eq, decide_eq_false_iff_not, Bool.and_eq_true, Bool.and_eq_false_iff, Bool.or_eq_true, Bool.or_eq_false_iff, Bool.not_eq_true', Bool.not_eq_false', Bool.not_true, Bool.not_false, Bool.false_eq_true, Bool.true_eq_false, Int.not_lt, Int.not_le, ge_iff_le, gt_iff_lt, Bool.not_eq_eq_eq_not, Bool.true_or, Bool.or_true, Bool.false_or, Bool.or_false, Bool.true_and, Bool.and_true, false_or, or_false, true_and, and_true, Decidable.not_not] at hi
      omega
  · refine ⟨-1, ⟨fun h => by omega, fun h => absurd h hm⟩, ?_⟩
    refine of106 _ _ _ _ ?_
    unfold vc106
    refine ⟨fun i w => Sub v w ∧ 0 ≤ i ∧ i ≤ l.length, fun i _ => (l.length - i).toNat, ⟨.refl v, by omega, by omega⟩, ?_⟩
    rintro i w ⟨hs, h0, h1⟩
    dsimp only
    refine ⟨fun hi => ?_, fun hi => ⟨rfl, hs⟩⟩
    simp only [decide_eq_true_eq, decide_eq_false_iff_not, Bool.and_eq_true, Bool.and_eq_false_iff, Bool.or_eq_true, Bool.or_eq_false_iff, Bool.not_eq_true', Bool.not_eq_false', Bool.not_true, Bool.not_false, Bool.false_eq_true, Bool.true_eq_false, Int.not_lt, Int.not_le, ge_iff_le, gt_iff_lt, Bool.not_eq_eq_eq_not, Bool.true_or, Bool.or_true, Bool.false_or, Bool.or_false, Bool.true_and, Bool.and_true, false_or, or_false, true_and, and_true, Decidable.not_not] at hi
    refine go_ix hx h0 (by omega) ?_
    refine ld_int (hx.mono hs) h0 (by omega) ?_
    intro a0 a1
    refine ⟨fun hq => ?_, fun hq => ?_⟩
    · simp only [decide_eq_true_eq, decide_eq_false_iff_not, Bool.and_eq_true, Bool.and_eq_false_iff, Bool.or_eq_true, Bool.or_eq_false_iff, Bool.not_eq_true', Bool.not_eq_false', Bool.not_true, Bool.not_false, Bool.false_eq_true, Bool.true_eq_false, Int.not_lt, Int.not_le, ge_iff_le, gt_iff_lt, Bool.not_eq_eq_eq_not, Bool.true_or, Bool.or_true, Bool.false_or, Bool.or_false, Bool.true_and, Bool.and_true, false_or, or_false, true_and, and_true, Decidable.not_not] at hq
      exact absurd (hq ▸ nth_mem h0 (by omega)) hm
    · refine go_wr (by omega) (by omega) ?_
      exact ⟨⟨hs, by omega, by omega⟩, by omega⟩

theorem c_contains (hx : Read v x l) : Fn Try.prog 86 #[x.val, .int .i64 n] v (.bool (decide (n ∈ l))) := by
  refine of86 _ _ _ _ ?_
  unfold vc86
  obtain ⟨k, hk, hf⟩ := c_index (n := n) hx
  refine ⟨k, hf, ?_, .refl v⟩
  congr 1
  rw [Bool.eq_iff_iff]
  simp only [ge_iff_le, decide_eq_true_eq]
  exact hk

theorem c_implSettle (hC : Cel a [x.val, y.val] I) (hO : Own u x z.cells J) (hP : Own u y z.pend K) (hS : St u w (I ++ (J ++ (K ++ R)))) (hL : LZ z.cells z.pend []) (hm0 : 0 ≤ m) (hm1 : m ≤ 1000000000) (hl : z.cells.length ≤ 1000000000) :
    Trip Try.prog 79 #[.pointer (some (a.add 0)), .int .i64 m] w fun r w' => ∃ x' y' I' J' K', r = .tuple #[] ∧ Cel a [x'.val, y'.val] I' ∧ Own u x' (settleL m.toNat z).cells J' ∧ Own u y' (settleL m.toNat z).pend K' ∧ St u w' (I' ++ (J' ++ (K' ++ R))) := by
  refine of79 _ _ _ _ ?_
  unfold vc79
  refine ⟨fun i w => ∃ x y I J K, Cel a [x.val, y.val] I ∧ Own u x (settleN (m - i).toNat z).cells J ∧ Own u y (settleN (m - i).toNat z).pend K ∧ St u w (I ++ (J ++ (K ++ R))) ∧ 0 ≤ i ∧ i ≤ m, fun i _ => i.toNat,
    ⟨x, y, I, J, K, hC, by rw [show (m - m).toNat = 0 from by omega]; exact hO, by rw [show (m - m).toNat = 0 from by omega]; exact hP, hS, hm0, by omega⟩, ?_⟩
  clear hC hO hP hS
  rintro i w ⟨x, y, I, J, K, hC, hO, hP, hS, h0, h1⟩
  obtain ⟨L1, hlen, _⟩ := LZ.settleN (m - i).toNat hL
  have hsucc : 0 < i → settleN (m - (i - 1)).toNat z = settle1 (settleN (m - i).toNat z) := fun hi => by rw [show (m - (i - 1)).toNat = (m - i).toNat + 1 from by omega]; exact settleN_succ' _ _
  have hend : ¬ (0 < i ∧ (settleN (m - i).toNat z).pend ≠ []) → settleN m.toNat z = settleN (m - i).toNat z := by
    intro hc
    rcases Int.lt_or_le 0 i with hlt | hge
    · have he : (settleN (m - i).toNat z).pend = [] := Classical.byContradiction fun hn => hc ⟨hlt, hn⟩
      rw [show m.toNat = (m - i).toNat + i.toNat from by omega, settleN_add, settleN_nil he]
    · rw [show m - i = m from by omega]
  dsimp only
  generalize hzz : settleN (m - i).toNat z = zz at *
  obtain ⟨cells, pend⟩ := zz
  simp only at hO hP L1 hlen
  have hyn := hP.n
  have hxn := hO.n
  refine ⟨y, fun _ => Cel.load hC hS rfl, fun hc => ?_, fun hc => ?_⟩
  · simp only [decide_eq_true_eq, decide_eq_false_iff_not, Bool.and_eq_true, Bool.and_eq_false_iff, Bool.or_eq_true, Bool.or_eq_false_iff, Bool.not_eq_true', Bool.not_eq_false', Bool.not_true, Bool.not_false, Bool.false_eq_true, Bool.true_eq_false, Int.not_lt, Int.not_le, ge_iff_le, gt_iff_lt, Bool.not_eq_eq_eq_not, Bool.true_or, Bool.or_true, Bool.false_or, Bool.or_false, Bool.true_and, Bool.and_true, false_or, or_false, true_and, and_true, Decidable.not_not] at hc
    obtain ⟨at_, r, rfl⟩ : ∃ at_ r, pend = at_ :: r := by
      cases pend with
      | nil => simp at hyn; omega
      | cons a r => exact ⟨a, r, rfl⟩
    obtain ⟨p0, p1, p2⟩ := L1.pr at_ List.mem_cons_self
    refine ⟨y, Cel.load hC hS rfl, ?_⟩
    refine go_oix hP (Int.le_refl 0) (by simp) ?_
    refine ld_int (Own.read hP hS) (Int.le_refl 0) (by simp) ?_
    have hn0 : nth (at_ :: r) 0 = at_ := rfl
    rw [hn0]
    intro a0 a1
    refine ⟨y, Cel.load hC hS rfl, ⟨by omega, by simp at hyn; omega⟩, ?_⟩
    have hcut := hP.cut (lo := 1) (hi := y.n) (by omega) (by simp at hyn; omega) (by omega)
    have hct : ((at_ :: r).take (y.n : Int).toNat).drop (1 : Int).toNat = r := by rw [hyn]; simp
    rw [hct] at hcut
    refine Cel.store hC hS (by simp) ?_
    intro w2 I2 hC hS
    simp [putR] at hC
    refine ⟨x, Cel.load hC hS rfl, ?_⟩
    refine go_oix hO p0 p1 ?_
    refine ld_fields (hO.src hS) p0 p1 ?_
    intro f hF
    refine ⟨x, Cel.load hC hS rfl, ?_⟩
    refine go_oix hO p0 p1 ?_
    refine Own.store hO hS p0 p1 free0 (Nat.le_of_ble_eq_true rfl) (fun r hr => ?_) ?_
    · obtain ⟨f, rfl, c1, c2, c3⟩ := hr
      exact ⟨⟨none, 0, 0⟩, rfl, zero_in, zero_in, ReadB.nil⟩
    intro w5 J5 hO5 hS
    have hpop := LZ.pop (h := cells) (p := at_) (r := r) L1
    have hfn : f.n = (nth cells at_).fields.length := hF.n
    have hfl := (L1.cell _ (nth_mem (l := cells) p0 p1)).2.2.1
    have hs1 : settle1 (⟨cells, at_ :: r⟩ : LazyD) = dropF ⟨cells.set at_.toNat free0, r⟩ (nth cells at_).fields := rfl
    generalize hz1 : (⟨cells.set at_.toNat free0, r⟩ : LazyD) = z1 at *
    have hz1c : z1.cells = cells.set at_.toNat free0 := by rw [← hz1]
    have hz1p : z1.pend = r := by rw [← hz1]
    rw [← hz1c] at hO5 hpop
    rw [← hz1p] at hcut hpop
    refine ⟨fun j w => ∃ x y I J K, Cel a [x.val, y.val] I ∧ Own u x (dropF z1 ((nth cells at_).fields.take j.toNat)).cells J ∧ Own u y (dropF z1 ((nth cells at_).fields.take j.toNat)).pend K ∧ St u w (I ++ (J ++ (K ++ R))) ∧ 0 ≤ j ∧ j ≤ (nth cells at_).fields.length ∧
        LZ (dropF z1 ((nth cells at_).fields.take j.toNat)).cells (dropF z1 ((nth cells at_).fields.take j.toNat)).pend ((nth cells at_).fields.drop j.toNat),
      fun j _ => ((nth cells at_).fields.length - j).toNat, ⟨x, _, I2, J5, K, hC, hO5, hcut, hS.to, by omega, by omega, hpop⟩, ?_⟩
    clear hO5 hcut hS hP hO hC
    rintro j w ⟨x, y, I, J, K, hC, hO, hP, hS, j0, j1, L2⟩
    dsimp only
    have hdl := dropF_len z1 ((nth cells at_).fields.take j.toNat)
    have hz1l : z1.cells.length = cells.length := by rw [hz1c]; simp
    have hpl := pend_len L2
    refine ⟨fun hj => ?_, fun hj => ?_⟩
    · simp only [decide_eq_true_eq, decide_eq_false_iff_not, Bool.and_eq_true, Bool.and_eq_false_iff, Bool.or_eq_true, Bool.or_eq_false_iff, Bool.not_eq_true', Bool.not_eq_false', Bool.not_true, Bool.not_false, Bool.false_eq_true, Bool.true_eq_false, Int.not_lt, Int.not_le, ge_iff_le, gt_iff_lt, Bool.not_eq_eq_eq_not, Bool.true_or, Bool.or_true, Bool.false_or, Bool.or_false, Bool.true_and, Bool.and_true, false_or, or_false, true_and, and_true, Decidable.not_not] at hj
      have hlt : j.toNat < (nth cells at_).fields.length := by omega
      have hdrop : (nth cells at_).fields.drop j.toNat = nth (nth cells at_).fields j :: (nth cells at_).fields.drop (j + 1).toNat := by
        rw [show (j + 1).toNat = j.toNat + 1 from by omega, List.drop_eq_getElem_cons hlt]
        congr 1
        exact (nth_of (i := j) (by simp [hlt])).symm
      have htake := take_nth (l := (nth cells at_).fields) j0 (by omega)
      have hstep := dropF_snoc z1 (nth (nth cells at_).fields j) ((nth cells at_).fields.take j.toNat)
      rw [← htake] at hstep
      rw [hdrop] at L2
      refine go_ix hF j0 (by omega) ?_
      refine ld_int (hF.mono hS.sub) j0 (by omega) ?_
      intro b0 b1
      refine ⟨x, Cel.load hC hS rfl, _, _, c_liveAt (Own.read hO hS) ⟨b0, b1⟩, fun hq => ?_, fun hq => ?_⟩
      · obtain ⟨l1, l2, l3⟩ := live_iff.1 hq
        have hat : atI (nth (nth cells at_).fields j) = nth (nth cells at_).fields j - 1000 := atI_of l1 b1
        rw [hat]
        refine Trip.mono' (c_implDrop hC hO hP hS (by omega) l2 l3 (by omega) (by omega)) ?_
        rintro _ w6 ⟨y6, I6, J6, K6, rfl, hC6, hO6, hP6, hS⟩
        refine ⟨rfl, ?_⟩
        refine go_wr (by omega) (by omega) ?_
        rw [if_pos l1] at hstep
        refine ⟨⟨x, y6, I6, J6, K6, hC6, by rw [hstep]; exact hO6, by rw [hstep]; exact hP6, hS, by omega, by omega, by rw [hstep]; exact L2.lower l1⟩, by omega⟩
      · have hnp : ¬ 1000 ≤ nth (nth cells at_).fields j := fun hp => by have := L2.head hp; rw [this] at hq; cases hq
        refine go_wr (by omega) (by omega) ?_
        rw [if_neg hnp] at hstep
        refine ⟨⟨x, y, I, J, K, hC, by rw [hstep]; exact hO, by rw [hstep]; exact hP, hS, by omega, by omega, by rw [hstep]; exact L2.skip hnp⟩, by omega⟩
    · simp only [decide_eq_true_eq, decide_eq_false_iff_not, Bool.and_eq_true, Bool.and_eq_false_iff, Bool.or_eq_true, Bool.or_eq_false_iff, Bool.not_eq_true', Bool.not_eq_false', Bool.not_true, Bool.not_false, Bool.false_eq_true, Bool.true_eq_false, Int.not_lt, Int.not_le, ge_iff_le, gt_iff_lt, Bool.not_eq_eq_eq_not, Bool.true_or, Bool.or_true, Bool.false_or, Bool.or_false, Bool.true_and, Bool.and_true, false_or, or_false, true_and, and_true, Decidable.not_not] at hj
      refine go_wr (by omega) (by omega) ?_
      rw [take_all (by omega)] at hO hP
      rw [← hs1, ← hsucc hc.1] at hO hP
      exact ⟨⟨x, y, I, J, K, hC, hO, hP, hS, by omega, by omega⟩, by omega⟩
  · simp only [decide_eq_true_eq, decide_eq_false_iff_not, Bool.and_eq_true, Bool.and_eq_false_iff, Bool.or_eq_true, Bool.or_eq_false_iff, Bool.not_eq_true', Bool.not_eq_false', Bool.not_true, Bool.not_false, Bool.false_eq_true, Bool.true_eq_false, Int.not_lt, Int.not_le, ge_iff_le, gt_iff_lt, Bool.not_eq_eq_eq_not, Bool.true_or, Bool.or_true, Bool.false_or, Bool.or_false, Bool.true_and, Bool.and_true, false_or, or_false, true_and, and_true, Decidable.not_not] at hc
    have he := hend (by
      rintro ⟨q1, q2⟩
      rcases hc with hc | hc
      · omega
      · exact q2 (List.eq_nil_of_length_eq_zero (by show pend.length = 0; omega)))
    have hres : settleL m.toNat z = ⟨cells.take (trimN cells pend cells.length), pend⟩ := by unfold settleL trimZ; rw [he]
    refine ⟨x, Cel.load hC hS rfl, ?_⟩
    refine ⟨fun i w => St u w (I ++ (J ++ (K ++ R))) ∧ 0 ≤ i ∧ i ≤ cells.length ∧ ∀ j : Int, i ≤ j → j < cells.length → (nth cells j).count = 0 ∧ j ∉ pend, fun i _ => i.toNat, ⟨hS, by omega, by omega, fun j h1 h2 => by omega⟩, ?_⟩
    clear hS
    rintro i w ⟨hS, h0, h1, h2⟩
    dsimp only
    have hi : decide (i > 0) = true → 0 ≤ i - 1 ∧ i - 1 < cells.length := fun hc => by simp only [decide_eq_true_eq, decide_eq_false_iff_not, Bool.and_eq_true, Bool.and_eq_false_iff, Bool.or_eq_true, Bool.or_eq_false_iff, Bool.not_eq_true', Bool.not_eq_false', Bool.not_true, Bool.not_false, Bool.false_eq_true, Bool.true_eq_false, Int.not_lt, Int.not_le, ge_iff_le, gt_iff_lt, Bool.not_eq_eq_eq_not, Bool.true_or, Bool.or_true, Bool.false_or, Bool.or_false, Bool.true_and, Bool.and_true, false_or, or_false, true_and, and_true, Decidable.not_not] at hc; omega
    refine ⟨x, fun _ => Cel.load hC hS rfl, i - 1, fun _ => wrap_i64 (by omega) (by omega), fun hc => hO.ix (hi hc).1 (hi hc).2, ?_⟩
    refine ld_countg (hO.src hS) hi ?_
    refine ⟨y, fun _ => Cel.load hC hS rfl, i - 1, fun _ => wrap_i64 (by omega) (by omega), _, fun _ => c_contains (Own.read hP hS), fun hc => ?_, fun hc => ?_⟩
    · simp only [decide_eq_true_eq, decide_eq_false_iff_not, Bool.and_eq_true, Bool.and_eq_false_iff, Bool.or_eq_true, Bool.or_eq_false_iff, Bool.not_eq_true', Bool.not_eq_false', Bool.not_true, Bool.not_false, Bool.false_eq_true, Bool.true_eq_false, Int.not_lt, Int.not_le, ge_iff_le, gt_iff_lt, Bool.not_eq_eq_eq_not, Bool.true_or, Bool.or_true, Bool.false_or, Bool.or_false, Bool.true_and, Bool.and_true, false_or, or_false, true_and, and_true, Decidable.not_not] at hc
      refine go_wr (by omega) (by omega) ?_
      refine ⟨⟨hS, by omega, by omega, fun j j0 j1 => ?_⟩, by omega⟩
      by_cases e : j = i - 1
      · rw [e]; exact ⟨hc.1.2, hc.2⟩
      · exact h2 j (by omega) j1
    · simp only [decide_eq_true_eq, decide_eq_false_iff_not, Bool.and_eq_true, Bool.and_eq_false_iff, Bool.or_eq_true, Bool.or_eq_false_iff, Bool.not_eq_true', Bool.not_eq_false', Bool.not_true, Bool.not_false, Bool.false_eq_true, Bool.true_eq_false, Int.not_lt, Int.not_le, ge_iff_le, gt_iff_lt, Bool.not_eq_eq_eq_not, Bool.true_or, Bool.or_true, Bool.false_or, Bool.or_false, Bool.true_and, Bool.and_true, false_or, or_false, true_and, and_true, Decidable.not_not] at hc
      have e : trimN cells pend cells.length = i.toNat := trimN_eq (by omega) (fun k k0 k1 => h2 k (by omega) k1) (fun hp => by
        rw [Int.toNat_of_nonneg h0]
        rcases hc with (hc | hc) | hc
        · omega
        · exact .inl hc
        · exact .inr hc)
      have hcut := hO.cut (lo := 0) (hi := i) (by omega) h0 h1
      have hct : (cells.take i.toNat).drop (0 : Int).toNat = cells.take i.toNat := by simp
      rw [hct] at hcut
      refine ⟨x, Cel.load hC hS rfl, ⟨by omega, by omega, ?_⟩, ?_⟩
      · obtain ⟨_, hr, _⟩ := Own.read hO hS; have := hr.2.1; omega
      refine Cel.store hC hS (by simp) ?_
      intro w6 I6 hC hS
      simp [putR] at hC
      refine ⟨_, y, I6, J, K, rfl, hC, ?_, ?_, hS⟩
      · rw [hres, e]; exact hcut
      · rw [hres]; exact hP
end
end Go.Vc
