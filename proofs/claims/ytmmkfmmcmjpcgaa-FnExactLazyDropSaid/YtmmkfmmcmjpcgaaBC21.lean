/- Part of the proofs about the heaps: a law is joined in the text whose name ends in W and the law. -/
import Derived.Test.YtmmkfmmcmjpcgaaBC20
namespace Go.Vc
open Go Go.Proofs Go.RowKit
set_option linter.all false

/-- owned to the leaves as far as element i; what follows is as q says -/
def OwnP (q : Nat → List Value → Prop) (i : Nat) (x : Sl) (l : List CellD) (I : Items) : Prop :=
  ∃ (rows : List (List Value)) (I0 : Items) (Is : List Items), OSl 3 x rows I0 ∧ rows.length = l.length ∧ Is.length = i ∧ i ≤ l.length ∧
    (∀ (j : Nat) (r : List Value) (a : CellD) (K : Items), rows[j]? = some r → l[j]? = some a → Is[j]? = some K → DatO.own r a K) ∧ (∀ (j : Nat) (r : List Value), i ≤ j → rows[j]? = some r → q j r) ∧ I.Perm (I0 ++ Is.flatten) ∧ l.length ≤ BB

section
variable {u v w : World} {x y xf s t : Sl} {l ws fs pend : List Int} {h g : List CellD} {z z' : LazyD} {b m n k f : Int} {a : Addr} {I J K L R R1 : Items} {F F1 : Items → Items} {q : Nat → List Value → Prop}

theorem OwnP.start {rows : List (List Value)} (h1 : OSl 3 x rows I) (h2 : rows.length = h.length) (h3 : ∀ (j : Nat) (r : List Value), rows[j]? = some r → q j r) (hl : h.length ≤ BB) : OwnP q 0 x h I :=
  ⟨rows, I, [], h1, h2, rfl, Nat.zero_le _, fun j r a K _ _ hK => by simp at hK, fun j r _ hr => h3 j r hr, by simp, hl⟩
theorem OwnP.done (h : OwnP q g.length x g I) : OwnD x g I := by
  obtain ⟨rows, I0, Is, h1, h2, h3, _, h4, _, h5, h6⟩ := h
  exact ⟨rows, I0, Is, [], h1, h2, h3, h4, by simpa using h5, h6⟩
theorem OwnP.ix {i : Nat} (h : OwnP q i x g I) {j : Int} (h0 : 0 ≤ j) (h1 : j < g.length) : IxOk x j := by
  obtain ⟨rows, I0, Is, k1, k2, _⟩ := h
  cases k1 with
  | nil => simp at k2; omega
  | blk g o n c cur e _ hn hc hm hs hr => exact ⟨rfl, h0, by simp only [] at *; omega⟩
theorem OwnP.len_ {i : Nat} (h : OwnP q i x g I) : x.n = g.length := by
  obtain ⟨rows, I0, Is, k1, k2, _⟩ := h
  exact k1.len.trans k2

theorem OwnP.step {i : Int} (h : OwnP q i.toNat x g I) (hS : St u w (K ++ (I ++ R))) (h0 : 0 ≤ i) (hi : i < g.length) {off : Nat} {vals : List Value} (hv : off + vals.length ≤ 3)
    (hown : ∀ r, q i.toNat r → DatO.own (putR r off vals) (nth g i) K) {Kt : World → Prop} (k : ∀ w' I', OwnP q (i + 1).toNat x g I' → St u w' (I' ++ R) → Kt w') : StoreAt w (elA x i 3) off vals Kt := by
  obtain ⟨rows, I0, Is, k1, k2, k3, k4, k5, k6, k7, k8⟩ := h
  have hlt : i.toNat < rows.length := by omega
  have er := List.getElem?_eq_getElem hlt
  have hS1 : St u w (I0 ++ (Is.flatten ++ (K ++ R))) := hS.perm (by
    classical
    exact List.perm_iff_count.2 fun a => by have := k7.count_eq a; simp only [List.count_append] at *; omega)
  obtain ⟨c1, I0', c2, c3⟩ := k1.store hS1 h0 er hv
  refine ⟨c1, k _ (I0' ++ (Is ++ [K]).flatten) ⟨_, I0', Is ++ [K], c2, by simpa using k2, by simp; omega, by omega, fun j r a K' hr ha hK => ?_, fun j r hj hr => ?_, .refl _, k8⟩ (c3.perm (by
    classical
    exact List.perm_iff_count.2 fun a => by simp only [List.flatten_append, List.flatten_cons, List.flatten_nil, List.append_nil, List.count_append]; omega))⟩
  · rw [List.getElem?_set] at hr
    split at hr
    · rename_i e
      subst e
      rw [List.getElem?_append_right (by omega), show i.toNat - Is.length = 0 from by omega] at hK
      simp only [List.getElem?_cons_zero, Option.some.injEq] at hK hr
      subst hK
      subst hr
      have := nth_of (i := i) ha
      rw [← this]
      exact hown _ (k6 _ _ (Nat.le_refl _) er)
    · rename_i e
      have hj : j < Is.length := by
        have := (List.getElem?_eq_some_iff.1 hK).1
        simp only [List.length_append, List.length_singleton] at this
        omega
      rw [List.getElem?_append_left hj] at hK
      exact k5 j r a K' hr ha hK
  · rw [List.getElem?_set, if_neg (by omega)] at hr
    exact k6 j r (by omega) hr

/-- a copy owned to the leaves -/
theorem c_cloneHeapD (hx : Read v x h) : Mk Try.prog 102 #[x.val] v fun r J => ∃ y, r = y.val ∧ OwnD y h J := by
  refine of102 _ _ _ ?_
  unfold vc102
  have hn := hx.n
  have hl := hx.le
  refine Mk.use (c_cloneCells hx) (.refl v) ?_
  rintro _ w1 J1 ⟨y, rfl, hO⟩ hS hsub
  refine ⟨_, rfl, ?_⟩
  have hP0 : OwnP (fun j r => ∀ c, h[j]? = some c → Dat.cells BB v r c) 0 y h J1 := by
    obtain ⟨rows, k1, k2, k3⟩ := hO
    exact .start k1 k2.1 (fun j r hr c hc => k2.2 j r c hr hc) k3
  refine ⟨fun i w => ∃ I, OwnP (fun j r => ∀ c, h[j]? = some c → Dat.cells BB v r c) i.toNat y h I ∧ St v w (I ++ []) ∧ 0 ≤ i ∧ i ≤ h.length, fun i _ => (h.length - i).toNat, ⟨J1, hP0, hS, by omega, by omega⟩, ?_⟩
  clear hO hS hP0
  rintro i w ⟨I, hO, hS, h0, h1⟩
  dsimp only
  refine ⟨fun hi => ?_, fun hi => ?_⟩
  · simp only [decide_eq_true_eq, decide_eq_false_iff_not, Bool.and_eq_true, Bool.and_eq_false_iff, Bool.or_eq_true, Bool.or_eq_false_iff, Bool.not_eq_true', Bool.not_eq_false', Bool.not_true, Bool.not_false, Bool.false_eq_true, Bool.true_eq_false, Int.not_lt, Int.not_le, ge_iff_le, gt_iff_lt, Bool.not_eq_eq_eq_not, Bool.true_or, Bool.or_true, Bool.false_or, Bool.or_false, Bool.true_and, Bool.and_true, false_or, or_false, true_and, and_true, Decidable.not_not] at hi
    refine go_ix hx h0 (by omega) ?_
    refine ld_cell (hx.src hS.sub) h0 (by omega) ?_
    intro f hf hcI htI
    refine Mk.use (c_cloneInts hf) hS ?_
    rintro _ w2 J2 ⟨t, rfl, hT⟩ hS hsub
    refine ⟨_, rfl, hO.ix h0 (by omega), ?_⟩
    refine hO.step hS h0 (by omega) (Nat.le_of_ble_eq_true rfl) (fun r hr => ?_) ?_
    · obtain ⟨f, rfl, c1, c2, c3⟩ := hr _ (nth_get h0 (by omega))
      exact ⟨t, rfl, c1, c2, hT.toAll⟩
    intro w3 I3 hO3 hS
    refine go_wr (by omega) (by omega) ?_
    exact ⟨⟨I3, hO3, hS, by omega, by omega⟩, by omega⟩
  · simp only [decide_eq_true_eq, decide_eq_false_iff_not, Bool.and_eq_true, Bool.and_eq_false_iff, Bool.or_eq_true, Bool.or_eq_false_iff, Bool.not_eq_true', Bool.not_eq_false', Bool.not_true, Bool.not_false, Bool.false_eq_true, Bool.true_eq_false, Int.not_lt, Int.not_le, ge_iff_le, gt_iff_lt, Bool.not_eq_eq_eq_not, Bool.true_or, Bool.or_true, Bool.false_or, Bool.or_false, Bool.true_and, Bool.and_true, false_or, or_false, true_and, and_true, Decidable.not_not] at hi
    rw [show i.toNat = h.length from by omega] at hO
    exact ⟨I, by simpa using hS, y, rfl, hO.done⟩

theorem c_cloneLazyD (hx : Read v x z.cells) (hy : Read v y z.pend) : Mk Try.prog 75 #[.agg #[x.val, y.val]] v fun r J => ∃ t s, ∃ J1 J2, r = .agg #[t.val, s.val] ∧ OwnD t z.cells J1 ∧ Own v s z.pend J2 ∧ J = J1 ++ J2 := by
  refine of75 _ _ _ _ ?_
  unfold vc75
  refine Mk.use (c_cloneHeapD hx) (.refl v) ?_
  rintro _ w1 J1 ⟨t, rfl, hO⟩ hS hsub
  refine ⟨_, rfl, hsub, ?_⟩
  refine Mk.use (c_cloneInts hy) hS ?_
  rintro _ w2 J2 ⟨s, rfl, hP⟩ hS hsub
  exact ⟨_, rfl, J1 ++ J2, (hS.to : St v w2 (J1 ++ (J2 ++ []))).perm (by simp), t, s, J1, J2, rfl, hO, hP, rfl⟩

theorem c_implDropD (hC : Cel a [x.val, y.val] I) (hO : OwnD x h J) (hP : Own u y pend L) (hS : St u w (I ++ (J ++ (L ++ R)))) (h0 : 0 ≤ k) (h1 : k < h.length) (hc : 0 < (nth h k).count) (hk : k ≤ 1000000000000) (hpl : pend.length < 1099511627776) :
    Trip Try.prog 76 #[.pointer (some (a.add 0)), .int .i64 k] w fun r w' => ∃ y' I' J' L', r = .tuple #[] ∧ Cel a [x.val, y'.val] I' ∧ OwnD x (lowerZ ⟨h, pend⟩ k).cells J' ∧ Own u y' (lowerZ ⟨h, pend⟩ k).pend L' ∧ St u w' (I' ++ (J' ++ (L' ++ R))) := by
  refine of76 _ _ _ _ ?_
  unfold vc76
  refine ⟨x, Cel.load hC hS rfl, hO.ix h0 h1, ?_⟩
  refine ld_count (OwnD.src hO hS) h0 h1 ?_
  intro a0 a1
  refine go_wr (by omega) (by omega) ?_
  refine ⟨hO.ix h0 h1, ?_⟩
  have hin1 : InI ((nth h k).count - 1) := ⟨by omega, by omega⟩
  refine OwnD.store hO hS h0 h1 (decC (nth h k)) [] (Nat.le_of_ble_eq_true rfl) (fun r K hr => ?_) ?_
  · obtain ⟨f, rfl, c1, c2, c3⟩ := hr
    exact ⟨K, ⟨f, rfl, hin1, c2, c3⟩, .inr ⟨rfl, rfl⟩⟩
  intro w2 J2 hO2 hS
  rw [List.append_nil] at hO2
  refine ⟨x, Cel.load hC hS rfl, hO2.ix h0 (by simpa using h1), ?_⟩
  refine ld_count (OwnD.src hO2 hS) h0 (by simpa using h1) ?_
  rw [nth_set _ _ _ _ h0 h1 h0, if_pos rfl]
  intro _ _
  have hz : (decC (nth h k)).count = (nth h k).count - 1 := rfl
  refine ⟨fun hc => ?_, fun hc => ?_⟩
  · simp only [decide_eq_true_eq, decide_eq_false_iff_not, Bool.and_eq_true, Bool.and_eq_false_iff, Bool.or_eq_true, Bool.or_eq_false_iff, Bool.not_eq_true', Bool.not_eq_false', Bool.not_true, Bool.not_false, Bool.false_eq_true, Bool.true_eq_false, Int.not_lt, Int.not_le, ge_iff_le, gt_iff_lt, Bool.not_eq_eq_eq_not, Bool.true_or, Bool.or_true, Bool.false_or, Bool.or_false, Bool.true_and, Bool.and_true, false_or, or_false, true_and, and_true, Decidable.not_not] at hc
    refine ⟨y, Cel.load hC hS rfl, ?_⟩
    refine St.build (α := Int) hS (by (repeat' (first | exact VsOf.nil | apply VsOf.cons | (apply VOf.int; first | assumption | (constructor <;> first | omega | (simp only [List.length_set, List.length_append, List.length_replicate, List.length_cons, List.length_nil, List.length_take, List.length_drop, List.length_map, List.length_singleton] at *; omega))) | exact VOf.bool | exact VOf.str))) rfl (by decide) ?_
    intro x4 w4 I4 hO4 hS hs
    refine ⟨_, rfl, ?_⟩
    refine Own.append hP hS (hO4.src hS) (by simp; omega) (by decide) ?_
    intro x5 w5 I5 hO5 hS
    refine ⟨_, rfl, ?_⟩
    refine Cel.store hC hS (by simp) ?_
    intro w6 I6 hC hS
    simp [putR] at hC
    refine ⟨x5, I6, J2, I5, rfl, hC, hO2, ?_, hS.to⟩
    unfold lowerZ
    simp only
    rw [if_pos (by omega)]; exact hO5
  · simp only [decide_eq_true_eq, decide_eq_false_iff_not, Bool.and_eq_true, Bool.and_eq_false_iff, Bool.or_eq_true, Bool.or_eq_false_iff, Bool.not_eq_true', Bool.not_eq_false', Bool.not_true, Bool.not_false, Bool.false_eq_true, Bool.true_eq_false, Int.not_lt, Int.not_le, ge_iff_le, gt_iff_lt, Bool.not_eq_eq_eq_not, Bool.true_or, Bool.or_true, Bool.false_or, Bool.or_false, Bool.true_and, Bool.and_true, false_or, or_false, true_and, and_true, Decidable.not_not] at hc
    refine ⟨y, I, J2, L, rfl, hC, hO2, ?_, hS.to⟩
    unfold lowerZ
    simp only
    rw [if_neg (by omega)]; exact hP

theorem c_implLazyDropD (hx : Read v x z.cells) (hy : Read v y z.pend) (hn : InI n) (hl : z.cells.length ≤ 1000000000) :
    Mk Try.prog 27 #[.agg #[x.val, y.val], .int .i64 n] v fun r J => ∃ x' y' : Sl, ∃ J1 J2, r = .tuple #[.agg #[x'.val, y'.val], .bool (dropB z n)] ∧ OwnD x' (dropR z n).cells J1 ∧ Own v y' (dropR z n).pend J2 ∧ J = J1 ++ J2 := by
  refine of27 _ _ _ _ _ ?_
  unfold vc27
  have bad : ¬ dropOk z n → ∀ w I, St v w (I ++ []) → ∃ J, St v w J ∧ ∃ x' y' : Sl, ∃ J1 J2, Value.tuple #[.agg #[.slice none 0 0, .slice none 0 0], .bool false] = .tuple #[.agg #[x'.val, y'.val], .bool (dropB z n)] ∧ OwnD x' (dropR z n).cells J1 ∧ Own v y' (dropR z n).pend J2 ∧ J = J1 ++ J2 :=
    fun hb w I hS => ⟨[], hS.to, ⟨none, 0, 0⟩, ⟨none, 0, 0⟩, [], [], by rw [dropB_f hb]; rfl, by rw [dropR_f hb]; exact OwnD.nil, by rw [dropR_f hb]; exact Own.nil v, rfl⟩
  refine Mk.use (c_checkedLazy hx hy) (.refl v) ?_
  rintro _ w1 J1 ⟨t, rfl, hR⟩ hS hsub
  refine ⟨_, _, rfl, _, fun _ => c_wordValid (hx.mono hS.sub) hn, fun hc => bad (fun hd => ?_) w1 J1 hS, fun hc => ?_⟩
  · simp only [decide_eq_true_eq, decide_eq_false_iff_not, Bool.and_eq_true, Bool.and_eq_false_iff, Bool.or_eq_true, Bool.or_eq_false_iff, Bool.not_eq_true', Bool.not_eq_false', Bool.not_true, Bool.not_false, Bool.false_eq_true, Bool.true_eq_false, Int.not_lt, Int.not_le, ge_iff_le, gt_iff_lt, Bool.not_eq_eq_eq_not, Bool.true_or, Bool.or_true, Bool.false_or, Bool.or_false, Bool.true_and, Bool.and_true, false_or, or_false, true_and, and_true, Decidable.not_not] at hc
    rw [vlazyB_iff.2 hd.1, hd.2.1] at hc
    simp at hc
  simp only [decide_eq_true_eq, decide_eq_false_iff_not, Bool.and_eq_true, Bool.and_eq_false_iff, Bool.or_eq_true, Bool.or_eq_false_iff, Bool.not_eq_true', Bool.not_eq_false', Bool.not_true, Bool.not_false, Bool.false_eq_true, Bool.true_eq_false, Int.not_lt, Int.not_le, ge_iff_le, gt_iff_lt, Bool.not_eq_eq_eq_not, Bool.true_or, Bool.or_true, Bool.false_or, Bool.or_false, Bool.true_and, Bool.and_true, false_or, or_false, true_and, and_true, Decidable.not_not] at hc
  have hv := vlazyB_iff.1 hc.1
  have hw := hc.2
  replace hR := hR hv
  have hrl := length_refs (raiseL z.cells z.pend)
  have hrl2 := raiseL_length z.cells z.pend
  refine Mk.use (c_cloneLazyD hx hy) hS ?_
  rintro _ w2 _ ⟨c, p, I2, J2, rfl, hO, hP, rfl⟩ hS hsub
  replace hS : St v w2 (I2 ++ (J2 ++ (J1 ++ []))) := hS.perm (by simp)
  refine ⟨_, _, rfl, ?_⟩
  refine St.box (vals := [.slice none 0 0, .slice none 0 0]) hS fun a w3 I3 hC hS hs => ?_
  refine Cel.store hC hS (by simp) ?_
  intro w4 I4 hC hS
  simp [putR] at hC
  refine ⟨_, _, c_liveAt (hx.mono hS.sub) hn, fun hq => ?_, fun hq => ?_⟩
  · obtain ⟨l1, l2, l3⟩ := live_iff.1 hq
    have hat : atI n = n - 1000 := atI_of l1 hn.2
    rw [hat]
    refine go_ix hx (by omega) l2 ?_
    refine ld_count (hx.src hS.sub) (by omega) l2 ?_
    intro a0 a1
    refine go_oix hR (by omega) (by omega) ?_
    refine ld_int (Own.read hR hS) (by omega) (by omega) ?_
    intro b0 b1
    refine ⟨fun hc => bad (fun hd => ?_) w4 (I4 ++ (I2 ++ (J2 ++ J1))) (hS.perm (by simp)), fun hc => ?_⟩
    · simp only [decide_eq_true_eq, decide_eq_false_iff_not, Bool.and_eq_true, Bool.and_eq_false_iff, Bool.or_eq_true, Bool.or_eq_false_iff, Bool.not_eq_true', Bool.not_eq_false', Bool.not_true, Bool.not_false, Bool.false_eq_true, Bool.true_eq_false, Int.not_lt, Int.not_le, ge_iff_le, gt_iff_lt, Bool.not_eq_eq_eq_not, Bool.true_or, Bool.or_true, Bool.false_or, Bool.or_false, Bool.true_and, Bool.and_true, false_or, or_false, true_and, and_true, Decidable.not_not] at hc
      exact hd.2.2 l1 hc
    · simp only [decide_eq_true_eq, decide_eq_false_iff_not, Bool.and_eq_true, Bool.and_eq_false_iff, Bool.or_eq_true, Bool.or_eq_false_iff, Bool.not_eq_true', Bool.not_eq_false', Bool.not_true, Bool.not_false, Bool.false_eq_true, Bool.true_eq_false, Int.not_lt, Int.not_le, ge_iff_le, gt_iff_lt, Bool.not_eq_eq_eq_not, Bool.true_or, Bool.or_true, Bool.false_or, Bool.or_false, Bool.true_and, Bool.and_true, false_or, or_false, true_and, and_true, Decidable.not_not] at hc
      have hd : dropOk z n := ⟨hv, hw, fun _ => hc⟩
      have hpl := pend_len' (vlazy_iff.1 hv).1
      refine Trip.mono' (c_implDropD hC hO hP hS (by omega) l2 l3 (by omega) (by omega)) ?_
      rintro _ w5 ⟨y5, I5, J5, L5, rfl, hC, hO, hP, hS⟩
      refine ⟨rfl, c, y5, ⟨Cel.load hC hS rfl, Cel.load hC hS rfl⟩, J5 ++ L5, (hS.to : St v w5 (J5 ++ (L5 ++ []))).perm (by simp), c, y5, J5, L5, by rw [dropB_iff.2 hd], ?_, ?_, rfl⟩
      · rw [dropR_t hd, dropZ, if_pos l1]; exact hO
      · rw [dropR_t hd, dropZ, if_pos l1]; exact hP
  · have hnp : ¬ 1000 ≤ n := fun hp => by
      have := word_ptr hw hp
      rw [this] at hq; cases hq
    have hd : dropOk z n := ⟨hv, hw, fun h => absurd h hnp⟩
    refine ⟨c, p, ⟨Cel.load hC hS rfl, Cel.load hC hS rfl⟩, I2 ++ J2, (hS.to : St v w4 (I2 ++ (J2 ++ []))).perm (by simp), c, p, I2, J2, by rw [dropB_iff.2 hd], ?_, ?_, rfl⟩
    · rw [dropR_t hd, dropZ, if_neg hnp]; exact hO
    · rw [dropR_t hd, dropZ, if_neg hnp]; exact hP
end
end Go.Vc
