/- Part of the proofs about the heaps and memories: a law is joined in the text whose name ends in W and the law. -/
import Derived.Test.YtlmhbeohfihbnaaEK3
import Derived.Test.YtlmhbeohfihbnaaEH2
namespace Go.Vc
open Go Go.Proofs Go.RowKit
set_option linter.all false

theorem trim_eq (h : List CellD) : trimL h = h.take (trimN h [] h.length) :=
  trimL_take (trimN_le _ _ _) (fun i h0 h1 => (trimN_free h0 h1).1) (fun hp => by have := trimN_last hp; simpa using this)
section
variable {u v w : World} {x y xf s t : Sl} {l ws fs pend : List Int} {h g : List CellD} {z z' : LazyD} {b m n k f : Int} {a : Addr} {I J K L R R1 : Items} {F F1 : Items → Items}

theorem c_implTrim (hC : Cel a [x.val] I) (hO : OwnD x h J) (hS : St u w (I ++ (J ++ R))) :
    Trip Try.prog 41 #[.pointer (some (a.add 0))] w fun r w' => ∃ x' I', r = .tuple #[] ∧ Cel a [x'.val] I' ∧ OwnD x' (trimL h) J ∧ St u w' (I' ++ (J ++ R)) := by
  have hn := hO.n
  have hl := hO.le
  refine of41 _ _ _ ?_
  unfold vc41
  refine ⟨x, Cel.load hC hS rfl, fun i w' => St u w' (I ++ (J ++ R)) ∧ 0 ≤ i ∧ i ≤ h.length ∧ ∀ j : Int, i ≤ j → j < h.length → (nth h j).count = 0, fun i _ => i.toNat, ⟨hS, by omega, by omega, fun j h1 h2 => by omega⟩, ?_⟩
  clear hS
  rintro i w' ⟨hS, h0, h1, h2⟩
  dsimp only
  refine ⟨x, fun _ => Cel.load hC hS rfl, i - 1, fun hc => wrap_i64 (by omega) (by omega), fun hc => hO.ix (by simp only [decide_eq_true_eq, decide_eq_false_iff_not, Bool.and_eq_true, Bool.and_eq_false_iff, Bool.or_eq_true, Bool.or_eq_false_iff, Bool.not_eq_true', Bool.not_eq_false', Bool.not_true, Bool.not_false, Bool.false_eq_true, Bool.true_eq_false, Int.not_lt, Int.not_le, ge_iff_le, gt_iff_lt, Bool.not_eq_eq_eq_not, Bool.true_or, Bool.or_true, Bool.false_or, Bool.or_false, Bool.true_and, Bool.and_true, false_or, or_false, true_and, and_true, Decidable.not_not] at hc; omega) (by omega), ?_⟩
  refine ld_countg (hO.src hS) (fun hc => ⟨by simp only [decide_eq_true_eq, decide_eq_false_iff_not, Bool.and_eq_true, Bool.and_eq_false_iff, Bool.or_eq_true, Bool.or_eq_false_iff, Bool.not_eq_true', Bool.not_eq_false', Bool.not_true, Bool.not_false, Bool.false_eq_true, Bool.true_eq_false, Int.not_lt, Int.not_le, ge_iff_le, gt_iff_lt, Bool.not_eq_eq_eq_not, Bool.true_or, Bool.or_true, Bool.false_or, Bool.or_false, Bool.true_and, Bool.and_true, false_or, or_false, true_and, and_true, Decidable.not_not] at hc; omega, by omega⟩) ?_
  refine ⟨fun hc => ?_, fun hc => ?_⟩
  · simp only [decide_eq_true_eq, decide_eq_false_iff_not, Bool.and_eq_true, Bool.and_eq_false_iff, Bool.or_eq_true, Bool.or_eq_false_iff, Bool.not_eq_true', Bool.not_eq_false', Bool.not_true, Bool.not_false, Bool.false_eq_true, Bool.true_eq_false, Int.not_lt, Int.not_le, ge_iff_le, gt_iff_lt, Bool.not_eq_eq_eq_not, Bool.true_or, Bool.or_true, Bool.false_or, Bool.or_false, Bool.true_and, Bool.and_true, false_or, or_false, true_and, and_true, Decidable.not_not] at hc
    refine go_wr (by omega) (by omega) ?_
    refine ⟨⟨hS, by omega, by omega, fun j j0 j1 => ?_⟩, by omega⟩
    by_cases e : j = i - 1
    · rw [e]; exact hc.2
    · exact h2 j (by omega) j1
  · simp only [decide_eq_true_eq, decide_eq_false_iff_not, Bool.and_eq_true, Bool.and_eq_false_iff, Bool.or_eq_true, Bool.or_eq_false_iff, Bool.not_eq_true', Bool.not_eq_false', Bool.not_true, Bool.not_false, Bool.false_eq_true, Bool.true_eq_false, Int.not_lt, Int.not_le, ge_iff_le, gt_iff_lt, Bool.not_eq_eq_eq_not, Bool.true_or, Bool.or_true, Bool.false_or, Bool.or_false, Bool.true_and, Bool.and_true, false_or, or_false, true_and, and_true, Decidable.not_not] at hc
    refine ⟨x, Cel.load hC hS rfl, ⟨by omega, by omega, ?_⟩, ?_⟩
    · obtain ⟨_, hr, _⟩ := OwnD.read hO hS; have := hr.2.1; omega
    · refine Cel.store hC hS (by simp) ?_
      intro w4 I4 hC hS
      simp [putR] at hC
      refine ⟨_, I4, rfl, hC, ?_, hS⟩
      rw [trimL_take (k := i.toNat) (by omega) (fun j j0 j1 => h2 j (by omega) j1) (fun hp => by rw [Int.toNat_of_nonneg h0]; rcases hc with hc | hc; omega; exact hc)]
      exact hO.cut h0 h1

theorem c_implHeapDrop (hC : Cel a [x.val] I) (hO : OwnD x h J) (hS : St u w (I ++ (J ++ R))) (hL : LZ h [] [n]) (hn : InI n) (hl : h.length ≤ 1000000000) :
    Trip Try.prog 60 #[.pointer (some (a.add 0)), .int .i64 n] w fun r w' => ∃ x' I' J', r = .tuple #[] ∧ Cel a [x'.val] I' ∧ OwnD x' (trimL (goneH h [] [n])) J' ∧ St u w' (I' ++ (J' ++ R)) := by
  refine of60 _ _ _ _ ?_
  unfold vc60
  refine St.build (α := Int) hS (by (repeat' (first | exact VsOf.nil | apply VsOf.cons | (apply VOf.int; first | assumption | (constructor <;> first | omega | (simp only [List.length_set, List.length_append, List.length_replicate, List.length_cons, List.length_nil, List.length_take, List.length_drop, List.length_map, List.length_singleton] at *; omega))) | exact VOf.bool | exact VOf.str))) rfl (by decide) ?_
  intro s w2 K hK hS hsub
  refine ⟨_, rfl, ?_⟩
  let Inv : Nat → Sl → World → Prop := fun N s w => ∃ (h' : List CellD) (t : List Int) (J K : Items), OwnD x h' J ∧ Own u s t K ∧ St u w (I ++ (J ++ (K ++ R))) ∧ h'.length = h.length ∧ LZ h' [] t ∧ (∀ X, Ends h' [] t X → Ends h [] [n] X) ∧ (∀ f ∈ t, InI f) ∧
      t.length + 4 * nlive h' = N ∧ N ≤ 5000000000
  have hnl : nlive h ≤ h.length := List.countP_le_length
  have hL0 := hL
  refine ⟨fun s w => ∃ N, Inv N s w, fun s w => leastM (fun N => Inv N s w), ⟨_, h, [n], J, K, hO, hK, hS.to, rfl, hL, fun X hX => hX, fun f hf => by rw [List.mem_singleton.1 hf]; exact hn, rfl, by simp; omega⟩, ?_⟩
  clear hK hS hO hL
  rintro s w hI
  replace hI := leastM_spec hI
  dsimp only
  generalize leastM (fun N => Inv N s w) = N at *
  obtain ⟨h', t, J, K, hO, hK, hS, hlen, hL, hE, hin, hM, hM2⟩ := hI
  have hsn := hK.n
  have hsl := hK.le
  have hon := hO.n
  refine ⟨fun hi => ?_, fun hi => ?_⟩
  · simp only [decide_eq_true_eq, decide_eq_false_iff_not, Bool.and_eq_true, Bool.and_eq_false_iff, Bool.or_eq_true, Bool.or_eq_false_iff, Bool.not_eq_true', Bool.not_eq_false', Bool.not_true, Bool.not_false, Bool.false_eq_true, Bool.true_eq_false, Int.not_lt, Int.not_le, ge_iff_le, gt_iff_lt, Bool.not_eq_eq_eq_not, Bool.true_or, Bool.or_true, Bool.false_or, Bool.or_false, Bool.true_and, Bool.and_true, false_or, or_false, true_and, and_true, Decidable.not_not] at hi
    refine ⟨x, Cel.load hC hS rfl, ?_⟩
    refine go_wr (by omega) (by omega) ?_
    refine go_oix hK (by omega) (by omega) ?_
    refine ld_int (Own.read hK hS) (by omega) (by omega) ?_
    intro b0 b1
    obtain ⟨t0, f, rfl⟩ : ∃ t0 f, t = t0 ++ [f] := by
      have hne : t ≠ [] := fun e => by rw [e] at hsn; simp at hsn; omega
      exact ⟨_, _, (List.dropLast_concat_getLast hne).symm⟩
    have hnth : nth (t0 ++ [f]) ((s.n : Int) - 1) = f := by
      refine nth_of ?_
      rw [hsn]; simp
    rw [hnth] at b0 b1 ⊢
    have hcut := hK.cut (lo := 0) (hi := (s.n : Int) - 1) (by omega) (by omega) (by omega)
    have hct : ((t0 ++ [f]).take ((s.n : Int) - 1).toNat).drop (0 : Int).toNat = t0 := by
      rw [hsn]; simp
    rw [hct] at hcut
    have hl0 : (t0 ++ [f]).length = t0.length + 1 := by simp
    have hpm : (t0 ++ [f]).Perm (f :: t0) := List.perm_append_singleton _ _
    have hL1 : LZ h' [] (f :: t0) := hL.perm hpm
    have hE1 : ∀ X, Ends h' [] (f :: t0) X → Ends h [] [n] X := fun X hX => hE X (hX.perm hpm.symm)
    have hin0 : ∀ g ∈ t0, InI g := fun g hg => hin g (List.mem_append_left _ hg)
    refine ⟨_, _, c_liveAt (OwnD.read hO hS) ⟨b0, b1⟩, ?_⟩
    refine go_wr (by omega) (by omega) ?_
    refine ⟨⟨by omega, by omega, ?_⟩, fun hq => ?_, fun hq => ?_⟩
    · obtain ⟨_, hr, _⟩ := Own.read hK hS; have := hr.2.1; omega
    · have hnf : ¬ 1000 ≤ f := fun hp => by rw [hL1.head hp] at hq; cases hq
      exact loopEnd (k := t0.length + 4 * nlive h') ⟨h', t0, J, K, hO, hcut, hS, hlen, hL1.skip hnf, fun X hX => hE1 X (Ends.skip hnf hX), hin0, rfl, by omega⟩ (by omega)
    · simp only [decide_eq_true_eq, decide_eq_false_iff_not, Bool.and_eq_true, Bool.and_eq_false_iff, Bool.or_eq_true, Bool.or_eq_false_iff, Bool.not_eq_true', Bool.not_eq_false', Bool.not_true, Bool.not_false, Bool.false_eq_true, Bool.true_eq_false, Int.not_lt, Int.not_le, ge_iff_le, gt_iff_lt, Bool.not_eq_eq_eq_not, Bool.true_or, Bool.or_true, Bool.false_or, Bool.or_false, Bool.true_and, Bool.and_true, false_or, or_false, true_and, and_true, Decidable.not_not] at hq
      have hp := (live_spec hq).1
      obtain ⟨l1, l2, l3⟩ := live_iff.1 hq
      rw [live_at hq b1]
      have hmem := nth_mem (l := h') (i := f - 1000) (by omega) l2
      have hcell := hL1.cell _ hmem
      refine ⟨x, Cel.load hC hS rfl, hO.ix (by omega) l2, ?_⟩
      refine ld_count (OwnD.src hO hS) (by omega) l2 ?_
      intro c0 c1
      refine go_wr (by omega) (by omega) ?_
      have hin1 : InI ((nth h' (f - 1000)).count - 1) := ⟨by omega, by omega⟩
      refine ⟨hO.ix (by omega) l2, ?_⟩
      refine OwnD.store hO hS (by omega) l2 (decC (nth h' (f - 1000))) [] (Nat.le_of_ble_eq_true rfl) (fun r K hr => ?_) ?_
      · obtain ⟨g, rfl, q1, q2, q3⟩ := hr
        exact ⟨K, ⟨g, rfl, hin1, q2, q3⟩, .inr ⟨rfl, rfl⟩⟩
      intro w2 I2 hO2 hS
      rw [List.append_nil] at hO2
      have hnw : nth (h'.set (f - 1000).toNat (decC (nth h' (f - 1000)))) (f - 1000) = decC (nth h' (f - 1000)) := by
        rw [nth_set _ _ _ _ (by omega) l2 (by omega), if_pos rfl]
      have hll : (h'.set (f - 1000).toNat (decC (nth h' (f - 1000)))).length = h'.length := by simp
      have hL2 := hL1.lower hp
      have hE2 : ∀ X, Ends (lowerZ ⟨h', []⟩ (f - 1000)).cells (lowerZ ⟨h', []⟩ (f - 1000)).pend t0 X → Ends h [] [n] X := fun X hX => hE1 X (Ends.lower hL1 hp hX)
      have hnlv := nlive_set (h := h') (k := f - 1000) (c := decC (nth h' (f - 1000))) (by omega) l2
      rw [if_pos l3] at hnlv
      replace hS : St u w2 (I2 ++ (I ++ (K ++ R))) := hS.to
      refine ⟨x, Cel.load hC hS rfl, hO2.ix (by omega) (by omega), ?_⟩
      refine ld_count (OwnD.src hO2 hS) (by omega) (by omega) ?_
      rw [hnw]
      intro _ _
      refine ⟨fun hz => ?_, fun hz => ?_⟩
      · simp only [decide_eq_true_eq, decide_eq_false_iff_not, Bool.and_eq_true, Bool.and_eq_false_iff, Bool.or_eq_true, Bool.or_eq_false_iff, Bool.not_eq_true', Bool.not_eq_false', Bool.not_true, Bool.not_false, Bool.false_eq_true, Bool.true_eq_false, Int.not_lt, Int.not_le, ge_iff_le, gt_iff_lt, Bool.not_eq_eq_eq_not, Bool.true_or, Bool.or_true, Bool.false_or, Bool.or_false, Bool.true_and, Bool.and_true, false_or, or_false, true_and, and_true, Decidable.not_not] at hz
        have hz' : (nth h' (f - 1000)).count - 1 = 0 := hz
        unfold lowerZ at hL2 hE2
        simp only [if_pos hz', List.nil_append] at hL2 hE2
        refine ⟨x, Cel.load hC hS rfl, hO2.ix (by omega) (by omega), ?_⟩
        refine ld_fields (OwnD.src hO2 hS) (by omega) (by omega) ?_
        rw [hnw]
        intro g hg
        replace hg : ReadB BB w2 g (nth h' (f - 1000)).fields := hg
        refine Own.append hcut hS (Src.ofInts hg) (by omega) (by decide) ?_
        intro x5 w5 I5 hO5 hS
        refine ⟨_, rfl, x, Cel.load hC hS rfl, hO2.ix (by omega) (by omega), ?_⟩
        have hL3 := hL2.popT
        have hE3 : ∀ X, Ends ((h'.set (f - 1000).toNat (decC (nth h' (f - 1000)))).set (f - 1000).toNat free0) [] ((nth (h'.set (f - 1000).toNat (decC (nth h' (f - 1000)))) (f - 1000)).fields ++ t0) X → Ends h [] [n] X := fun X hX => hE2 X (Ends.pop hL2 hX)
        rw [hnw] at hL3 hE3
        have hnl2 := nlive_set (h := h'.set (f - 1000).toNat (decC (nth h' (f - 1000)))) (k := f - 1000) (c := free0) (by omega) (by omega)
        rw [hnw] at hnl2
        have n1 : ¬ 0 < (decC (nth h' (f - 1000))).count := by show ¬ 0 < (nth h' (f - 1000)).count - 1; omega
        rw [if_neg n1] at hnl2 hnlv
        rw [if_neg (by simp)] at hnl2
        refine OwnD.store hO2 hS (by omega) (by omega) free0 [] (Nat.le_refl 3) (fun r K hr => ?_) ?_
        · obtain ⟨g, rfl, q1, q2, q3⟩ := hr
          exact ⟨[], ⟨⟨none, 0, 0⟩, rfl, zero_in, zero_in, fun u => Own.nil u⟩, .inl rfl⟩
        intro w7 I7 hO7 hS
        rw [List.append_nil] at hO7
        refine loopEnd (k := (t0 ++ (nth h' (f - 1000)).fields).length + 4 * nlive ((h'.set (f - 1000).toNat (decC (nth h' (f - 1000)))).set (f - 1000).toNat free0)) ⟨_, _, _, _, hO7, hO5, hS.to, by simp; exact hlen, hL3.perm List.perm_append_comm, fun X hX => hE3 X (hX.perm List.perm_append_comm), ?_, rfl, ?_⟩ ?_
        · intro g hg
          rcases List.mem_append.1 hg with hg | hg
          · exact hin0 g hg
          · rcases word_iff.1 (hL1.ptr _ hmem g hg) with h1 | h1
            · exact ⟨by omega, by omega⟩
            · have := live_iff.1 h1; exact ⟨by omega, by omega⟩
        · rw [List.length_append]; omega
        · rw [List.length_append]; omega
      · simp only [decide_eq_true_eq, decide_eq_false_iff_not, Bool.and_eq_true, Bool.and_eq_false_iff, Bool.or_eq_true, Bool.or_eq_false_iff, Bool.not_eq_true', Bool.not_eq_false', Bool.not_true, Bool.not_false, Bool.false_eq_true, Bool.true_eq_false, Int.not_lt, Int.not_le, ge_iff_le, gt_iff_lt, Bool.not_eq_eq_eq_not, Bool.true_or, Bool.or_true, Bool.false_or, Bool.or_false, Bool.true_and, Bool.and_true, false_or, or_false, true_and, and_true, Decidable.not_not] at hz
        have hz' : ¬ (nth h' (f - 1000)).count - 1 = 0 := hz
        unfold lowerZ at hL2 hE2
        simp only [if_neg hz'] at hL2 hE2
        have n1 : 0 < (decC (nth h' (f - 1000))).count := by show 0 < (nth h' (f - 1000)).count - 1; omega
        rw [if_pos n1] at hnlv
        exact loopEnd (k := t0.length + 4 * nlive (h'.set (f - 1000).toNat (decC (nth h' (f - 1000))))) ⟨_, _, _, _, hO2, hcut, hS.to, by omega, hL2, hE2, hin0, rfl, by omega⟩ (by omega)
  · simp only [decide_eq_true_eq, decide_eq_false_iff_not, Bool.and_eq_true, Bool.and_eq_false_iff, Bool.or_eq_true, Bool.or_eq_false_iff, Bool.not_eq_true', Bool.not_eq_false', Bool.not_true, Bool.not_false, Bool.false_eq_true, Bool.true_eq_false, Int.not_lt, Int.not_le, ge_iff_le, gt_iff_lt, Bool.not_eq_eq_eq_not, Bool.true_or, Bool.or_true, Bool.false_or, Bool.or_false, Bool.true_and, Bool.and_true, false_or, or_false, true_and, and_true, Decidable.not_not] at hi
    have ht : t = [] := List.eq_nil_of_length_eq_zero (by omega)
    subst ht
    have e : h' = goneH h [] [n] := Ends.eq hL0 (hE h' (Ends.nil_ h'))
    rw [e] at hO
    refine Trip.mono' (c_implTrim hC hO (R := K ++ R) hS) ?_
    rintro _ w3 ⟨z, I3, rfl, hC3, hO3, hS⟩
    exact ⟨rfl, z, I3, J, rfl, hC3, hO3, hS.to⟩

def dwOk (h : List CellD) (n : Int) : Prop := vheap h ∧ word h n = true ∧ (1000 ≤ n → (nth h (n - 1000)).count ≠ nth (refL h) (n - 1000))
def dwR (h : List CellD) (n : Int) : List CellD := if 1000 ≤ n then trimL (goneH h [] [n]) else h

/-- heaps without kept cells -/
theorem vheap_lz (hd : vheap h) (hc : ∀ c ∈ h, 0 ≤ c.count) : vlazy ⟨h, []⟩ := ⟨⟨fun p hp => (by cases hp), List.nodup_nil, hc⟩, hd, fun p hp => (by cases hp)⟩
theorem lz_vheap (hz : vlazy ⟨h, []⟩) : vheap h := hz.2.1
theorem dw_lz (hd : dwOk h n) (hc : ∀ c ∈ h, 0 ≤ c.count) (hp : 1000 ≤ n) : LZ h [] [n] :=
  drop_lz (z := ⟨h, []⟩) ⟨vheap_lz hd.1 hc, hd.2.1, hd.2.2⟩ hp

theorem c_implDropWord (hx : Read v x h) (hn : InI n) (hd : dwOk h n) (hc : ∀ c ∈ h, 0 ≤ c.count) (hl : h.length ≤ 1000000000) :
    Mk Try.prog 25 #[x.val, .int .i64 n] v fun r J => ∃ x' : Sl, r = .tuple #[x'.val, .bool true] ∧ OwnD x' (dwR h n) J := by
  refine of25 _ _ _ _ ?_
  unfold vc25
  refine Mk.use (c_checkedHeap hx) (.refl v) ?_
  rintro _ w1 J1 ⟨y, rfl, hY⟩ hS hsub
  have hv := vheapB_iff.2 hd.1
  replace hY := hY hv
  rw [hv]
  have hrl := length_refs h
  refine ⟨_, _, rfl, _, fun _ => c_wordValid (hx.mono hS.sub) hn, fun h0 => ?_, fun _ => ?_⟩
  · rw [hd.2.1] at h0; cases h0
  refine Mk.use (c_cloneHeapD hx) hS ?_
  rintro _ w2 J2 ⟨s, rfl, hO⟩ hS hsub2
  refine ⟨_, rfl, ?_⟩
  refine St.box (vals := [.slice none 0 0]) hS fun a w3 I3 hC hS hs => ?_
  refine Cel.store hC hS (by simp) ?_
  intro w4 I4 hC hS
  simp [putR] at hC
  refine ⟨_, _, c_liveAt (hx.mono hS.sub) hn, fun hq => ?_, fun hq => ?_⟩
  · obtain ⟨l1, l2, l3⟩ := live_iff.1 hq
    rw [live_at hq hn.2]
    refine go_ix hx (by omega) l2 ?_
    refine ld_count (hx.src hS.sub) (by omega) l2 ?_
    intro c0 c1
    refine go_oix hY (by omega) (by omega) ?_
    refine ld_int (Own.read hY hS) (by omega) (by omega) ?_
    intro b0 b1
    refine ⟨fun he => ?_, fun _ => ?_⟩
    · simp only [decide_eq_true_eq, decide_eq_false_iff_not, Bool.and_eq_true, Bool.and_eq_false_iff, Bool.or_eq_true, Bool.or_eq_false_iff, Bool.not_eq_true', Bool.not_eq_false', Bool.not_true, Bool.not_false, Bool.false_eq_true, Bool.true_eq_false, Int.not_lt, Int.not_le, ge_iff_le, gt_iff_lt, Bool.not_eq_eq_eq_not, Bool.true_or, Bool.or_true, Bool.false_or, Bool.or_false, Bool.true_and, Bool.and_true, false_or, or_false, true_and, and_true, Decidable.not_not] at he
      exact absurd he (hd.2.2 l1)
    refine Trip.mono' (c_implHeapDrop (R := J1) hC hO (by simpa using hS) (dw_lz hd hc l1) hn hl) ?_
    rintro _ w5 ⟨x5, I5, J5, rfl, hC, hO, hS⟩
    exact ⟨rfl, x5, Cel.load hC hS rfl, J5, (hS.to : St v w5 (J5 ++ [])).left, x5, rfl, by unfold dwR; rw [if_pos l1]; exact hO⟩
  · have hnp : ¬ 1000 ≤ n := fun hp => by rw [word_ptr hd.2.1 hp] at hq; cases hq
    exact ⟨s, Cel.load hC hS rfl, J2, (hS.to : St v w4 (J2 ++ [])).left, s, rfl, by unfold dwR; rw [if_neg hnp]; exact hO⟩

end
end Go.Vc

namespace Go.Vc
open Go Go.Proofs Go.RowKit
set_option linter.all false
section
variable {u v w : World} {x y xf s t : Sl} {l ws fs pend : List Int} {h g : List CellD} {z z' : LazyD} {b m n k f : Int} {a : Addr} {I J K L R R1 : Items} {F F1 : Items → Items}

theorem goneH_trim (L : LZ z.cells z.pend l) : trimL (goneH (trimZ z).cells z.pend l) = trimL (goneH z.cells z.pend l) ∧ LZ (trimZ z).cells z.pend l ∧ ∃ q, goneH z.cells z.pend l = goneH (trimZ z).cells z.pend l ++ List.replicate q free0 := by
  have E := trim_ext (z := z) (LZ.sub (t1 := []) (t2 := l) L)
  have L2 : LZ (trimZ z).cells z.pend l := E.lzT (z := trimZ z) L
  obtain ⟨q, hq⟩ := E.cells
  have h1 := (goneH_ends L2).ext (fun p hp => E.pin p hp) q
  rw [← hq] at h1
  have h2 := Ends.eq L h1
  refine ⟨?_, L2, q, h2.symm⟩
  rw [← h2]
  unfold trimL
  rw [List.reverse_append, List.dropWhile_append_of_pos (fun c hc => by
    rw [List.eq_of_mem_replicate (List.mem_reverse.1 hc)]; rfl)]

theorem trim_keeps {h : List CellD} {k : Int} (k0 : 0 ≤ k) (k1 : k < h.length) (hc : (nth h k).count ≠ 0) : k < (trimL h).length ∧ nth (trimL h) k = nth h k := by
  have hle := trimN_le h [] h.length
  have hlt : k < trimN h [] h.length := by
    rcases Int.lt_or_le k (trimN h [] h.length) with h1 | h1
    · exact h1
    · exact absurd (trimN_free h1 k1).1 hc
  rw [trim_eq]
  refine ⟨by simp; omega, ?_⟩
  unfold nth List.getD
  rw [List.getElem?_take, if_pos (by omega)]

end
end Go.Vc
