/- Part of the proofs about the heaps and memories: a law is joined in the text whose name ends in W and the law. -/
import Derived.Test.YtmjainglhgefoaaEK3
import Derived.Test.YtmjainglhgefoaaEH2
namespace Go.Vc
open Go Go.Proofs Go.RowKit
set_option linter.all false

theorem trim_eq (h : List CellD) : trimL h = h.take (trimN h [] h.length) :=
  trimL_take (trimN_le _ _ _) (fun i h0 h1 => (trimN_free h0 h1).1) (fun hp => by have := trimN_last hp; simpa using this)
theorem shR_gone {z : LazyD} (hd : vlazy z) : shR z = trimL (goneH z.cells z.pend []) := by
  have L := (vlazy_iff.1 hd).1
  obtain ⟨k1, k2, k3⟩ := LZ.settleNT z.cells.length L
  have hp : (settleN z.cells.length z).pend = [] := List.eq_nil_of_length_eq_zero (by have := nf_le L; omega)
  rw [shR_t hd, ← settleN_end L (nf_le L), trim_eq]
  unfold settleL trimZ
  rw [hp]

section
variable {u v w : World} {x y xf s t : Sl} {l ws fs pend : List Int} {h g : List CellD} {z z' : LazyD} {b m n k f : Int} {a : Addr} {I J K L R R1 : Items} {F F1 : Items → Items}

theorem c_implTrim (hC : Cel a [x.val] I) (hO : OwnD x h J) (hS : St u w (I ++ (J ++ R))) :
    Trip Try.prog 98 #[.pointer (some (a.add 0))] w fun r w' => ∃ x' I', r = .tuple #[] ∧ Cel a [x'.val] I' ∧ OwnD x' (trimL h) J ∧ St u w' (I' ++ (J ++ R)) := by
  have hn := hO.n
  have hl := hO.le
  refine of98 _ _ _ ?_
  unfold vc98
  refine ⟨x, Cel.load hC hS rfl, fun i w' => St u w' (I ++ (J ++ R)) ∧ 0 ≤ i ∧ i ≤ h.length ∧ ∀ j : Int, i ≤ j → j < h.length → (nth h j).count = 0, fun i _ => i.toNat, ⟨hS, by omega, by omega, fun j h1 h2 => by omega⟩, ?_⟩
  clear hS
  rintro i w' ⟨hS, h0, h1, h2⟩
  dsimp only
  refine ⟨x, fun _ => Cel.load hC hS rfl, i - 1, fun hc => wrap_i64 (by omega) (by omega), fun hc => hO.ix (by simp only [decide_eq_true_eq, decide_eq_false_iff_not, Bool.and_eq_true, Bool.and_eq_false_iff, Bool.or_eq_true, Bool.or_eq_false_iff, Bool.not_eq_true', Bool.not_eq_false', Bool.not_true, Bool.not_false, Bool.false_eq_true, Bool.true_eq_false, Int.not_lt, Int.not_le, ge_iff_le, gt_iff_lt, Bool.not_eq_eq_eq_not, Bool.true_or, Bool.or_true, Bool.false_or, Bool.or_false, Bool.true_and, Bool.and_true, false_or, or_false, true_and, and_true, Decidable.not_not] at hc; omega) (by omega), ?_⟩
  refine ld_countg (hO.src hS) (fun hc => ⟨by simp only [decide_eq_true_eq, decide_eq_false_iff_not, Bool.and_eq_true, Bool.and_eq_false_iff, Bool.or_eq_true, Bool.or_eq_false_iff, Bool.not_eq_true', Bool.not_eq_false', Bool.not_true, Bool.not_false, Bool.false_eq_true, Bool.true_eq_false, Int.not_lt, Int.not_le, ge_iff_le, gt_iff_lt, Bool.not_eq_eq_eq_not, Bool.true_or, Bool.or_true, Bool.false_or, Bool.or_false, Bool.true_and, Bool.and_true, false_or, or_false, true_and, and_true, Decidable.not_not] at hc; omega, by omega⟩) ?_
  refine ⟨fun hc => ?_, fun hc => ?_⟩
  · simp only [decide_eq_true_eq, decide_eq_false_iff_not, Bool.and_eq_true, Bool.and_eq_false_iff, Bool.or_eq_true, Bool.or_eq_false_iff, Bool.not_eq_true', Bool.not_eq_false', Bool.not_true, Bool.not_false, Bool.false_eq_true, Bool.true_eq_false, Int.not_lt, Int.not_le, ge_iff_le, gt_iff_lt, Bool.not_eq_eq_eq_not, Bool.true_or, Bool.or_true, Bool.false_or, Bool.or_false, Bool.true_and, Bool.and_true, false_or, or_false, true_and, and_true, Decidable.not_not] at hc
    refine go_wr (by omega) (by omega) ?_
    refine ⟨⟨hS, by omega, by omega, fun j j0 j1 => ?_⟩, by omega⟩
    by_cases e : j = i - 1
    · rw [e]; exact hc.2
    · exact h2 j (by omega) j1
  · simp only [decide_eq_true_eq, decide_eq_false_iff_not, Bool.and_eq_true, Bool.and_eq_false_iff, Bool.or_eq_true, Bool.or_eq_false_iff, Bool.not_eq_true', Bool.not_eq_false', Bool.not_true, Bool.not_false, Bool.false_eq_true, Bool.true_eq_false, Int.not_lt, Int.not_le, ge_iff_le, gt_iff_lt, Bool.not_eq_eq_eq_not, Bool.true_or, Bool.or_true, Bool.false_or, Bool.or_false, Bool.true_and, Bool.and_true, false_or, or_false, true_and, and_true, Decidable.not_not] at hc
    refine ⟨x, Cel.load hC hS rfl, ⟨by omega, by omega, ?_⟩, ?_⟩
    · obtain ⟨_, hr, _⟩ := OwnD.read hO hS; have := hr.2.1; omega
    · refine Cel.store hC hS (by simp) ?_
      intro w4 I4 hC hS
      simp [putR] at hC
      refine ⟨_, I4, rfl, hC, ?_, hS⟩
      rw [trimL_take (k := i.toNat) (by omega) (fun j j0 j1 => h2 j (by omega) j1) (fun hp => by rw [Int.toNat_of_nonneg h0]; rcases hc with hc | hc; omega; exact hc)]
      exact hO.cut h0 h1

theorem c_implHeapDrop (hC : Cel a [x.val] I) (hO : OwnD x h J) (hS : St u w (I ++ (J ++ R))) (hL : LZ h [] [n]) (hn : InI n) (hl : h.length ≤ 1000000000) :
    Trip Try.prog 84 #[.pointer (some (a.add 0)), .int .i64 n] w fun r w' => ∃ x' I' J', r = .tuple #[] ∧ Cel a [x'.val] I' ∧ OwnD x' (trimL (goneH h [] [n])) J' ∧ St u w' (I' ++ (J' ++ R)) := by
  refine of84 _ _ _ _ ?_
  unfold vc84
  refine St.build (α := Int) hS (by (repeat' (first | exact VsOf.nil | apply VsOf.cons | (apply VOf.int; first | assumption | (constructor <;> first | omega | (simp only [List.length_set, List.length_append, List.length_replicate, List.length_cons, List.length_nil, List.length_take, List.length_drop, List.length_map, List.length_singleton] at *; omega))) | exact VOf.bool | exact VOf.str))) rfl (by decide) ?_
  intro s w2 K hK hS hsub
  refine ⟨_, rfl, ?_⟩
  let Inv : Nat → Sl → World → Prop := fun N s w => ∃ (h' : List CellD) (t : List Int) (J K : Items), OwnD x h' J ∧ Own u s t K ∧ St u w (I ++ (J ++ (K ++ R))) ∧ h'.length = h.length ∧ LZ h' [] t ∧ (∀ X, Ends h' [] t X → Ends h [] [n] X) ∧ (∀ f ∈ t, InI f) ∧
      t.length + 4 * nlive h' = N ∧ N ≤ 5000000000
  have hnl : nlive h ≤ h.length := List.countP_le_length
  have hL0 := hL
  refine ⟨fun s w => ∃ N, Inv N s w, fun s w => leastM (fun N => Inv N s w), ⟨_, h, [n], J, K, hO, hK, hS.to, rfl, hL, fun X hX => hX, fun f hf => by rw [List.mem_singleton.1 hf]; exact hn, rfl, by simp; omega⟩, ?_⟩
  clear hK hS hO hL
  rintro s w hI
  replace hI := leastM_spec hI
  dsimp only
  generalize leastM (fun N => Inv N s w) = N at *
  obtain ⟨h', t, J, K, hO, hK, hS, hlen, hL, hE, hin, hM, hM2⟩ := hI
  have hsn := hK.n
  have hsl := hK.le
  have hon := hO.n
  refine ⟨fun hi => ?_, fun hi => ?_⟩
  · simp only [decide_eq_true_eq, decide_eq_false_iff_not, Bool.and_eq_true, Bool.and_eq_false_iff, Bool.or_eq_true, Bool.or_eq_false_iff, Bool.not_eq_true', Bool.not_eq_false', Bool.not_true, Bool.not_false, Bool.false_eq_true, Bool.true_eq_false, Int.not_lt, Int.not_le, ge_iff_le, gt_iff_lt, Bool.not_eq_eq_eq_not, Bool.true_or, Bool.or_true, Bool.false_or, Bool.or_false, Bool.true_and, Bool.and_true, false_or, or_false, true_and, and_true, Decidable.not_not] at hi
    refine ⟨x, Cel.load hC hS rfl, ?_⟩
    refine go_wr (by omega) (by omega) ?_
    refine go_oix hK (by omega) (by omega) ?_
    refine ld_int (Own.read hK hS) (by omega) (by omega) ?_
    intro b0 b1
    obtain ⟨t0, f, rfl⟩ : ∃ t0 f, t = t0 ++ [f] := by
      have hne : t ≠ [] := fun e => by rw [e] at hsn; simp at hsn; omega
      exact ⟨_, _, (List.dropLast_concat_getLast hne).symm⟩
    have hnth : nth (t0 ++ [f]) ((s.n : Int) - 1) = f := by
      refine nth_of ?_
      rw [hsn]; simp
    rw [hnth] at b0 b1 ⊢
    have hcut := hK.cut (lo := 0) (hi := (s.n : Int) - 1) (by omega) (by omega) (by omega)
    have hct : ((t0 ++ [f]).take ((s.n : Int) - 1).toNat).drop (0 : Int).toNat = t0 := by
      rw [hsn]; simp
    rw [hct] at hcut
    have hl0 : (t0 ++ [f]).length = t0.length + 1 := by simp
    have hpm : (t0 ++ [f]).Perm (f :: t0) := List.perm_append_singleton _ _
    have hL1 : LZ h' [] (f :: t0) := hL.perm hpm
    have hE1 : ∀ X, Ends h' [] (f :: t0) X → Ends h [] [n] X := fun X hX => hE X (hX.perm hpm.symm)
    have hin0 : ∀ g ∈ t0, InI g := fun g hg => hin g (List.mem_append_left _ hg)
    refine ⟨_, _, c_liveAt (OwnD.read hO hS) ⟨b0, b1⟩, ?_⟩
    refine go_wr (by omega) (by omega) ?_
    refine ⟨⟨by omega, by omega, ?_⟩, fun hq => ?_, fun hq => ?_⟩
    · obtain ⟨_, hr, _⟩ := Own.read hK hS; have := hr.2.1; omega
    · have hnf : ¬ 1000 ≤ f := fun hp => by rw [hL1.head hp] at hq; cases hq
      exact loopEnd (k := t0.length + 4 * nlive h') ⟨h', t0, J, K, hO, hcut, hS, hlen, hL1.skip hnf, fun X hX => hE1 X (Ends.skip hnf hX), hin0, rfl, by omega⟩ (by omega)
    · simp only [decide_eq_true_eq, decide_eq_false_iff_not, Bool.and_eq_true, Bool.and_eq_false_iff, Bool.or_eq_true, Bool.or_eq_false_iff, Bool.not_eq_true', Bool.not_eq_false', Bool.not_true, Bool.not_false, Bool.false_eq_true, Bool.true_eq_false, Int.not_lt, Int.not_le, ge_iff_le, gt_iff_lt, Bool.not_eq_eq_eq_not, Bool.true_or, Bool.or_true, Bool.false_or, Bool.or_false, Bool.true_and, Bool.and_true, false_or, or_false, true_and, and_true, Decidable.not_not] at hq
      have hp := (live_spec hq).1
      obtain ⟨l1, l2, l3⟩ := live_iff.1 hq
      rw [live_at hq b1]
      have hmem := nth_mem (l := h') (i := f - 1000) (by omega) l2
      have hcell := hL1.cell _ hmem
      refine ⟨x, Cel.load hC hS rfl, hO.ix (by omega) l2, ?_⟩
      refine ld_count (OwnD.src hO hS) (by omega) l2 ?_
      intro c0 c1
      refine go_wr (by omega) (by omega) ?_
      have hin1 : InI ((nth h' (f - 1000)).count - 1) := ⟨by omega, by omega⟩
      refine ⟨hO.ix (by omega) l2, ?_⟩
      refine OwnD.store hO hS (by omega) l2 (decC (nth h' (f - 1000))) [] (Nat.le_of_ble_eq_true rfl) (fun r K hr => ?_) ?_
      · obtain ⟨g, rfl, q1, q2, q3⟩ := hr
        exact ⟨K, ⟨g, rfl, hin1, q2, q3⟩, .inr ⟨rfl, rfl⟩⟩
      intro w2 I2 hO2 hS
      rw [List.append_nil] at hO2
      have hnw : nth (h'.set (f - 1000).toNat (decC (nth h' (f - 1000)))) (f - 1000) = decC (nth h' (f - 1000)) := by
        rw [nth_set _ _ _ _ (by omega) l2 (by omega), if_pos rfl]
      have hll : (h'.set (f - 1000).toNat (decC (nth h' (f - 1000)))).length = h'.length := by simp
      have hL2 := hL1.lower hp
      have hE2 : ∀ X, Ends (lowerZ ⟨h', []⟩ (f - 1000)).cells (lowerZ ⟨h', []⟩ (f - 1000)).pend t0 X → Ends h [] [n] X := fun X hX => hE1 X (Ends.lower hL1 hp hX)
      have hnlv := nlive_set (h := h') (k := f - 1000) (c := decC (nth h' (f - 1000))) (by omega) l2
      rw [if_pos l3] at hnlv
      replace hS : St u w2 (I2 ++ (I ++ (K ++ R))) := hS.to
      refine ⟨x, Cel.load hC hS rfl, hO2.ix (by omega) (by omega), ?_⟩
      refine ld_count (OwnD.src hO2 hS) (by omega) (by omega) ?_
      rw [hnw]
      intro _ _
      refine ⟨fun hz => ?_, fun hz => ?_⟩
      · simp only [decide_eq_true_eq, decide_eq_false_iff_not, Bool.and_eq_true, Bool.and_eq_false_iff, Bool.or_eq_true, Bool.or_eq_false_iff, Bool.not_eq_true', Bool.not_eq_false', Bool.not_true, Bool.not_false, Bool.false_eq_true, Bool.true_eq_false, Int.not_lt, Int.not_le, ge_iff_le, gt_iff_lt, Bool.not_eq_eq_eq_not, Bool.true_or, Bool.or_true, Bool.false_or, Bool.or_false, Bool.true_and, Bool.and_true, false_or, or_false, true_and, and_true, Decidable.not_not] at hz
        have hz' : (nth h' (f - 1000)).count - 1 = 0 := hz
        unfold lowerZ at hL2 hE2
        simp only [if_pos hz', List.nil_append] at hL2 hE2
        refine ⟨x, Cel.load hC hS rfl, hO2.ix (by omega) (by omega), ?_⟩
        refine ld_fields (OwnD.src hO2 hS) (by omega) (by omega) ?_
        rw [hnw]
        intro g hg
        replace hg : ReadB BB w2 g (nth h' (f - 1000)).fields := hg
        refine Own.append hcut hS (Src.ofInts hg) (by omega) (by decide) ?_
        intro x5 w5 I5 hO5 hS
        refine ⟨_, rfl, x, Cel.load hC hS rfl, hO2.ix (by omega) (by omega), ?_⟩
        have hL3 := hL2.popT
        have hE3 : ∀ X, Ends ((h'.set (f - 1000).toNat (decC (nth h' (f - 1000)))).set (f - 1000).toNat free0) [] ((nth (h'.set (f - 1000).toNat (decC (nth h' (f - 1000)))) (f - 1000)).fields ++ t0) X → Ends h [] [n] X := fun X hX => hE2 X (Ends.pop hL2 hX)
        rw [hnw] at hL3 hE3
        have hnl2 := nlive_set (h := h'.set (f - 1000).toNat (decC (nth h' (f - 1000)))) (k := f - 1000) (c := free0) (by omega) (by omega)
        rw [hnw] at hnl2
        have n1 : ¬ 0 < (decC (nth h' (f - 1000))).count := by show ¬ 0 < (nth h' (f - 1000)).count - 1; omega
        rw [if_neg n1] at hnl2 hnlv
        rw [if_neg (by simp)] at hnl2
        refine OwnD.store hO2 hS (by omega) (by omega) free0 [] (Nat.le_refl 3) (fun r K hr => ?_) ?_
        · obtain ⟨g, rfl, q1, q2, q3⟩ := hr
          exact ⟨[], ⟨⟨none, 0, 0⟩, rfl, zero_in, zero_in, fun u => Own.nil u⟩, .inl rfl⟩
        intro w7 I7 hO7 hS
        rw [List.append_nil] at hO7
        refine loopEnd (k := (t0 ++ (nth h' (f - 1000)).fields).length + 4 * nlive ((h'.set (f - 1000).toNat (decC (nth h' (f - 1000)))).set (f - 1000).toNat free0)) ⟨_, _, _, _, hO7, hO5, hS.to, by simp; exact hlen, hL3.perm List.perm_append_comm, fun X hX => hE3 X (hX.perm List.perm_append_comm), ?_, rfl, ?_⟩ ?_
        · intro g hg
          rcases List.mem_append.1 hg with hg | hg
          · exact hin0 g hg
          · rcases word_iff.1 (hL1.ptr _ hmem g hg) with h1 | h1
            · exact ⟨by omega, by omega⟩
            · have := live_iff.1 h1; exact ⟨by omega, by omega⟩
        · rw [List.length_append]; omega
        · rw [List.length_append]; omega
      · simp only [decide_eq_true_eq, decide_eq_false_iff_not, Bool.and_eq_true, Bool.and_eq_false_iff, Bool.or_eq_true, Bool.or_eq_false_iff, Bool.not_eq_true', Bool.not_eq_false', Bool.not_true, Bool.not_false, Bool.false_eq_true, Bool.true_eq_false, Int.not_lt, Int.not_le, ge_iff_le, gt_iff_lt, Bool.not_eq_eq_eq_not, Bool.true_or, Bool.or_true, Bool.false_or, Bool.or_false, Bool.true_and, Bool.and_true, false_or, or_false, true_and, and_true, Decidable.not_not] at hz
        have hz' : ¬ (nth h' (f - 1000)).count - 1 = 0 := hz
        unfold lowerZ at hL2 hE2
        simp only [if_neg hz'] at hL2 hE2
        have n1 : 0 < (decC (nth h' (f - 1000))).count := by show 0 < (nth h' (f - 1000)).count - 1; omega
        rw [if_pos n1] at hnlv
        exact loopEnd (k := t0.length + 4 * nlive (h'.set (f - 1000).toNat (decC (nth h' (f - 1000))))) ⟨_, _, _, _, hO2, hcut, hS.to, by omega, hL2, hE2, hin0, rfl, by omega⟩ (by omega)
  · simp only [decide_eq_true_eq, decide_eq_false_iff_not, Bool.and_eq_true, Bool.and_eq_false_iff, Bool.or_eq_true, Bool.or_eq_false_iff, Bool.not_eq_true', Bool.not_eq_false', Bool.not_true, Bool.not_false, Bool.false_eq_true, Bool.true_eq_false, Int.not_lt, Int.not_le, ge_iff_le, gt_iff_lt, Bool.not_eq_eq_eq_not, Bool.true_or, Bool.or_true, Bool.false_or, Bool.or_false, Bool.true_and, Bool.and_true, false_or, or_false, true_and, and_true, Decidable.not_not] at hi
    have ht : t = [] := List.eq_nil_of_length_eq_zero (by omega)
    subst ht
    have e : h' = goneH h [] [n] := Ends.eq hL0 (hE h' (Ends.nil_ h'))
    rw [e] at hO
    refine Trip.mono' (c_implTrim hC hO (R := K ++ R) hS) ?_
    rintro _ w3 ⟨z, I3, rfl, hC3, hO3, hS⟩
    exact ⟨rfl, z, I3, J, rfl, hC3, hO3, hS.to⟩

def dwOk (h : List CellD) (n : Int) : Prop := vheap h ∧ word h n = true ∧ (1000 ≤ n → (nth h (n - 1000)).count ≠ nth (refL h) (n - 1000))
def dwR (h : List CellD) (n : Int) : List CellD := if 1000 ≤ n then trimL (goneH h [] [n]) else h

/-- heaps without kept cells -/
theorem vheap_lz (hd : vheap h) (hc : ∀ c ∈ h, 0 ≤ c.count) : vlazy ⟨h, []⟩ := ⟨⟨fun p hp => (by cases hp), List.nodup_nil, hc⟩, hd, fun p hp => (by cases hp)⟩
theorem lz_vheap (hz : vlazy ⟨h, []⟩) : vheap h := hz.2.1
theorem dw_lz (hd : dwOk h n) (hc : ∀ c ∈ h, 0 ≤ c.count) (hp : 1000 ≤ n) : LZ h [] [n] :=
  drop_lz (z := ⟨h, []⟩) ⟨vheap_lz hd.1 hc, hd.2.1, hd.2.2⟩ hp

theorem c_implDropWord (hx : Read v x h) (hn : InI n) (hd : dwOk h n) (hc : ∀ c ∈ h, 0 ≤ c.count) (hl : h.length ≤ 1000000000) :
    Mk Try.prog 23 #[x.val, .int .i64 n] v fun r J => ∃ x' : Sl, r = .tuple #[x'.val, .bool true] ∧ OwnD x' (dwR h n) J := by
  refine of23 _ _ _ _ ?_
  unfold vc23
  refine Mk.use (c_checkedHeap hx) (.refl v) ?_
  rintro _ w1 J1 ⟨y, rfl, hY⟩ hS hsub
  have hv := vheapB_iff.2 hd.1
  replace hY := hY hv
  rw [hv]
  have hrl := length_refs h
  refine ⟨_, _, rfl, _, fun _ => c_wordValid (hx.mono hS.sub) hn, fun h0 => ?_, fun _ => ?_⟩
  · rw [hd.2.1] at h0; cases h0
  refine Mk.use (c_cloneHeapD hx) hS ?_
  rintro _ w2 J2 ⟨s, rfl, hO⟩ hS hsub2
  refine ⟨_, rfl, ?_⟩
  refine St.box (vals := [.slice none 0 0]) hS fun a w3 I3 hC hS hs => ?_
  refine Cel.store hC hS (by simp) ?_
  intro w4 I4 hC hS
  simp [putR] at hC
  refine ⟨_, _, c_liveAt (hx.mono hS.sub) hn, fun hq => ?_, fun hq => ?_⟩
  · obtain ⟨l1, l2, l3⟩ := live_iff.1 hq
    rw [live_at hq hn.2]
    refine go_ix hx (by omega) l2 ?_
    refine ld_count (hx.src hS.sub) (by omega) l2 ?_
    intro c0 c1
    refine go_oix hY (by omega) (by omega) ?_
    refine ld_int (Own.read hY hS) (by omega) (by omega) ?_
    intro b0 b1
    refine ⟨fun he => ?_, fun _ => ?_⟩
    · simp only [decide_eq_true_eq, decide_eq_false_iff_not, Bool.and_eq_true, Bool.and_eq_false_iff, Bool.or_eq_true, Bool.or_eq_false_iff, Bool.not_eq_true', Bool.not_eq_false', Bool.not_true, Bool.not_false, Bool.false_eq_true, Bool.true_eq_false, Int.not_lt, Int.not_le, ge_iff_le, gt_iff_lt, Bool.not_eq_eq_eq_not, Bool.true_or, Bool.or_true, Bool.false_or, Bool.or_false, Bool.true_and, Bool.and_true, false_or, or_false, true_and, and_true, Decidable.not_not] at he
      exact absurd he (hd.2.2 l1)
    refine Trip.mono' (c_implHeapDrop (R := J1) hC hO (by simpa using hS) (dw_lz hd hc l1) hn hl) ?_
    rintro _ w5 ⟨x5, I5, J5, rfl, hC, hO, hS⟩
    exact ⟨rfl, x5, Cel.load hC hS rfl, J5, (hS.to : St v w5 (J5 ++ [])).left, x5, rfl, by unfold dwR; rw [if_pos l1]; exact hO⟩
  · have hnp : ¬ 1000 ≤ n := fun hp => by rw [word_ptr hd.2.1 hp] at hq; cases hq
    exact ⟨s, Cel.load hC hS rfl, J2, (hS.to : St v w4 (J2 ++ [])).left, s, rfl, by unfold dwR; rw [if_neg hnp]; exact hO⟩

theorem c_liveCells (hx : Read v x h) : Fn Try.prog 85 #[x.val] v (.int .i64 (nlive h)) := by
  refine of85 _ _ _ ?_
  unfold vc85
  have hn := hx.n
  have hl := hx.le
  have hnl : ∀ i : Nat, nlive (h.take i) ≤ h.length := fun i => Nat.le_trans List.countP_le_length (by simp; omega)
  refine ⟨fun q i w => Sub v w ∧ 0 ≤ i ∧ i ≤ h.length ∧ q = nlive (h.take i.toNat), fun _ i _ => (h.length - i).toNat, ⟨.refl v, by omega, by omega, by simp [nlive]⟩, ?_⟩
  rintro q i w ⟨hs, h0, h1, h2⟩
  dsimp only
  have hb := hnl i.toNat
  refine ⟨fun hi => ?_, fun hi => ?_⟩
  · simp only [decide_eq_true_eq, decide_eq_false_iff_not, Bool.and_eq_true, Bool.and_eq_false_iff, Bool.or_eq_true, Bool.or_eq_false_iff, Bool.not_eq_true', Bool.not_eq_false', Bool.not_true, Bool.not_false, Bool.false_eq_true, Bool.true_eq_false, Int.not_lt, Int.not_le, ge_iff_le, gt_iff_lt, Bool.not_eq_eq_eq_not, Bool.true_or, Bool.or_true, Bool.false_or, Bool.or_false, Bool.true_and, Bool.and_true, false_or, or_false, true_and, and_true, Decidable.not_not] at hi
    have htk := take_nth (l := h) h0 (by omega)
    have hb2 := hnl (i + 1).toNat
    refine go_ix hx h0 (by omega) ?_
    obtain ⟨f, a1, a2, a3, _⟩ := (hx.src hs).cell (i := i) h0 (by omega)
    refine ⟨_, _, f, ⟨a1, a2, a3⟩, fun hc => ?_, fun hc => ?_⟩
    · simp only [decide_eq_true_eq, decide_eq_false_iff_not, Bool.and_eq_true, Bool.and_eq_false_iff, Bool.or_eq_true, Bool.or_eq_false_iff, Bool.not_eq_true', Bool.not_eq_false', Bool.not_true, Bool.not_false, Bool.false_eq_true, Bool.true_eq_false, Int.not_lt, Int.not_le, ge_iff_le, gt_iff_lt, Bool.not_eq_eq_eq_not, Bool.true_or, Bool.or_true, Bool.false_or, Bool.or_false, Bool.true_and, Bool.and_true, false_or, or_false, true_and, and_true, Decidable.not_not] at hc
      refine go_wr (by omega) (by omega) ?_
      refine go_wr (by omega) (by omega) ?_
      refine ⟨⟨hs, by omega, by omega, ?_⟩, by omega⟩
      rw [htk, nlive, List.countP_append, h2]
      simp [nlive, hc]
    · simp only [decide_eq_true_eq, decide_eq_false_iff_not, Bool.and_eq_true, Bool.and_eq_false_iff, Bool.or_eq_true, Bool.or_eq_false_iff, Bool.not_eq_true', Bool.not_eq_false', Bool.not_true, Bool.not_false, Bool.false_eq_true, Bool.true_eq_false, Int.not_lt, Int.not_le, ge_iff_le, gt_iff_lt, Bool.not_eq_eq_eq_not, Bool.true_or, Bool.or_true, Bool.false_or, Bool.or_false, Bool.true_and, Bool.and_true, false_or, or_false, true_and, and_true, Decidable.not_not] at hc
      refine go_wr (by omega) (by omega) ?_
      refine ⟨⟨hs, by omega, by omega, ?_⟩, by omega⟩
      have e : (if 0 < (nth h i).count then (1 : Nat) else 0) = 0 := if_neg (by omega)
      rw [htk, nlive, List.countP_append, h2]
      simp [nlive, e]
  · simp only [decide_eq_true_eq, decide_eq_false_iff_not, Bool.and_eq_true, Bool.and_eq_false_iff, Bool.or_eq_true, Bool.or_eq_false_iff, Bool.not_eq_true', Bool.not_eq_false', Bool.not_true, Bool.not_false, Bool.false_eq_true, Bool.true_eq_false, Int.not_lt, Int.not_le, ge_iff_le, gt_iff_lt, Bool.not_eq_eq_eq_not, Bool.true_or, Bool.or_true, Bool.false_or, Bool.or_false, Bool.true_and, Bool.and_true, false_or, or_false, true_and, and_true, Decidable.not_not] at hi
    rw [take_all (by omega)] at h2
    exact ⟨by rw [h2], hs⟩
theorem c_LiveCells (hx : Read v x h) (hd : vheap h) : Fn Try.prog 27 #[x.val] v (.int .i64 (nlive h)) := by
  refine of27 _ _ _ ?_
  unfold vc27
  refine ⟨_, c_implValidHeap hx, fun hc => ?_, fun _ => ?_⟩
  · rw [vheapB_iff.2 hd] at hc; cases hc
  refine Fn.use (c_liveCells hx) (.refl v) ?_
  intro w hS hs
  exact ⟨_, rfl, rfl, hs⟩
end
end Go.Vc

namespace Go.Vc
open Go Go.Proofs Go.RowKit
set_option linter.all false
section
variable {u v w : World} {x y xf s t : Sl} {l ws fs pend : List Int} {h g : List CellD} {z z' : LazyD} {b m n k f : Int} {a : Addr} {I J K L R R1 : Items} {F F1 : Items → Items}

theorem c_DrawLazyAlloc {code : List UInt8} (hx : Read v x code) : Mk Try.prog 15 #[x.val] v fun r J => ∃ y t xf, ∃ (z : LazyD) (n : Int) (fs : List Int), ∃ J1 J2 J3, r = .tuple #[.agg #[y.val, t.val], .int .i64 n, xf.val] ∧ OwnD y z.cells J1 ∧ Own v t z.pend J2 ∧ Own v xf fs J3 ∧ InI n ∧ z.cells.length ≤ 60 ∧ z.pend.length ≤ 61 ∧ fs.length ≤ 4 ∧ J = J1 ++ (J2 ++ J3) := by
  refine of15 _ _ _ ?_
  unfold vc15
  refine Mk.use (c_newReader hx) (.refl v) ?_
  rintro _ w1 J1 ⟨a, rfl, hR⟩ hS hsub
  refine ⟨_, rfl, ?_⟩
  refine Trip.mono' (c_anyLazy hR hS (by omega)) ?_
  rintro _ w2 ⟨x, y, z, J, K, I, rfl, hO, hP, hR, hS, hzl, hpl⟩
  have hon := hO.n
  refine ⟨_, _, rfl, ?_⟩
  refine St.build (α := Int) hS (by (repeat' (first | exact VsOf.nil | apply VsOf.cons | (apply VOf.int; first | assumption | (constructor <;> first | omega | (simp only [List.length_set, List.length_append, List.length_replicate, List.length_cons, List.length_nil, List.length_take, List.length_drop, List.length_map, List.length_singleton] at *; omega))) | exact VOf.bool | exact VOf.str))) rfl (by decide) ?_
  intro xf w3 I3 hF hS hs
  refine ⟨_, rfl, ?_⟩
  refine St.build (α := Int) hS (by (repeat' (first | exact VsOf.nil | apply VsOf.cons | (apply VOf.int; first | assumption | (constructor <;> first | omega | (simp only [List.length_set, List.length_append, List.length_replicate, List.length_cons, List.length_nil, List.length_take, List.length_drop, List.length_map, List.length_singleton] at *; omega))) | exact VOf.bool | exact VOf.str))) rfl (by decide) ?_
  intro x4 w4 I4 hO4 hS hs
  refine ⟨_, rfl, ?_⟩
  refine Trip.mono' (c_one hR hO4 hS (by omega) (by simp) (by simp)) ?_
  rintro _ w5 ⟨k5, I5, rfl, hR, hS, hk5⟩
  have hk5' : k5 ≤ 4 ∧ 0 ≤ k5 := by simp at hk5; omega
  refine ⟨_, rfl, ?_⟩
  refine ⟨fun xf k w => ∃ (fs : List Int) (I F : Items) (q : Int), Own v xf fs F ∧ Rdr v a q I ∧ St v w (F ++ (I ++ (J ++ (K ++ [])))) ∧ 0 ≤ k ∧ k + fs.length ≤ 4 ∧ q + 5 * k ≤ 999980100, fun _ k _ => k.toNat, ⟨[], I5, I3, 0 + 910 + 1, hF, hR.le (by omega), hS.to, by omega, by simp; omega, by omega⟩, ?_⟩
  clear hF hR hS
  rintro xf k w ⟨fs, I, F, q, hF, hR, hS, h0, h1, h2⟩
  dsimp only
  have hfn := hF.n
  refine ⟨fun hi => ?_, fun hi => ?_⟩
  · simp only [decide_eq_true_eq, decide_eq_false_iff_not, Bool.and_eq_true, Bool.and_eq_false_iff, Bool.or_eq_true, Bool.or_eq_false_iff, Bool.not_eq_true', Bool.not_eq_false', Bool.not_true, Bool.not_false, Bool.false_eq_true, Bool.true_eq_false, Int.not_lt, Int.not_le, ge_iff_le, gt_iff_lt, Bool.not_eq_eq_eq_not, Bool.true_or, Bool.or_true, Bool.false_or, Bool.or_false, Bool.true_and, Bool.and_true, false_or, or_false, true_and, and_true, Decidable.not_not] at hi
    refine Trip.mono' (c_wordFor (n := x.n) hR hS (by omega) (by omega) (by omega)) ?_
    rintro _ w3 ⟨j, I6, rfl, hj, hR, hS⟩
    refine ⟨_, rfl, ?_⟩
    refine St.build (α := Int) hS (by (repeat' (first | exact VsOf.nil | apply VsOf.cons | (apply VOf.int; first | assumption | (constructor <;> first | omega | (simp only [List.length_set, List.length_append, List.length_replicate, List.length_cons, List.length_nil, List.length_take, List.length_drop, List.length_map, List.length_singleton] at *; omega))) | exact VOf.bool | exact VOf.str))) rfl (by decide) ?_
    intro x7 w7 I7 hO7 hS hs
    refine ⟨_, rfl, ?_⟩
    refine Own.append hF hS (Own.src hO7 hS) (by simp; omega) (by decide) ?_
    intro x8 w8 I8 hF hS
    refine ⟨_, rfl, ?_⟩
    refine go_wr (by omega) (by omega) ?_
    exact ⟨rfl, rfl, rfl, rfl, ⟨_, _, _, q + 5, hF, hR, hS.to, by omega, by simp; omega, by omega⟩, by omega⟩
  · simp only [decide_eq_true_eq, decide_eq_false_iff_not, Bool.and_eq_true, Bool.and_eq_false_iff, Bool.or_eq_true, Bool.or_eq_false_iff, Bool.not_eq_true', Bool.not_eq_false', Bool.not_true, Bool.not_false, Bool.false_eq_true, Bool.true_eq_false, Int.not_lt, Int.not_le, ge_iff_le, gt_iff_lt, Bool.not_eq_eq_eq_not, Bool.true_or, Bool.or_true, Bool.false_or, Bool.or_false, Bool.true_and, Bool.and_true, false_or, or_false, true_and, and_true, Decidable.not_not] at hi
    refine St.build (α := Int) hS (by (repeat' (first | exact VsOf.nil | apply VsOf.cons | (apply VOf.int; first | assumption | (constructor <;> first | omega | (simp only [List.length_set, List.length_append, List.length_replicate, List.length_cons, List.length_nil, List.length_take, List.length_drop, List.length_map, List.length_singleton] at *; omega))) | exact VOf.bool | exact VOf.str))) rfl (by decide) ?_
    intro x4 w4 I4 hO4 hS hs
    refine ⟨_, rfl, ?_⟩
    refine Trip.mono' (c_one hR hO4 hS (by omega) (by simp) (by simp)) ?_
    rintro _ w5 ⟨k9, I9, rfl, hR, hS, hk9⟩
    have hk9' : InI k9 := by simp at hk9; exact ⟨by omega, by omega⟩
    refine ⟨_, rfl, ?_⟩
    exact ⟨J ++ (K ++ F), (hS.to : St v w5 (J ++ (K ++ (F ++ [])))).perm (by simp), x, y, xf, z, k9, fs, J, K, F, rfl, hO, hP, hF, hk9', hzl, hpl, by omega, rfl⟩

theorem alR_t (h : alOk z n fs) : alR z n fs = alZ (settleL 1 z) (lzIdx (settleL 1 z)) n fs := by unfold alR; rw [alB_t h]; rfl
theorem alN_t (h : alOk z n fs) : alN z n fs = 1000 + (lzIdx (settleL 1 z) : Int) := by unfold alN; rw [alB_t h]; rfl
theorem alN_ok (h : alN z n fs ≠ 0) : alOk z n fs := Classical.byContradiction fun hd => h (by unfold alN; rw [alB_f hd]; rfl)
theorem lzIdx_spec (z : LazyD) : lzP z (lzIdx z) := leastM_spec (p := lzP z) ⟨_, .inl rfl⟩

theorem al_room (h : alOk z n fs) (hp : z.pend ≠ []) : (alR z n fs).cells.length ≤ z.cells.length ∧ ((alR z n fs).pend.length : Int) ≤ z.pend.length - 1 + 3 := by
  rw [alR_t h]
  have L := (vlazy_iff.1 h.1).1
  obtain ⟨L1, h2, h3, _⟩ := LZ.settle1 L
  have E := trim_ext L1
  have hnf := E.nf
  have hlen := E.len
  have hle := nf_le L
  have e1 : settleL 1 z = trimZ (settle1 z) := rfl
  have hs := lzIdx_spec (settleL 1 z)
  have hk := lzIdx_le (settleL 1 z)
  have h4 := h2 hp
  constructor
  · unfold alZ placeL
    simp only
    split
    · rename_i e
      rw [e1] at e hk ⊢
      have hall : ∀ k : Nat, k < (trimZ (settle1 z)).cells.length → 0 < (nth (trimZ (settle1 z)).cells (k : Int)).count ∨ (k : Int) ∈ (trimZ (settle1 z)).pend := by
        intro k hkl
        refine Classical.byContradiction fun hne => ?_
        have hc := ((vlazy_iff.1 (settle_valid L 1)).1.cell _ (nth_mem (l := (settleL 1 z).cells) (i := (k : Int)) (by omega) (by rw [e1]; omega))).1
        rw [e1] at hc
        have : lzIdx (trimZ (settle1 z)) ≤ k := leastM_le (p := lzP (trimZ (settle1 z))) (.inr ⟨hkl, by omega, fun hm => hne (.inr hm)⟩)
        omega
      have := nf_ge hall
      unfold nf at hnf h4 hle
      simp only [List.length_append, List.length_singleton]
      omega
    · rw [List.length_set, e1]; omega
  · show ((settleL 1 z).pend.length : Int) ≤ _
    rw [e1]
    have e2 : (trimZ (settle1 z)).pend = (settle1 z).pend := rfl
    rw [e2]
    obtain ⟨cells, pend⟩ := z
    cases pend with
    | nil => exact absurd rfl hp
    | cons p r =>
      have e3 : settle1 ⟨cells, p :: r⟩ = dropF ⟨cells.set p.toNat free0, r⟩ (nth cells p).fields := rfl
      rw [e3]
      obtain ⟨p0, p1, _⟩ := L.pr p List.mem_cons_self
      have h5 := (L.cell _ (nth_mem (l := cells) p0 p1)).2.2.1
      have := dropF_plen (nth cells p).fields ⟨cells.set p.toNat free0, r⟩
      simp only [List.length_cons] at *
      omega

theorem goneH_trim (L : LZ z.cells z.pend l) : trimL (goneH (trimZ z).cells z.pend l) = trimL (goneH z.cells z.pend l) ∧ LZ (trimZ z).cells z.pend l ∧ ∃ q, goneH z.cells z.pend l = goneH (trimZ z).cells z.pend l ++ List.replicate q free0 := by
  have E := trim_ext (z := z) (LZ.sub (t1 := []) (t2 := l) L)
  have L2 : LZ (trimZ z).cells z.pend l := E.lzT (z := trimZ z) L
  obtain ⟨q, hq⟩ := E.cells
  have h1 := (goneH_ends L2).ext (fun p hp => E.pin p hp) q
  rw [← hq] at h1
  have h2 := Ends.eq L h1
  refine ⟨?_, L2, q, h2.symm⟩
  rw [← h2]
  unfold trimL
  rw [List.reverse_append, List.dropWhile_append_of_pos (fun c hc => by
    rw [List.eq_of_mem_replicate (List.mem_reverse.1 hc)]; rfl)]

theorem nlive_trim (h : List CellD) : nlive (trimL h) = nlive h := by
  rw [trim_eq]
  conv => rhs; rw [← List.take_append_drop (trimN h [] h.length) h]
  unfold nlive
  rw [List.countP_append]
  have : (h.drop (trimN h [] h.length)).countP (fun c => decide (0 < c.count)) = 0 := by
    rw [List.countP_eq_zero]
    intro c hc
    obtain ⟨i, hi, rfl⟩ := List.getElem_of_mem hc
    simp only [List.length_drop] at hi
    have := (trimN_free (h := h) (pend := []) (n := h.length) (k := ((trimN h [] h.length + i : Nat) : Int)) (by omega) (by omega)).1
    rw [nth_nat (l := h) (by omega)] at this
    simp [List.getElem_drop, this]
  omega
theorem trim_keeps {h : List CellD} {k : Int} (k0 : 0 ≤ k) (k1 : k < h.length) (hc : (nth h k).count ≠ 0) : k < (trimL h).length ∧ nth (trimL h) k = nth h k := by
  have hle := trimN_le h [] h.length
  have hlt : k < trimN h [] h.length := by
    rcases Int.lt_or_le k (trimN h [] h.length) with h1 | h1
    · exact h1
    · exact absurd (trimN_free h1 k1).1 hc
  rw [trim_eq]
  refine ⟨by simp; omega, ?_⟩
  unfold nth List.getD
  rw [List.getElem?_take, if_pos (by omega)]

/-- what the law says of a new cell -/
theorem al_stays (h : alOk z n fs) : (lzIdx (settleL 1 z) : Int) < (shR (alR z n fs)).length ∧ nth (shR (alR z n fs)) (lzIdx (settleL 1 z)) = ⟨1, n, fs⟩ ∧ nlive (shR (alR z n fs)) = nlive (shR z) + 1 := by
  have L := (vlazy_iff.1 h.1).1
  have L1 := (LZ.settleNT 1 L).1
  obtain ⟨_, Ls, q0, hq0⟩ := goneH_trim L1
  rw [goneH_settle L 1] at hq0
  have hs := lzIdx_spec (settleL 1 z)
  have hk := lzIdx_le (settleL 1 z)
  have e1 : (trimZ (settleN 1 z)) = settleL 1 z := rfl
  have e2 : (settleN 1 z).pend = (settleL 1 z).pend := rfl
  rw [e1, e2] at Ls hq0
  have Lo := (vlazy_iff.1 h.2.2).1
  rw [shR_gone (z := alR z n fs) (by rw [alR_t h]; exact h.2.2), shR_gone h.1, nlive_trim, nlive_trim, hq0, nlive_free, alR_t h]
  generalize hs2 : settleL 1 z = s at *
  generalize hk2 : lzIdx s = k at *
  clear hs2 hq0 L1 L
  have key : ∃ q : Nat, placeL s.cells k ⟨1, n, fs⟩ = (s.cells ++ List.replicate q free0).set (k : Int).toNat ⟨1, n, fs⟩ ∧ k < s.cells.length + q ∧ (nth (s.cells ++ List.replicate q free0) (k : Int)).count = 0 ∧ (k : Int) ∉ s.pend := by
    rcases hs with e | ⟨p1, p2, p3⟩
    · refine ⟨1, ?_, by omega, by rw [nth_right (by omega), nth_free], fun hm => by have := (Ls.pr _ hm).2.1; omega⟩
      rw [placeL, if_pos (by omega), e]; simp
    · refine ⟨0, ?_, by omega, by simpa using p2, p3⟩
      rw [placeL, if_neg (by omega)]; simp
  obtain ⟨q, hpl, hkq, hc, hnp⟩ := key
  have e3 : (alZ s k n fs).cells = (s.cells ++ List.replicate q free0).set (k : Int).toNat ⟨1, n, fs⟩ := hpl
  have e4 : (alZ s k n fs).pend = s.pend := rfl
  have hpr : ∀ p ∈ s.pend, 0 ≤ p ∧ p < s.cells.length := fun p hp => ⟨(Ls.pr p hp).1, (Ls.pr p hp).2.1⟩
  have Lx : LZ (s.cells ++ List.replicate q free0) s.pend [] := Ext.lzB (z := s) (z' := ⟨s.cells ++ List.replicate q free0, s.pend⟩) ⟨⟨q, rfl⟩, rfl, hpr⟩ Ls
  have E1 := (goneH_ends Ls).ext hpr q
  have hkl : ((k : Nat) : Int) < (s.cells ++ List.replicate q free0).length := by simp; omega
  have E2 := Ends.place (c := (⟨1, n, fs⟩ : CellD)) Lx E1 (by omega) hkl hc hnp (by show (0 : Int) < 1; omega)
  have hcA := (E1.free_ (by omega) hkl hc hnp).1
  have hlA : (goneH s.cells s.pend [] ++ List.replicate q free0).length = (s.cells ++ List.replicate q free0).length := (by obtain ⟨S, D⟩ := E1; exact D.len)
  rw [← e3] at E2
  have e5 := Ends.eq Lo (a := (goneH s.cells s.pend [] ++ List.replicate q free0).set (k : Int).toNat ⟨1, n, fs⟩) E2
  rw [← e5]
  have hnth : nth ((goneH s.cells s.pend [] ++ List.replicate q free0).set (k : Int).toNat ⟨1, n, fs⟩) (k : Int) = ⟨1, n, fs⟩ := by
    rw [nth_set _ _ _ _ (by omega) (by omega) (by omega), if_pos rfl]
  have hset := nlive_set_free (h := goneH s.cells s.pend [] ++ List.replicate q free0) (k := (k : Int)) (c := ⟨1, n, fs⟩) (by omega) (by omega) (by rw [hcA]; exact hc) (by show (0 : Int) < 1; omega)
  rw [nlive_free] at hset
  generalize (goneH s.cells s.pend [] ++ List.replicate q free0).set (k : Int).toNat ⟨1, n, fs⟩ = A at *
  have hkA : k < A.length := by
    rcases Nat.lt_or_ge k A.length with h | h
    · exact h
    · have : nth A (k : Int) = default := by unfold nth List.getD; rw [List.getElem?_eq_none (by omega)]; rfl
      rw [this] at hnth; cases hnth
  obtain ⟨t1, t2⟩ := trim_keeps (h := A) (k := k) (by omega) (by omega) (by rw [hnth]; show (1 : Int) ≠ 0; omega)
  exact ⟨t1, by rw [t2, hnth], hset⟩
end
end Go.Vc

namespace Go.Vc
open Go Go.Proofs Go.RowKit
set_option linter.all false
section
variable {u v w : World} {x y xf s t : Sl} {l ws fs pend : List Int} {h g : List CellD} {z z' : LazyD} {b m n k f : Int} {a : Addr} {I J K L R R1 : Items} {F F1 : Items → Items}

theorem shR_zero (hd : vlazy z) : vlazy ⟨shR z, []⟩ := by
  have L := (vlazy_iff.1 hd).1
  have h1 := settle_valid L z.cells.length
  have hp : (settleL z.cells.length z).pend = [] := (settle_all L (nf_le L)).2
  have e : settleL z.cells.length z = ⟨shR z, []⟩ := by rw [shR_t hd, ← hp]
  rwa [e] at h1
/-- the drop of the settled heap -/
theorem dw_settled (hd : dropOk z n) : dwOk (shR z) n ∧ dwR (shR z) n = shR (dropZ z n) ∧ ∀ c ∈ shR z, 0 ≤ c.count := by
  have hz := hd.1
  have L := (vlazy_iff.1 hz).1
  have hv := shR_zero hz
  have hcn : ∀ c ∈ shR z, 0 ≤ c.count := hv.1.2.2
  have hdv := drop_valid hd
  by_cases hp : 1000 ≤ n
  · have Ln := drop_lz hd hp
    have LB := (goneH_run (t1 := []) (t2 := [n]) Ln)
    have e0 := goneH_two (t1 := []) (t2 := [n]) Ln
    have e1 : goneH z.cells z.pend [n] = goneH (dropZ z n).cells (dropZ z n).pend [] := by
      have h1 : dropZ z n = lowerZ z (n - 1000) := if_pos hp
      have L2 := Ln.lower hp
      rw [h1]
      exact (Ends.eq Ln (Ends.lower Ln hp (goneH_ends L2))).symm
    obtain ⟨t1, t2, q, t3⟩ := goneH_trim (z := ⟨goneH z.cells z.pend [], []⟩) (l := [n]) LB.1
    have e2 : (trimZ ⟨goneH z.cells z.pend [], []⟩).cells = shR z := by rw [shR_gone hz, trim_eq]; rfl
    rw [e2] at t1 t2
    have hw : word (shR z) n = true := t2.ptrT n (by simp)
    obtain ⟨l1, l2, l3⟩ := live_iff.1 (word_ptr hw hp)
    refine ⟨⟨lz_vheap hv, hw, fun _ => ?_⟩, ?_, hcn⟩
    · have h1 := t2.cnt (n - 1000) (by omega) l2 l3
      rw [cntF_cons, if_pos (by omega)] at h1
      have h2 : cntF [] (n - 1000) = 0 := by simp [cntF]
      rw [refL, nth_refsW (by omega) (by omega), cnt_cntF _ (by omega) (by rw [show 1000 + (n - 1000) = n from by omega]; exact word_ptr hw hp)]
      omega
    · unfold dwR
      rw [if_pos hp, shR_gone hdv, ← e1]
      rw [t1, e0]; rfl
  · have h1 : dropZ z n = z := if_neg hp
    refine ⟨⟨lz_vheap hv, ?_, fun h => absurd h hp⟩, ?_, hcn⟩
    · rcases word_iff.1 hd.2.1 with hi | hl
      · exact word_iff.2 (.inl hi)
      · exact absurd (live_iff.1 hl).1 hp
    · unfold dwR; rw [if_neg hp, h1]

theorem eqHB_refl (h : List CellD) : eqHB h h = true := by unfold eqHB; exact @decide_eq_true _ (Classical.propDecidable _) rfl
theorem dropR_len (hl : z.cells.length ≤ 60) : (dropR z n).cells.length ≤ 60 := by
  by_cases hd : dropOk z n
  · rw [dropR_t hd, dropZ_len]; exact hl
  · rw [dropR_f hd]; exact Nat.zero_le _

theorem l_LazyDrop : LawTrue Try.prog 4 := by
  intro v x0 bs hb
  refine of4 _ _ _ ?_
  unfold vc4
  refine ⟨fun hc => ⟨rfl, .refl v⟩, fun hc => ?_⟩
  simp only [decide_eq_true_eq, decide_eq_false_iff_not, Bool.and_eq_true, Bool.and_eq_false_iff, Bool.or_eq_true, Bool.or_eq_false_iff, Bool.not_eq_true', Bool.not_eq_false', Bool.not_true, Bool.not_false, Bool.false_eq_true, Bool.true_eq_false, Int.not_lt, Int.not_le, ge_iff_le, gt_iff_lt, Bool.not_eq_eq_eq_not, Bool.true_or, Bool.or_true, Bool.false_or, Bool.or_false, Bool.true_and, Bool.and_true, false_or, or_false, true_and, and_true, Decidable.not_not] at hc
  have hcode := hb.read (by omega)
  refine Mk.use (c_DrawLazyDrop hcode) (.refl v) ?_
  rintro _ w1 _ ⟨x, y, z, n, J1, J2, rfl, hO, hP, hn, hzl, hpl, rfl⟩ hS hsub
  refine ⟨_, _, _, rfl, ?_⟩
  obtain ⟨u, hvu, hS, hJ⟩ := hS.freeze (J1 ++ J2)
  have hx : Read u x z.cells := hO.read1 hJ.left
  have hy : Read u y z.pend := Own.read1 (u := v) hP hJ.right
  clear hO hP hJ
  refine Mk.use (c_implLazyDropD hx hy hn (by omega)) hS ?_
  rintro _ w2 _ ⟨x8, y8, J3, J4, rfl, hO, hP, rfl⟩ hS _
  obtain ⟨u3, hu3, hS, hJ⟩ := hS.freeze (J3 ++ J4)
  have hx8 : Read u3 x8 _ := hO.read1 hJ.left
  have hy8 : Read u3 y8 _ := Own.read1 (u := u) hP hJ.right
  replace hx := hx.mono hu3
  replace hy := hy.mono hu3
  clear hO hP hJ
  refine ⟨_, _, _, rfl, ?_⟩
  refine Mk.use (c_specLazyDrop hx hy hn (by omega)) hS ?_
  rintro _ w3 _ ⟨x13, y13, J3, J4, rfl, hO, hP, rfl⟩ hS hsub
  obtain ⟨u4, hu4, hS, hJ⟩ := hS.freeze (J3 ++ J4)
  have hx13 : Read u4 x13 _ := hO.read1 hJ.left
  have hy13 : Read u4 y13 _ := Own.read1 (u := u3) hP hJ.right
  clear hO hP hJ
  replace hx := hx.mono hu4
  replace hy := hy.mono hu4
  replace hx8 := hx8.mono hu4
  replace hy8 := hy8.mono hu4
  have hv4 : Sub v u4 := hvu.trans (hu3.trans hu4)
  refine ⟨_, _, _, rfl, _, c_equalLazy (hx8.mono hS.sub) (hy8.mono hS.sub) (hx13.mono hS.sub) (hy13.mono hS.sub), fun hc => ?_, fun hc => ?_⟩
  · exact ⟨_, c_equalLazy (hx8.mono hS.sub) (hy8.mono hS.sub) (hx13.mono hS.sub) (hy13.mono hS.sub), by simp, hv4.trans hS.sub⟩
  simp at hc
  have hd := dropB_iff.1 hc
  have hl8 := dropR_len (n := n) hzl
  refine Mk.use (c_implSettledHeapD hx8 hy8 (by omega)) hS ?_
  rintro _ w5 J5 ⟨x5, rfl, hO5⟩ hS _
  refine ⟨_, _, rfl, ?_⟩
  refine Mk.use (c_implSettledHeapD hx hy (by omega)) hS ?_
  rintro _ w6 J6 ⟨x6, rfl, hO6⟩ hS _
  refine ⟨_, _, rfl, ?_⟩
  replace hS := hS.perm (L' := (J6 ++ J5) ++ []) (by simp)
  obtain ⟨u5, hu5, hS, hJ⟩ := hS.freeze (J6 ++ J5)
  have hx6 : Read u5 x6 _ := hO6.read1 hJ.left
  have hx5 : Read u5 x5 _ := hO5.read1 hJ.right
  clear hO5 hO6 hJ
  obtain ⟨d1, d2, d3⟩ := dw_settled hd
  have hls : (shR z).length ≤ 60 := by
    have L := (vlazy_iff.1 hd.1).1
    have h1 := (settleL_len z.cells.length (.inr hd.1)).1
    rw [shR_t hd.1]; omega
  refine Mk.use (c_implDropWord hx6 hn d1 d3 (by omega)) hS ?_
  rintro _ w7 J7 ⟨x7, rfl, hO7⟩ hS _
  refine ⟨_, _, rfl, ?_⟩
  have hsub7 := hu5.trans hS.sub
  rw [dropR_t hd] at hx8 hy8 hx5
  have e1 : vlazyB (dropZ z n) = true := vlazyB_iff.2 (drop_valid hd)
  have e2 : vlazyB z = true := vlazyB_iff.2 hd.1
  rw [d2] at hO7
  refine ⟨_, c_validLazyI (z := dropZ z n) (hx8.mono hsub7) (hy8.mono hsub7), _, fun _ => c_equalHeap (hx5.mono hS.sub) (OwnD.read hO7 hS), ?_, hv4.trans hsub7⟩
  rw [dropR_t hd, e1, e2, eqHB_refl]; rfl

theorem l_LazyAllocRoom : LawTrue Try.prog 3 := by
  intro v x0 bs hb
  refine of3 _ _ _ ?_
  unfold vc3
  refine ⟨fun hc => ⟨rfl, .refl v⟩, fun hc => ?_⟩
  simp only [decide_eq_true_eq, decide_eq_false_iff_not, Bool.and_eq_true, Bool.and_eq_false_iff, Bool.or_eq_true, Bool.or_eq_false_iff, Bool.not_eq_true', Bool.not_eq_false', Bool.not_true, Bool.not_false, Bool.false_eq_true, Bool.true_eq_false, Int.not_lt, Int.not_le, ge_iff_le, gt_iff_lt, Bool.not_eq_eq_eq_not, Bool.true_or, Bool.or_true, Bool.false_or, Bool.or_false, Bool.true_and, Bool.and_true, false_or, or_false, true_and, and_true, Decidable.not_not] at hc
  have hcode := hb.read (by omega)
  refine Mk.use (c_DrawLazyAlloc hcode) (.refl v) ?_
  rintro _ w1 _ ⟨x, y, xf, z, n, fs, J1, J2, J3, rfl, hO, hP, hF, hn, hzl, hpl, hfl, rfl⟩ hS hsub
  refine ⟨_, _, _, _, rfl, ?_⟩
  obtain ⟨u, hvu, hS, hJ⟩ := hS.freeze (J1 ++ (J2 ++ J3))
  have hx : Read u x z.cells := hO.read1 hJ.left
  have hy : Read u y z.pend := Own.read1 (u := v) hP hJ.right.left
  have hf : Read u xf fs := Own.read1 (u := v) hF hJ.right.right
  clear hO hP hF hJ
  refine Mk.use (c_implLazyAllocD hx hy hf hn (by omega)) hS ?_
  rintro _ w2 _ ⟨x8, y8, J3, J4, rfl, hO, hP, rfl⟩ hS _
  obtain ⟨u3, hu3, hS, hJ⟩ := hS.freeze (J3 ++ J4)
  have hx8 : Read u3 x8 _ := hO.read1 hJ.left
  have hy8 : Read u3 y8 _ := Own.read1 (u := u) hP hJ.right
  replace hx := hx.mono hu3
  replace hy := hy.mono hu3
  replace hf := hf.mono hu3
  clear hO hP hJ
  refine ⟨_, _, _, rfl, ?_⟩
  refine Mk.use (c_specLazyAlloc hx hy hf hn (by omega)) hS ?_
  rintro _ w3 _ ⟨x13, y13, J3, J4, rfl, hO, hP, rfl⟩ hS hsub
  obtain ⟨u4, hu4, hS, hJ⟩ := hS.freeze (J3 ++ J4)
  have hx13 : Read u4 x13 _ := hO.read1 hJ.left
  have hy13 : Read u4 y13 _ := Own.read1 (u := u3) hP hJ.right
  clear hO hP hJ
  replace hx := hx.mono hu4
  replace hy := hy.mono hu4
  replace hx8 := hx8.mono hu4
  replace hy8 := hy8.mono hu4
  have hv4 : Sub v u4 := hvu.trans (hu3.trans hu4)
  refine ⟨_, _, _, rfl, _, c_equalLazy (hx8.mono hS.sub) (hy8.mono hS.sub) (hx13.mono hS.sub) (hy13.mono hS.sub), fun hc => ?_, fun hc => ?_⟩
  · exact ⟨_, c_equalLazy (hx8.mono hS.sub) (hy8.mono hS.sub) (hx13.mono hS.sub) (hy13.mono hS.sub), by simp, hv4.trans hS.sub⟩
  simp at hc
  have hok := alN_ok hc
  have hxn := hx.n
  have hyn := hy.n
  have h8n := hx8.n
  have hy8n := hy8.n
  refine ⟨fun h0 => ?_, fun h0 => ?_⟩
  · simp only [decide_eq_true_eq, decide_eq_false_iff_not, Bool.and_eq_true, Bool.and_eq_false_iff, Bool.or_eq_true, Bool.or_eq_false_iff, Bool.not_eq_true', Bool.not_eq_false', Bool.not_true, Bool.not_false, Bool.false_eq_true, Bool.true_eq_false, Int.not_lt, Int.not_le, ge_iff_le, gt_iff_lt, Bool.not_eq_eq_eq_not, Bool.true_or, Bool.or_true, Bool.false_or, Bool.or_false, Bool.true_and, Bool.and_true, false_or, or_false, true_and, and_true, Decidable.not_not] at h0
    have hp : z.pend = [] := List.eq_nil_of_length_eq_zero (by omega)
    refine go_wr (by omega) (by omega) ?_
    refine ⟨?_, hv4.trans hS.sub⟩
    have e1 := settle_nil hok.1 hp 1
    have e2 : (alR z n fs).cells.length ≤ z.cells.length + 1 := by
      rw [alR_t hok, e1]; unfold alZ placeL; simp only; split <;> simp
    have e3 : (alR z n fs).pend.length = 0 := by rw [alR_t hok, e1]; show z.pend.length = 0; rw [hp]; rfl
    rw [decide_eq_true (by omega), decide_eq_true (by omega)]; rfl
  · simp only [decide_eq_true_eq, decide_eq_false_iff_not, Bool.and_eq_true, Bool.and_eq_false_iff, Bool.or_eq_true, Bool.or_eq_false_iff, Bool.not_eq_true', Bool.not_eq_false', Bool.not_true, Bool.not_false, Bool.false_eq_true, Bool.true_eq_false, Int.not_lt, Int.not_le, ge_iff_le, gt_iff_lt, Bool.not_eq_eq_eq_not, Bool.true_or, Bool.or_true, Bool.false_or, Bool.or_false, Bool.true_and, Bool.and_true, false_or, or_false, true_and, and_true, Decidable.not_not] at h0
    have hp : z.pend ≠ [] := fun e => by rw [e] at hyn; simp at hyn; omega
    obtain ⟨r1, r2⟩ := al_room hok hp
    refine ⟨(y.n : Int) - 1, fun _ => wrap_i64 (by omega) (by omega), (y.n : Int) - 1 + 3, fun _ => wrap_i64 (by omega) (by omega), ?_, hv4.trans hS.sub⟩
    rw [decide_eq_true (by omega), decide_eq_true (by omega)]; rfl

theorem l_LazyAlloc : LawTrue Try.prog 5 := by
  intro v x0 bs hb
  refine of5 _ _ _ ?_
  unfold vc5
  refine ⟨fun hc => ⟨rfl, .refl v⟩, fun hc => ?_⟩
  simp only [decide_eq_true_eq, decide_eq_false_iff_not, Bool.and_eq_true, Bool.and_eq_false_iff, Bool.or_eq_true, Bool.or_eq_false_iff, Bool.not_eq_true', Bool.not_eq_false', Bool.not_true, Bool.not_false, Bool.false_eq_true, Bool.true_eq_false, Int.not_lt, Int.not_le, ge_iff_le, gt_iff_lt, Bool.not_eq_eq_eq_not, Bool.true_or, Bool.or_true, Bool.false_or, Bool.or_false, Bool.true_and, Bool.and_true, false_or, or_false, true_and, and_true, Decidable.not_not] at hc
  have hcode := hb.read (by omega)
  refine Mk.use (c_DrawLazyAlloc hcode) (.refl v) ?_
  rintro _ w1 _ ⟨x, y, xf, z, n, fs, J1, J2, J3, rfl, hO, hP, hF, hn, hzl, hpl, hfl, rfl⟩ hS hsub
  refine ⟨_, _, _, _, rfl, ?_⟩
  obtain ⟨u, hvu, hS, hJ⟩ := hS.freeze (J1 ++ (J2 ++ J3))
  have hx : Read u x z.cells := hO.read1 hJ.left
  have hy : Read u y z.pend := Own.read1 (u := v) hP hJ.right.left
  have hf : Read u xf fs := Own.read1 (u := v) hF hJ.right.right
  clear hO hP hF hJ
  refine Mk.use (c_implLazyAllocD hx hy hf hn (by omega)) hS ?_
  rintro _ w2 _ ⟨x8, y8, J3, J4, rfl, hO, hP, rfl⟩ hS _
  obtain ⟨u3, hu3, hS, hJ⟩ := hS.freeze (J3 ++ J4)
  have hx8 : Read u3 x8 _ := hO.read1 hJ.left
  have hy8 : Read u3 y8 _ := Own.read1 (u := u) hP hJ.right
  replace hx := hx.mono hu3
  replace hy := hy.mono hu3
  replace hf := hf.mono hu3
  clear hO hP hJ
  refine ⟨_, _, _, rfl, ?_⟩
  refine Mk.use (c_specLazyAlloc hx hy hf hn (by omega)) hS ?_
  rintro _ w3 _ ⟨x13, y13, J3, J4, rfl, hO, hP, rfl⟩ hS hsub
  obtain ⟨u4, hu4, hS, hJ⟩ := hS.freeze (J3 ++ J4)
  have hx13 : Read u4 x13 _ := hO.read1 hJ.left
  have hy13 : Read u4 y13 _ := Own.read1 (u := u3) hP hJ.right
  clear hO hP hJ
  replace hx := hx.mono hu4
  replace hy := hy.mono hu4
  replace hf := hf.mono hu4
  replace hx8 := hx8.mono hu4
  replace hy8 := hy8.mono hu4
  have hv4 : Sub v u4 := hvu.trans (hu3.trans hu4)
  refine ⟨_, _, _, rfl, _, c_equalLazy (hx8.mono hS.sub) (hy8.mono hS.sub) (hx13.mono hS.sub) (hy13.mono hS.sub), fun hc => ?_, fun hc => ?_⟩
  · exact ⟨_, c_equalLazy (hx8.mono hS.sub) (hy8.mono hS.sub) (hx13.mono hS.sub) (hy13.mono hS.sub), by simp, hv4.trans hS.sub⟩
  simp at hc
  have hok := alN_ok hc
  obtain ⟨s1, s2, s3⟩ := al_stays hok
  have hov : vlazy (alR z n fs) := by rw [alR_t hok]; exact hok.2.2
  have hlo : (alR z n fs).cells.length ≤ 61 := by
    have := (settleL_len 1 (.inr hok.1)).1
    rw [alR_t hok]; unfold alZ placeL; simp only; split
    · simp; omega
    · simp; omega
  have hls : ∀ z : LazyD, vlazy z → (shR z).length ≤ z.cells.length := fun z hz => by
    have h1 := (settleL_len z.cells.length (.inr hz)).1
    rw [shR_t hz]; omega
  have hl1 := hls _ hov
  have hl2 := hls _ hok.1
  have hkl := lzIdx_le (settleL 1 z)
  refine Mk.use (c_implSettledHeapD hx8 hy8 (by omega)) hS ?_
  rintro _ w5 J5 ⟨x5, rfl, hO5⟩ hS _
  refine ⟨_, _, rfl, ?_⟩
  refine Mk.use (c_implSettledHeapD hx hy (by omega)) hS ?_
  rintro _ w6 J6 ⟨x6, rfl, hO6⟩ hS _
  refine ⟨_, _, rfl, ?_⟩
  replace hS := hS.perm (L' := (J6 ++ J5) ++ []) (by simp)
  obtain ⟨u5, hu5, hS, hJ⟩ := hS.freeze (J6 ++ J5)
  have hx6 : Read u5 x6 _ := hO6.read1 hJ.left
  have hx5 : Read u5 x5 _ := hO5.read1 hJ.right
  clear hO5 hO6 hJ
  have h5n := hx5.n
  have hk0 : alN z n fs - 1000 = (lzIdx (settleL 1 z) : Int) := by rw [alN_t hok]; omega
  refine ⟨(lzIdx (settleL 1 z) : Int), by rw [hk0]; exact wrap_i64 (by omega) (by omega), _, c_validLazyI (hx8.mono (hu5.trans hS.sub)) (hy8.mono (hu5.trans hS.sub)), fun _ => hx5.ix (by omega) (by omega), ?_⟩
  obtain ⟨f, a1, a2, a3, a4, a5, a6⟩ := (hx5.src hS.sub).cell (i := (lzIdx (settleL 1 z) : Int)) (by omega) (by omega)
  refine ⟨_, _, f, fun _ => ⟨a1, a2, a3⟩, _, fun _ => c_equalCell (d := ⟨1, n, fs⟩) (a6.mono hS.sub) (hf.mono (hu5.trans hS.sub)), fun hq => ?_, fun hq => ?_⟩
  · refine Fn.use (c_LiveCells (hx5.mono hS.sub) (lz_vheap (shR_zero hov))) hS ?_
    intro w7 hS hs7
    refine ⟨_, rfl, ?_⟩
    refine Fn.use (c_LiveCells (hx6.mono hS.sub) (lz_vheap (shR_zero hok.1))) hS ?_
    intro w8 hS hs8
    refine ⟨_, rfl, ?_⟩
    have hb1 : nlive (shR z) ≤ (shR z).length := List.countP_le_length
    refine go_wr (by omega) (by omega) ?_
    refine ⟨?_, hv4.trans (hu5.trans hS.sub)⟩
    rw [decide_eq_true (by omega)]
  · exfalso
    rw [vlazyB_iff.2 hov, vlazyB_iff.2 hok.1, decide_eq_true (show (lzIdx (settleL 1 z) : Int) < (x5.n : Int) from by omega)] at hq
    simp [s2] at hq
end
end Go.Vc
