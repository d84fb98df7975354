/- Part of the proofs about the heaps: a law is joined in the text whose name ends in W and the law. -/
import Derived.Test.YtmmkfmmcmjpcgaaBC6
namespace Go.Vc
open Go Go.Proofs Go.RowKit
set_option linter.all false

theorem OwnD.nilE {α : Type} [DatO α] (J : Items) : OwnD ⟨none, 0, 0⟩ ([] : List α) J := ⟨[], [], [], J, .nil, rfl, rfl, fun i r a K h => by simp at h, by simp, Nat.zero_le _⟩

theorem sum_set {α : Type} [Inhabited α] (f : α → Nat) {l : List α} {i : Int} {a : α} (h0 : 0 ≤ i) (h1 : i < l.length) : ((l.set i.toNat a).map f).sum + f (nth l i) = (l.map f).sum + f a := by
  have hlt : i.toNat < l.length := by omega
  have e : nth l i = l[i.toNat] := nth_of (by simp [hlt])
  rw [e]
  have h2 : l = l.take i.toNat ++ l[i.toNat] :: l.drop (i.toNat + 1) := by rw [List.getElem_cons_drop hlt, List.take_append_drop]
  have h3 : l.set i.toNat a = l.take i.toNat ++ a :: l.drop (i.toNat + 1) := List.set_eq_take_append_cons_drop .. |>.trans (by rw [if_pos hlt])
  have e1 : (l.map f).sum = ((l.take i.toNat).map f).sum + (f l[i.toNat] + ((l.drop (i.toNat + 1)).map f).sum) := by
    conv => lhs; rw [h2]
    rw [List.map_append, List.sum_append, List.map_cons, List.sum_cons]
  have e2 : ((l.set i.toNat a).map f).sum = ((l.take i.toNat).map f).sum + (f a + ((l.drop (i.toNat + 1)).map f).sum) := by
    rw [h3, List.map_append, List.sum_append, List.map_cons, List.sum_cons]
  omega
theorem mem_set_of {α : Type} {l : List α} {i : Nat} {a b : α} (h : b ∈ l.set i a) : b ∈ l ∨ b = a := List.mem_or_eq_of_mem_set h

def wtC (c : CellD) : Nat := if 0 < c.count then c.fields.length else 0
def wtH (h : List CellD) : Nat := (h.map wtC).sum
theorem wtH_le {h : List CellD} (hf : ∀ c ∈ h, c.fields.length ≤ 3) : wtH h ≤ 3 * h.length := by
  induction h with
  | nil => simp [wtH]
  | cons c r ih =>
    have h1 := hf c List.mem_cons_self
    have h2 := ih fun c hc => hf c (List.mem_cons_of_mem _ hc)
    simp only [wtH, wtC, List.map_cons, List.sum_cons, List.length_cons] at *
    split <;> omega
def PtrIn (n : Nat) (l : List Int) : Prop := ∀ f ∈ l, 1000 ≤ f → f - 1000 < n
/-- cells that came out of h by giving up -/
def From (h h' : List CellD) : Prop := h'.length ≤ h.length ∧ ∀ c ∈ h', (c.count ≤ 0 ∧ c.fields = []) ∨ ∃ c0 ∈ h, c.count ≤ c0.count ∧ c.fields = c0.fields

section
variable {u v w : World} {x y xf : Sl} {l m fs : List Int} {h : List CellD} {n k : Int} {a : Addr} {I J L R : Items} {F : Items → Items}

theorem c_AllocCell (hx : Read v x h) (hf : Read v xf fs) (hn : InI n) (hl : h.length < 1099511627776) :
    Mk Try.prog 107 #[x.val, .int .i64 n, xf.val] v fun r J => ∃ y : Sl, r = .tuple #[y.val, .int .i64 (allocL h n fs).2] ∧ OwnD y (allocL h n fs).1 J := by
  have hfn := hf.n
  have hfl := hf.le
  have bad : ∀ w I, St v w (I ++ []) → (vheapB h && fs.all (word h) && vheapB (placeL h (freeIdx h) ⟨1, n, fs⟩)) = false →
      ∃ J, St v w J ∧ ∃ y : Sl, Value.tuple #[.slice none 0 0, .int .i64 0] = .tuple #[y.val, .int .i64 (allocL h n fs).2] ∧ OwnD y (allocL h n fs).1 J := by
    intro w I hS hh
    rw [allocL, if_neg (by rw [hh]; exact Bool.false_ne_true)]
    exact ⟨I, by simpa using hS, ⟨none, 0, 0⟩, rfl, .nilE _⟩
  refine of107 _ _ _ _ _ ?_
  unfold vc107
  refine ⟨_, c_validHeap hx, fun hv => ?_, fun hv => ?_⟩
  · simp only [decide_eq_true_eq, decide_eq_false_iff_not, Bool.and_eq_true, Bool.and_eq_false_iff, Bool.or_eq_true, Bool.or_eq_false_iff, Bool.not_eq_true', Bool.not_eq_false', Bool.not_true, Bool.not_false, Bool.false_eq_true, Bool.true_eq_false, Int.not_lt, Int.not_le, ge_iff_le, gt_iff_lt, Bool.not_eq_eq_eq_not, Bool.true_or, Bool.or_true, Bool.false_or, Bool.or_false, Bool.true_and, Bool.and_true, false_or, or_false, true_and, and_true, Decidable.not_not] at hv
    exact bad v [] (.refl v) (by rw [hv]; rfl)
  simp only [decide_eq_true_eq, decide_eq_false_iff_not, Bool.and_eq_true, Bool.and_eq_false_iff, Bool.or_eq_true, Bool.or_eq_false_iff, Bool.not_eq_true', Bool.not_eq_false', Bool.not_true, Bool.not_false, Bool.false_eq_true, Bool.true_eq_false, Int.not_lt, Int.not_le, ge_iff_le, gt_iff_lt, Bool.not_eq_eq_eq_not, Bool.true_or, Bool.or_true, Bool.false_or, Bool.or_false, Bool.true_and, Bool.and_true, false_or, or_false, true_and, and_true, Decidable.not_not] at hv
  refine ⟨_, c_freeIndex hx, ?_⟩
  refine ⟨fun i w => St v w [] ∧ 0 ≤ i ∧ i ≤ fs.length ∧ ∀ g ∈ fs.take i.toNat, word h g = true, fun i _ => (fs.length - i).toNat, ⟨.refl v, by omega, by omega, by simp⟩, ?_⟩
  rintro i w ⟨hS, h0, h1, h2⟩
  dsimp only
  refine ⟨fun hi => ?_, fun hi => ?_⟩
  · simp only [decide_eq_true_eq, decide_eq_false_iff_not, Bool.and_eq_true, Bool.and_eq_false_iff, Bool.or_eq_true, Bool.or_eq_false_iff, Bool.not_eq_true', Bool.not_eq_false', Bool.not_true, Bool.not_false, Bool.false_eq_true, Bool.true_eq_false, Int.not_lt, Int.not_le, ge_iff_le, gt_iff_lt, Bool.not_eq_eq_eq_not, Bool.true_or, Bool.or_true, Bool.false_or, Bool.or_false, Bool.true_and, Bool.and_true, false_or, or_false, true_and, and_true, Decidable.not_not] at hi
    refine go_ix hf h0 (by omega) ?_
    refine ld_int (hf.mono hS.sub) h0 (by omega) ?_
    intro a0 a1
    refine ⟨_, c_isWord (hx.mono hS.sub) ⟨a0, a1⟩, fun hw => ?_, fun hw => ?_⟩
    · simp only [decide_eq_true_eq, decide_eq_false_iff_not, Bool.and_eq_true, Bool.and_eq_false_iff, Bool.or_eq_true, Bool.or_eq_false_iff, Bool.not_eq_true', Bool.not_eq_false', Bool.not_true, Bool.not_false, Bool.false_eq_true, Bool.true_eq_false, Int.not_lt, Int.not_le, ge_iff_le, gt_iff_lt, Bool.not_eq_eq_eq_not, Bool.true_or, Bool.or_true, Bool.false_or, Bool.or_false, Bool.true_and, Bool.and_true, false_or, or_false, true_and, and_true, Decidable.not_not] at hw
      refine bad w [] hS ?_
      have : fs.all (word h) = false := by
        rw [List.all_eq_false]
        exact ⟨_, nth_mem h0 (by omega), by rw [hw]; exact Bool.false_ne_true⟩
      rw [this]; simp
    · simp only [decide_eq_true_eq, decide_eq_false_iff_not, Bool.and_eq_true, Bool.and_eq_false_iff, Bool.or_eq_true, Bool.or_eq_false_iff, Bool.not_eq_true', Bool.not_eq_false', Bool.not_true, Bool.not_false, Bool.false_eq_true, Bool.true_eq_false, Int.not_lt, Int.not_le, ge_iff_le, gt_iff_lt, Bool.not_eq_eq_eq_not, Bool.true_or, Bool.or_true, Bool.false_or, Bool.or_false, Bool.true_and, Bool.and_true, false_or, or_false, true_and, and_true, Decidable.not_not] at hw
      refine go_wr (by omega) (by omega) ?_
      refine ⟨⟨hS, by omega, by omega, ?_⟩, by omega⟩
      rw [take_nth h0 (by omega)]; intro k hk
      rcases List.mem_append.1 hk with hk | hk
      · exact h2 k hk
      · rw [List.mem_singleton.1 hk]; exact hw
  · simp only [decide_eq_true_eq, decide_eq_false_iff_not, Bool.and_eq_true, Bool.and_eq_false_iff, Bool.or_eq_true, Bool.or_eq_false_iff, Bool.not_eq_true', Bool.not_eq_false', Bool.not_true, Bool.not_false, Bool.false_eq_true, Bool.true_eq_false, Int.not_lt, Int.not_le, ge_iff_le, gt_iff_lt, Bool.not_eq_eq_eq_not, Bool.true_or, Bool.or_true, Bool.false_or, Bool.or_false, Bool.true_and, Bool.and_true, false_or, or_false, true_and, and_true, Decidable.not_not] at hi
    rw [take_all (by omega)] at h2
    have hfree := freeIdx_le h
    refine Mk.use (c_copyHeap hx) hS ?_
    rintro _ w2 J ⟨y, rfl, hO⟩ hS hsub
    refine ⟨_, rfl, ?_⟩
    refine Trip.mono' (c_place (k := freeIdx h) (n := n) hO hS (hf.mono hS.sub) (by omega) (by omega) hn hl) ?_
    rintro _ w3 ⟨z, I3, rfl, hO3, hS⟩
    refine ⟨_, rfl, ?_⟩
    refine ⟨_, c_validHeap (OwnD.read hO3 hS), fun hv2 => ?_, fun hv2 => ?_⟩
    · simp only [decide_eq_true_eq, decide_eq_false_iff_not, Bool.and_eq_true, Bool.and_eq_false_iff, Bool.or_eq_true, Bool.or_eq_false_iff, Bool.not_eq_true', Bool.not_eq_false', Bool.not_true, Bool.not_false, Bool.false_eq_true, Bool.true_eq_false, Int.not_lt, Int.not_le, ge_iff_le, gt_iff_lt, Bool.not_eq_eq_eq_not, Bool.true_or, Bool.or_true, Bool.false_or, Bool.or_false, Bool.true_and, Bool.and_true, false_or, or_false, true_and, and_true, Decidable.not_not] at hv2
      exact bad w3 I3 hS (by rw [hv2]; simp)
    · simp only [decide_eq_true_eq, decide_eq_false_iff_not, Bool.and_eq_true, Bool.and_eq_false_iff, Bool.or_eq_true, Bool.or_eq_false_iff, Bool.not_eq_true', Bool.not_eq_false', Bool.not_true, Bool.not_false, Bool.false_eq_true, Bool.true_eq_false, Int.not_lt, Int.not_le, ge_iff_le, gt_iff_lt, Bool.not_eq_eq_eq_not, Bool.true_or, Bool.or_true, Bool.false_or, Bool.or_false, Bool.true_and, Bool.and_true, false_or, or_false, true_and, and_true, Decidable.not_not] at hv2
      refine go_wr (by omega) (by omega) ?_
      refine ⟨I3, by simpa using hS, z, ?_⟩
      rw [allocL, if_pos (by rw [hv, hv2, List.all_eq_true.2 h2]; rfl)]
      exact ⟨rfl, hO3⟩

theorem c_dropWords (hO : OwnD x h I) (hS : St u w L) [p : Pos I L R F] (hy : Read w y l) (h3 : ∀ c ∈ h, c.fields.length ≤ 3) (hc : ∀ c ∈ h, -1 ≤ c.count) (hp : ∀ c ∈ h, PtrIn h.length c.fields) (hpl : PtrIn h.length l)
    (hl : h.length ≤ 1000000000) (hll : l.length ≤ 1000000000) :
    Trip Try.prog 114 #[x.val, y.val] w fun r w' => ∃ z h' I', r = z.val ∧ OwnD z h' I' ∧ St u w' (I' ++ R) ∧ From h h' := by
  replace hS := hS.front (I := I)
  refine of114 _ _ _ _ ?_
  unfold vc114
  refine Mk.usew (c_copyInts hy) hS ?_
  rintro _ w2 J ⟨z, rfl, hZ⟩ hS hsub
  replace hZ : Own u z l J := hZ.ofInts
  refine ⟨_, rfl, ?_⟩
  have hw3 := wtH_le h3
  let Inv : Nat → Sl → World → Prop := fun n z w => ∃ (h' : List CellD) (t : List Int), ∃ I J, OwnD x h' I ∧ Own u z t J ∧ St u w (J ++ (I ++ R)) ∧ h'.length = h.length ∧ From h h' ∧ (∀ c ∈ h', c.fields.length ≤ 3) ∧ (∀ c ∈ h', PtrIn h.length c.fields) ∧ PtrIn h.length t ∧
      t.length + wtH h' = n ∧ n ≤ 4000000000 ∧ (∀ c ∈ h', -4000000001 + (n : Int) ≤ c.count)
  refine ⟨fun z w => ∃ n, Inv n z w, fun z w => leastM (fun n => Inv n z w), ⟨_, h, l, I, J, hO, hZ, hS, rfl, ⟨Nat.le_refl _, fun c hc => .inr ⟨c, hc, Int.le_refl _, rfl⟩⟩, h3, hp, hpl, rfl, by omega, fun c hh => by have := hc c hh; omega⟩, ?_⟩
  clear hZ hS hO
  rintro z w hI
  replace hI := leastM_spec hI
  dsimp only
  generalize leastM (fun n => Inv n z w) = n at *
  obtain ⟨h', t, I, J, hO, hZ, hS, hlen, hF, hf3, hpf, hpt, hM, hM2, hcnt⟩ := hI
  have hzn := hZ.n
  have hzl := hZ.le
  have hon := hO.n
  refine ⟨fun hi => ?_, fun hi => ?_⟩
  · simp only [decide_eq_true_eq, decide_eq_false_iff_not, Bool.and_eq_true, Bool.and_eq_false_iff, Bool.or_eq_true, Bool.or_eq_false_iff, Bool.not_eq_true', Bool.not_eq_false', Bool.not_true, Bool.not_false, Bool.false_eq_true, Bool.true_eq_false, Int.not_lt, Int.not_le, ge_iff_le, gt_iff_lt, Bool.not_eq_eq_eq_not, Bool.true_or, Bool.or_true, Bool.false_or, Bool.or_false, Bool.true_and, Bool.and_true, false_or, or_false, true_and, and_true, Decidable.not_not] at hi
    refine go_wr (by omega) (by omega) ?_
    refine go_oix hZ (by omega) (by omega) ?_
    refine ld_int (Own.read hZ hS) (by omega) (by omega) ?_
    intro b0 b1
    obtain ⟨ws0, at_, rfl⟩ : ∃ ws0 at_, t = ws0 ++ [at_] := by
      have hne : t ≠ [] := fun e => by rw [e] at hzn; simp at hzn; omega
      exact ⟨_, _, (List.dropLast_concat_getLast hne).symm⟩
    have hnth : nth (ws0 ++ [at_]) ((z.n : Int) - 1) = at_ := by
      refine nth_of ?_
      rw [hzn]; simp
    rw [hnth] at b0 b1 ⊢
    have hcut := hZ.cut (lo := 0) (hi := (z.n : Int) - 1) (by omega) (by omega) (by omega)
    have hct : ((ws0 ++ [at_]).take ((z.n : Int) - 1).toNat).drop (0 : Int).toNat = ws0 := by
      rw [hzn]; simp
    rw [hct] at hcut
    have hp0 : PtrIn h.length ws0 := fun f hf => hpt f (List.mem_append_left _ hf)
    have hpa : 1000 ≤ at_ → at_ - 1000 < h.length := hpt at_ (by simp)
    have hl0 : (ws0 ++ [at_]).length = ws0.length + 1 := by simp
    refine go_wr (by omega) (by omega) ?_
    refine ⟨⟨by omega, by omega, ?_⟩, _, c_isPointer, fun hq => ?_, fun hq => ?_⟩
    · obtain ⟨_, hr, _⟩ := Own.read hZ hS; have := hr.2.1; omega
    · simp only [decide_eq_true_eq, decide_eq_false_iff_not, Bool.and_eq_true, Bool.and_eq_false_iff, Bool.or_eq_true, Bool.or_eq_false_iff, Bool.not_eq_true', Bool.not_eq_false', Bool.not_true, Bool.not_false, Bool.false_eq_true, Bool.true_eq_false, Int.not_lt, Int.not_le, ge_iff_le, gt_iff_lt, Bool.not_eq_eq_eq_not, Bool.true_or, Bool.or_true, Bool.false_or, Bool.or_false, Bool.true_and, Bool.and_true, false_or, or_false, true_and, and_true, Decidable.not_not] at hq
      have hpa := hpa hq
      have hmem := nth_mem (l := h') (i := at_ - 1000) (by omega) (by omega)
      have hcl := hcnt _ hmem
      refine go_wr (by omega) (by omega) ?_
      refine ⟨hO.ix (by omega) (by omega), ?_⟩
      refine ld_count (OwnD.src hO hS) (by omega) (by omega) ?_
      intro c0 c1
      refine go_wr (by omega) (by omega) ?_
      have hin1 : InI ((nth h' (at_ - 1000)).count - 1) := ⟨by omega, by omega⟩
      refine ⟨hO.ix (by omega) (by omega), ?_⟩
      refine OwnD.store hO hS (by omega) (by omega) (⟨(nth h' (at_ - 1000)).count - 1, (nth h' (at_ - 1000)).tag, (nth h' (at_ - 1000)).fields⟩ : CellD) [] (Nat.le_of_ble_eq_true rfl) (fun r K hr => ?_) ?_
      · obtain ⟨f, rfl, q1, q2, q3⟩ := hr
        exact ⟨K, ⟨f, rfl, hin1, q2, q3⟩, .inr ⟨rfl, rfl⟩⟩
      intro w2 I2 hO2 hS
      rw [List.append_nil] at hO2
      have hsum := sum_set wtC (l := h') (i := at_ - 1000) (a := (⟨(nth h' (at_ - 1000)).count - 1, (nth h' (at_ - 1000)).tag, (nth h' (at_ - 1000)).fields⟩ : CellD)) (by omega) (by omega)
      have hnw : nth (h'.set (at_ - 1000).toNat (⟨(nth h' (at_ - 1000)).count - 1, (nth h' (at_ - 1000)).tag, (nth h' (at_ - 1000)).fields⟩ : CellD)) (at_ - 1000) = ⟨(nth h' (at_ - 1000)).count - 1, (nth h' (at_ - 1000)).tag, (nth h' (at_ - 1000)).fields⟩ := by
        rw [nth_set _ _ _ _ (by omega) (by omega) (by omega), if_pos rfl]
      generalize hce : nth h' (at_ - 1000) = c at *
      refine ⟨hO2.ix (by omega) (by simp; omega), ?_⟩
      refine ld_count (OwnD.src hO2 hS) (by omega) (by simp; omega) ?_
      rw [hnw]
      intro _ _
      refine ⟨fun hz => ?_, fun hz => ?_⟩
      · simp only [decide_eq_true_eq, decide_eq_false_iff_not, Bool.and_eq_true, Bool.and_eq_false_iff, Bool.or_eq_true, Bool.or_eq_false_iff, Bool.not_eq_true', Bool.not_eq_false', Bool.not_true, Bool.not_false, Bool.false_eq_true, Bool.true_eq_false, Int.not_lt, Int.not_le, ge_iff_le, gt_iff_lt, Bool.not_eq_eq_eq_not, Bool.true_or, Bool.or_true, Bool.false_or, Bool.or_false, Bool.true_and, Bool.and_true, false_or, or_false, true_and, and_true, Decidable.not_not] at hz
        have hc1 : c.count = 1 := by omega
        refine ⟨hO2.ix (by omega) (by simp; omega), ?_⟩
        refine ld_fields (OwnD.src hO2 hS) (by omega) (by simp; omega) ?_
        rw [hnw]
        intro f hf
        replace hf : ReadB BB w2 f c.fields := hf
        have hf3c := hf3 c hmem
        have hwtc : wtC c = c.fields.length := by simp [wtC, hc1]
        have hwl := sum_set wtC (l := h') (i := at_ - 1000) (a := (⟨0, 0, []⟩ : CellD)) (by omega) (by omega)
        rw [hce] at hwl
        have hwz : wtC (⟨0, 0, []⟩ : CellD) = 0 := rfl
        refine Own.append hcut hS (Src.ofInts hf) (by omega) (by decide) ?_
        intro x5 w5 I5 hO5 hS
        refine ⟨_, rfl, ?_⟩
        refine St.build (α := Int) hS (by (repeat' (first | exact VsOf.nil | apply VsOf.cons | (apply VOf.int; first | assumption | (constructor <;> first | omega | (simp only [List.length_set, List.length_append, List.length_replicate, List.length_cons, List.length_nil, List.length_take, List.length_drop, List.length_map, List.length_singleton] at *; omega))) | exact VOf.bool | exact VOf.str))) rfl (by decide) ?_
        intro x6 w6 I6 hO6 hS hs
        refine ⟨_, rfl, hO2.ix (by omega) (by simp; omega), ?_⟩
        refine OwnD.store hO2 hS (by omega) (by simp; omega) (⟨0, 0, []⟩ : CellD) I6 (Nat.le_refl 3) (fun r K hr => ?_) ?_
        · obtain ⟨f, rfl, q1, q2, q3⟩ := hr
          exact ⟨I6, ⟨x6, rfl, ⟨by show _ ≤ (0 : Int); omega, by show (0 : Int) ≤ _; omega⟩, ⟨by show _ ≤ (0 : Int); omega, by show (0 : Int) ≤ _; omega⟩, hO6.toAll⟩, .inl rfl⟩
        intro w7 I7 hO7 hS
        rw [List.set_set] at hO7
        refine loopEnd (k := (ws0 ++ c.fields).length + wtH (h'.set (at_ - 1000).toNat (⟨0, 0, []⟩ : CellD))) ⟨_, _, _, _, hO7, hO5, by rw [List.append_assoc]; exact hS.to, by simpa using hlen, ⟨by simp; omega, ?_⟩, ?_, ?_, ?_, rfl, ?_, ?_⟩ ?_
        · intro b hb
          rcases mem_set_of hb with hb | hb
          · exact hF.2 b hb
          · exact .inl (by rw [hb]; exact ⟨Int.le_refl _, rfl⟩)
        · intro b hb
          rcases mem_set_of hb with hb | hb
          · exact hf3 b hb
          · rw [hb]; simp
        · intro b hb
          rcases mem_set_of hb with hb | hb
          · exact hpf b hb
          · rw [hb]; intro f hf; cases hf
        · intro g hg
          rcases List.mem_append.1 hg with hg | hg
          · exact hp0 g hg
          · exact hpf c hmem g hg
        · unfold wtH at *; rw [List.length_append]; omega
        · intro b hb
          unfold wtH at *
          rw [List.length_append]
          rcases mem_set_of hb with hb | hb
          · have := hcnt b hb; omega
          · rw [hb]; show _ ≤ (0 : Int); omega
        · unfold wtH at *; rw [List.length_append]; omega
      · simp only [decide_eq_true_eq, decide_eq_false_iff_not, Bool.and_eq_true, Bool.and_eq_false_iff, Bool.or_eq_true, Bool.or_eq_false_iff, Bool.not_eq_true', Bool.not_eq_false', Bool.not_true, Bool.not_false, Bool.false_eq_true, Bool.true_eq_false, Int.not_lt, Int.not_le, ge_iff_le, gt_iff_lt, Bool.not_eq_eq_eq_not, Bool.true_or, Bool.or_true, Bool.false_or, Bool.or_false, Bool.true_and, Bool.and_true, false_or, or_false, true_and, and_true, Decidable.not_not] at hz
        have hwt2 : wtC (⟨c.count - 1, c.tag, c.fields⟩ : CellD) = wtC c := by
          simp only [wtC]; split <;> split <;> omega
        refine loopEnd (k := ws0.length + wtH (h'.set (at_ - 1000).toNat (⟨c.count - 1, c.tag, c.fields⟩ : CellD))) ⟨_, _, _, _, hO2, hcut, hS.to, by simpa using hlen, ⟨by simp; omega, ?_⟩, ?_, ?_, hp0, rfl, ?_, ?_⟩ ?_
        · intro b hb
          rcases mem_set_of hb with hb | hb
          · exact hF.2 b hb
          · rcases hF.2 c hmem with ⟨h1, h2⟩ | ⟨c0, h1, h2, h3⟩
            · exact .inl (by rw [hb]; exact ⟨by show c.count - 1 ≤ 0; omega, h2⟩)
            · exact .inr ⟨c0, h1, by rw [hb]; show c.count - 1 ≤ _; omega, by rw [hb]; exact h3⟩
        · intro b hb
          rcases mem_set_of hb with hb | hb
          · exact hf3 b hb
          · rw [hb]; exact hf3 c hmem
        · intro b hb
          rcases mem_set_of hb with hb | hb
          · exact hpf b hb
          · rw [hb]; exact hpf c hmem
        · unfold wtH at *; omega
        · intro b hb
          unfold wtH at *
          rcases mem_set_of hb with hb | hb
          · have := hcnt b hb; omega
          · rw [hb]; show _ ≤ c.count - 1; omega
        · unfold wtH at *; omega
    · refine loopEnd (k := ws0.length + wtH h') ⟨_, _, _, _, hO, hcut, hS, hlen, hF, hf3, hpf, hp0, rfl, by omega, fun b hb => by have := hcnt b hb; omega⟩ (by omega)
  · refine Trip.mono' (c_trim hO hS) ?_
    rintro _ w3 ⟨z, rfl, hO3, hS⟩
    refine ⟨_, rfl, z, _, I, rfl, hO3, hS.to, ?_⟩
    have ht : ∀ c ∈ trimL h', c ∈ h' := fun c hc => by
      unfold trimL at hc
      exact List.mem_reverse.1 ((List.dropWhile_sublist _).mem (List.mem_reverse.1 hc))
    have htl : (trimL h').length ≤ h'.length := by
      unfold trimL
      rw [List.length_reverse]
      have := (List.dropWhile_sublist (fun c : CellD => c.count == 0) (l := h'.reverse)).length_le
      simpa using this
    exact ⟨by omega, fun c hc => hF.2 c (ht c hc)⟩
end
end Go.Vc
