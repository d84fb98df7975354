/- Data that is owned to its leaves. -/
import Derived.Test.YtmmkfmmcmjpcgaaBHp3
namespace Go.Vc
open Go Go.RowKit
set_option linter.all false

class DatO (α : Type) extends Dat α where
  own : List Value → α → Items → Prop
  read : ∀ {w : World} {cs : List Value} {a : α} {I : Items}, own cs a I → AtAll w I → cells BB w cs a

/-- a slice whose elements, and what they hold, lie in blocks of one's own -/
def OwnD {α : Type} [DatO α] (x : Sl) (l : List α) (I : Items) : Prop :=
  ∃ (rows : List (List Value)) (I0 : Items) (Is : List Items) (E : Items), OSl (Dat.sz α) x rows I0 ∧ rows.length = l.length ∧ Is.length = l.length ∧
    (∀ (i : Nat) (r : List Value) (a : α) (K : Items), rows[i]? = some r → l[i]? = some a → Is[i]? = some K → DatO.own r a K) ∧ I.Perm (I0 ++ (Is.flatten ++ E)) ∧ l.length ≤ BB

theorem perm_flatten_mid {Is : List Items} {i : Nat} {K : Items} (h : Is[i]? = some K) : Is.flatten.Perm (K ++ (Is.take i ++ Is.drop (i + 1)).flatten) := by
  obtain ⟨hlt, e⟩ := List.getElem?_eq_some_iff.1 h
  subst e
  have : Is = Is.take i ++ (Is[i] :: Is.drop (i + 1)) := by
    rw [List.getElem_cons_drop hlt, List.take_append_drop]
  conv => lhs; rw [this]
  simp only [List.flatten_append, List.flatten_cons]
  rw [← List.append_assoc, ← List.append_assoc]
  exact List.perm_append_comm.append_right _
theorem set_flatten_mid {Is : List Items} {i : Nat} {K K' : Items} (h : Is[i]? = some K) : (Is.set i K').flatten.Perm (K' ++ (Is.take i ++ Is.drop (i + 1)).flatten) := by
  obtain ⟨hlt, e⟩ := List.getElem?_eq_some_iff.1 h
  have h2 : (Is.set i K')[i]? = some K' := by simp [hlt]
  have := perm_flatten_mid h2
  rwa [List.take_set_of_le (Nat.le_refl _), List.drop_set_of_lt (by omega)] at this

section
variable {α : Type} [DatO α] {u w w' : World} {x y : Sl} {l : List α} {L I J R : Items} {F : Items → Items}

theorem OwnD.n (h : OwnD x l I) : x.n = l.length := let ⟨_, _, _, _, h1, h2, _⟩ := h; h1.len.trans h2
theorem OwnD.le (h : OwnD x l I) : l.length ≤ 1099511627776 := let ⟨_, _, _, _, _, _, _, _, _, h⟩ := h; h
theorem OwnD.perm {I' : Items} (h : OwnD x l I) (hp : I'.Perm I) : OwnD x l I' := let ⟨a, b, c, d, h1, h2, h3, h4, h5, h6⟩ := h; ⟨a, b, c, d, h1, h2, h3, h4, hp.trans h5, h6⟩
theorem OwnD.nil : OwnD ⟨none, 0, 0⟩ ([] : List α) [] := ⟨[], [], [], [], .nil, rfl, rfl, fun i r a K h => by simp at h, by simp, Nat.zero_le _⟩
/-- all of it lies at w -/
theorem OwnD.readA (h : OwnD x l I) (hA : AtAll w I) : Read w x l := by
  obtain ⟨rows, I0, Is, E, h1, h2, h3, h4, h5, h6⟩ := h
  have hA' := hA.perm h5.symm
  refine ⟨rows, h1.rd fun p hp => hA' p (List.mem_append_left _ hp), ⟨h2, fun i r a hr ha => ?_⟩, h6⟩
  have hlt : i < Is.length := by rcases Nat.lt_or_ge i rows.length with hl | hg; omega; rw [List.getElem?_eq_none hg] at hr; cases hr
  refine DatO.read (h4 i r a _ hr ha (List.getElem?_eq_getElem hlt)) fun p hp => hA' p (List.mem_append_right _ (List.mem_append_left _ ?_))
  exact List.mem_flatten.2 ⟨_, List.getElem_mem hlt, hp⟩
theorem OwnD.read (h : OwnD x l I) (hS : St u w L) [p : Pos I L R F] : Read w x l := h.readA hS.items
theorem OwnD.read1 (h : OwnD x l I) (hS : St u w I) : Read w x l := h.readA hS.at_
theorem OwnD.src (h : OwnD x l I) (hS : St u w L) [p : Pos I L R F] : Src w w x l := (h.read hS).src (.refl w)
theorem OwnD.ix (h : OwnD x l I) {i : Int} (h0 : 0 ≤ i) (h1 : i < l.length) : IxOk x i := by
  obtain ⟨rows, I0, Is, E, k1, k2, _⟩ := h
  cases k1 with
  | nil => simp at k2; omega
  | blk g o n c cur e _ hn hc hm hs hr => exact ⟨rfl, h0, by simp only [] at *; omega⟩

/-- one element is taken out, and put back turned -/
theorem OwnD.borrow [Inhabited α] (h : OwnD x l I) {i : Int} (h0 : 0 ≤ i) (h1 : i < l.length) :
    ∃ (r : List Value) (K Rest : Items), DatO.own r (nth l i) K ∧ I.Perm (K ++ Rest) ∧ (∀ w : World, AtAll w Rest → ∀ (j : Nat) (v : Value), r[j]? = some v → w.cell? ((elA x i (Dat.sz α)).add j) = some v) ∧
      ∀ (a' : α) (K' : Items), DatO.own r a' K' → OwnD x (l.set i.toNat a') (K' ++ Rest) := by
  obtain ⟨rows, I0, Is, E, k1, k2, k3, k4, k5, k6⟩ := h
  have hr : i.toNat < rows.length := by omega
  have hI : i.toNat < Is.length := by omega
  have er := List.getElem?_eq_getElem hr
  have eI := List.getElem?_eq_getElem hI
  have ep := perm_flatten_mid eI
  have hp : I.Perm (Is[i.toNat] ++ (I0 ++ ((Is.take i.toNat ++ Is.drop (i.toNat + 1)).flatten ++ E))) := by
    classical
    exact List.perm_iff_count.2 fun a => by have h1 := k5.count_eq a; have h2 := ep.count_eq a; simp only [List.count_append] at *; omega
  refine ⟨rows[i.toNat], Is[i.toNat], _, k4 _ _ _ _ er (nth_get h0 h1) eI, hp, fun w hA j v hv => ?_, fun a' K' ho => ?_⟩
  · have := (k1.rd (w := w) fun p hp => hA p (List.mem_append_left _ hp)).at_ h0 er hv
    exact this
  · refine ⟨rows, I0, Is.set i.toNat K', E, k1, by simpa using k2, by simpa using k3, fun j r a K hr' ha' hK' => ?_, ?_, by simpa using k6⟩
    · rw [List.getElem?_set] at ha' hK'
      by_cases e : i.toNat = j
      · subst e
        rw [if_pos rfl, if_pos (by omega)] at ha' hK'
        simp only [Option.some.injEq] at ha' hK'
        subst ha'; subst hK'
        rw [er] at hr'
        simp only [Option.some.injEq] at hr'
        subst hr'
        exact ho
      · rw [if_neg e] at ha' hK'
        exact k4 j r a K hr' ha' hK'
    · have es := set_flatten_mid (K' := K') eI
      classical
      exact List.perm_iff_count.2 fun a => by have h2 := es.count_eq a; simp only [List.count_append] at *; omega

/-- cells of one element are stored; what it holds goes from K to K' -/
theorem OwnD.store [Inhabited α] (h : OwnD x l I) (hS : St u w L) [p : Pos I L R F] {i : Int} (h0 : 0 ≤ i) (h1 : i < l.length) {off : Nat} {vals : List Value} {Kt : World → Prop} (a : α) (J : Items)
    (hv : off + vals.length ≤ Dat.sz α)
    (hc : ∀ r K, DatO.own r (nth l i) K → ∃ K', DatO.own (putR r off vals) a K' ∧ (K' = J ∨ (J = [] ∧ K' = K)))
    (k : ∀ w' I', OwnD x (l.set i.toNat a) (I' ++ J) → St u w' (I' ++ R) → Kt w') : StoreAt w (elA x i (Dat.sz α)) off vals Kt := by
  obtain ⟨rows, I0, Is, E, k1, k2, k3, k4, k5, k6⟩ := h
  have hr : i.toNat < rows.length := by omega
  have hI : i.toNat < Is.length := by omega
  have er := List.getElem?_eq_getElem hr
  have eI := List.getElem?_eq_getElem hI
  have ep := perm_flatten_mid eI
  have hS' : St u w (I0 ++ (Is.flatten ++ E ++ R)) := (hS.perm p.perm.symm).perm (by rw [← List.append_assoc]; exact (k5.symm).append_right R)
  obtain ⟨c1, I', c2, c3⟩ := k1.store hS' h0 er hv
  obtain ⟨K', ho, hK⟩ := hc _ _ (k4 _ _ _ _ er (nth_get h0 h1) eI)
  refine ⟨c1, k _ (I' ++ (Is.flatten ++ E)) ?_ (by simpa using c3)⟩
  have hels : ∀ (Kx : Items), DatO.own (putR rows[i.toNat] off vals) a Kx → ∀ (j : Nat) (r : List Value) (b : α) (K : Items), (rows.set i.toNat (putR rows[i.toNat] off vals))[j]? = some r → (l.set i.toNat a)[j]? = some b → (Is.set i.toNat Kx)[j]? = some K → DatO.own r b K := by
    intro Kx hKx j r b K hr' ha' hK'
    rw [List.getElem?_set] at ha' hK' hr'
    by_cases e : i.toNat = j
    · subst e
      rw [if_pos rfl, if_pos (by omega)] at ha' hK' hr'
      simp only [Option.some.injEq] at ha' hK' hr'
      subst ha'; subst hK'; subst hr'
      exact hKx
    · rw [if_neg e] at ha' hK' hr'
      exact k4 j r b K hr' ha' hK'
  have es := set_flatten_mid (K' := K') eI
  rcases hK with rfl | ⟨rfl, rfl⟩
  · refine ⟨_, I', _, Is[i.toNat] ++ E, c2, by simpa using k2, by simp [k3], hels _ ho, ?_, by simpa using k6⟩
    classical
    exact List.perm_iff_count.2 fun a => by have h1 := ep.count_eq a; have h2 := es.count_eq a; simp only [List.count_append] at *; omega
  · refine ⟨_, I', Is.set i.toNat Is[i.toNat], E, c2, by simpa using k2, by simp [k3], hels _ ho, ?_, by simpa using k6⟩
    rw [List.append_nil]
    exact List.Perm.append_left I' (List.Perm.append_right E (ep.trans es.symm))

/-- what one element holds is set apart; its row may be stored anew -/
theorem OwnD.apart [Inhabited α] (h : OwnD x l I) {i : Int} (h0 : 0 ≤ i) (h1 : i < l.length) :
    ∃ (r : List Value) (K Rest : Items), DatO.own r (nth l i) K ∧ I.Perm (K ++ Rest) ∧ (∀ w : World, AtAll w Rest → ∀ (j : Nat) (v : Value), r[j]? = some v → w.cell? ((elA x i (Dat.sz α)).add j) = some v) ∧
      ∀ {u w : World} {L R : Items} {F : Items → Items} {off : Nat} {vals : List Value} {a : α} {J : Items} {Kt : World → Prop}, St u w L → ∀ [p : Pos Rest L R F], off + vals.length ≤ Dat.sz α → DatO.own (putR r off vals) a J →
        (∀ w' Rest', OwnD x (l.set i.toNat a) (Rest' ++ J) → St u w' (Rest' ++ R) → Kt w') → StoreAt w (elA x i (Dat.sz α)) off vals Kt := by
  obtain ⟨rows, I0, Is, E, k1, k2, k3, k4, k5, k6⟩ := h
  have hr : i.toNat < rows.length := by omega
  have hI : i.toNat < Is.length := by omega
  have er := List.getElem?_eq_getElem hr
  have eI := List.getElem?_eq_getElem hI
  have ep := perm_flatten_mid eI
  have hp : I.Perm (Is[i.toNat] ++ (I0 ++ ((Is.take i.toNat ++ Is.drop (i.toNat + 1)).flatten ++ E))) := by
    classical
    exact List.perm_iff_count.2 fun a => by have h1 := k5.count_eq a; have h2 := ep.count_eq a; simp only [List.count_append] at *; omega
  refine ⟨rows[i.toNat], Is[i.toNat], _, k4 _ _ _ _ er (nth_get h0 h1) eI, hp, fun w hA j v hv => ?_, ?_⟩
  · exact (k1.rd (w := w) fun p hp => hA p (List.mem_append_left _ hp)).at_ h0 er hv
  · intro u w L R F off vals a J Kt hS p hv ho k
    have hS' : St u w (I0 ++ (((Is.take i.toNat ++ Is.drop (i.toNat + 1)).flatten ++ E) ++ R)) := by have := hS.perm p.perm.symm; simpa using this
    obtain ⟨c1, I', c2, c3⟩ := k1.store hS' h0 er hv
    refine ⟨c1, k _ (I' ++ ((Is.take i.toNat ++ Is.drop (i.toNat + 1)).flatten ++ E)) ⟨_, I', Is.set i.toNat J, E, c2, by simpa using k2, by simpa using k3, fun j r b K hr' ha' hK' => ?_, ?_, by simpa using k6⟩ (by simpa using c3)⟩
    · rw [List.getElem?_set] at ha' hK' hr'
      by_cases e : i.toNat = j
      · subst e
        rw [if_pos rfl, if_pos (by omega)] at ha' hK' hr'
        simp only [Option.some.injEq] at ha' hK' hr'
        subst ha'; subst hK'; subst hr'
        exact ho
      · rw [if_neg e] at ha' hK' hr'
        exact k4 j r b K hr' ha' hK'
    · have es := set_flatten_mid (K' := J) eI
      classical
      exact List.perm_iff_count.2 fun a => by have h2 := es.count_eq a; simp only [List.count_append] at *; omega

/-- append(x, a): a row that is owned goes in -/
theorem OwnD.push {P : Program} {t ty : TypeId} {bytes : Nat} {zc : List Value} [hT : SlT P t (Dat.sz α) bytes zc] {cs : List Value} {a : α} (h : OwnD x l I) (hS : St u w L) [p : Pos I L R F]
    (hy : Rows w y (Dat.sz α) [cs]) (ho : DatO.own cs a J) (hw : Dat.cells BB w cs a) (hb : l.length + 1 ≤ 1099511627776) (hby : bytes ≤ 128) {Q : Value → World → Prop}
    (k : ∀ x' w' I', OwnD x' (l ++ [a]) (I' ++ J) → St u w' (I' ++ R) → Q x'.val w') : StepT P (Builtin.append_ #[t, t] ty #[x.val, y.val]) w Q := by
  obtain ⟨rows, I0, Is, E, k1, k2, k3, k4, k5, k6⟩ := h
  have hS' : St u w (I0 ++ (Is.flatten ++ E ++ R)) := (hS.perm p.perm.symm).perm (by rw [← List.append_assoc]; exact (k5.symm).append_right R)
  have hAI : AtAll w (I0 ++ (Is.flatten ++ E)) := fun q hq => hS'.at_ q (by rw [← List.append_assoc]; exact List.mem_append_left _ hq)
  have hcl : ∀ (i : Nat) (r : List Value), rows[i]? = some r → r.length = Dat.sz α := by
    intro i r hr
    have hlt : i < rows.length := by rcases Nat.lt_or_ge i rows.length with hl | hg; exact hl; rw [List.getElem?_eq_none hg] at hr; cases hr
    have h3 := k4 i r _ _ hr (List.getElem?_eq_getElem (show i < l.length by omega)) (List.getElem?_eq_getElem (show i < Is.length by omega))
    exact Dat.len (DatO.read h3 (w := w) fun q hq => hAI q (List.mem_append_right _ (List.mem_append_left _ (List.mem_flatten.2 ⟨_, List.getElem_mem _, hq⟩))))
  have hle : (rows.length + [cs].length) * bytes ≤ 1099511627776 * 128 := Nat.mul_le_mul (by simp; omega) hby
  refine k1.append hS' hy (fun r hr => by rw [List.mem_singleton.1 hr]; exact Dat.len hw) (fun r hr => by rw [List.mem_singleton.1 hr]; exact Dat.one hw) (fun r hr => by obtain ⟨i, hi, rfl⟩ := List.getElem_of_mem hr; exact hcl i _ (List.getElem?_eq_getElem hi)) hle (by simp only [maxLen, List.length_singleton]; omega) fun x' w' I' c1 c2 => ?_
  refine k x' w' (I' ++ (Is.flatten ++ E)) ⟨_, I', Is ++ [J], E, c1, by simp [k2], by simp [k3], fun i r b K hr hb hK => ?_, ?_, by simp; omega⟩ (by simpa using c2)
  · rcases Nat.lt_or_ge i rows.length with hlt | hge
    · rw [List.getElem?_append_left hlt] at hr
      rw [List.getElem?_append_left (by omega)] at hb hK
      exact k4 i r b K hr hb hK
    · rw [List.getElem?_append_right hge] at hr
      rw [List.getElem?_append_right (by omega)] at hb hK
      have : i = rows.length := by
        rcases Nat.lt_or_ge (i - rows.length) 1 with h | h
        · omega
        · rw [List.getElem?_eq_none (by simpa using h)] at hr; cases hr
      subst this
      simp [k2, k3] at hr hb hK
      subst hr; subst hb; subst hK
      exact ho
  · rw [List.append_assoc, List.flatten_append]
    refine List.Perm.append_left I' ?_
    simp only [List.flatten_cons, List.flatten_nil, List.append_nil, List.append_assoc]
    exact List.Perm.append_left _ List.perm_append_comm
/-- .. what it holds is taken out of the blocks at hand -/
theorem OwnD.push' {P : Program} {t ty : TypeId} {bytes : Nat} {zc : List Value} [hT : SlT P t (Dat.sz α) bytes zc] {cs : List Value} {a : α} {R1 : Items} {F1 : Items → Items} (h : OwnD x l I) (hS : St u w L) [p : Pos I L R1 F1]
    (hy : Rows w y (Dat.sz α) [cs]) (ho : DatO.own cs a J) [q : Pos J R1 R F] (hb : l.length + 1 ≤ 1099511627776) (hby : bytes ≤ 128) {Q : Value → World → Prop}
    (k : ∀ x' w' I', OwnD x' (l ++ [a]) I' → St u w' (I' ++ R) → Q x'.val w') : StepT P (Builtin.append_ #[t, t] ty #[x.val, y.val]) w Q := by
  have hJ : AtAll w J := fun z hz => hS.at_ z (p.perm.symm.subset (List.mem_append_right _ (q.perm.symm.subset (List.mem_append_left _ hz))))
  refine h.push hS hy ho (DatO.read ho hJ) hb hby fun x' w' I' k1 k2 => k x' w' _ k1 (k2.perm ?_)
  rw [List.append_assoc]
  exact List.Perm.append_left I' q.perm.symm
theorem OwnD.cut (h : OwnD x l I) {hi : Int} (h1 : 0 ≤ hi) (h2 : hi ≤ l.length) : OwnD (x.cut 0 hi (Dat.sz α)) (l.take hi.toNat) I := by
  obtain ⟨rows, I0, Is, E, k1, k2, k3, k4, k5, k6⟩ := h
  refine ⟨rows.take hi.toNat, I0, Is.take hi.toNat, (Is.drop hi.toNat).flatten ++ E, ?_, by simp [k2], by simp [k3], fun i r a K hr ha hK => ?_, ?_, by simp; omega⟩
  · cases k1 with
    | nil => have : hi = 0 := by simp at k2; omega
             subst hi; exact .nil
    | blk g o n c cur e _ hn hc hm hs hr =>
      by_cases hcl : c = 0
      · have e : (Sl.cut ⟨some ⟨g, o, none⟩, n, c⟩ 0 hi (Dat.sz α)) = ⟨some ⟨g, o, none⟩, hi.toNat - (0 : Int).toNat, c - (0 : Int).toNat⟩ := by simp [Sl.cut, hcl]
        rw [e]
        exact .blk g o _ _ cur _ _ (by simp; omega) (by simp; omega) (by simp; omega) (by simpa using hs) fun i r hi' => by
          rw [List.getElem?_take] at hi'
          split at hi'
          · exact hr i r hi'
          · cases hi'
      · have e : (Sl.cut ⟨some ⟨g, o, none⟩, n, c⟩ 0 hi (Dat.sz α)) = ⟨some ⟨g, o, none⟩, hi.toNat - (0 : Int).toNat, c - (0 : Int).toNat⟩ := by simp [Sl.cut, hcl, box_add]
        rw [e]
        exact .blk g o _ _ cur _ _ (by simp; omega) (by simp; omega) (by simp; omega) (by simpa using hs) fun i r hi' => by
          rw [List.getElem?_take] at hi'
          split at hi'
          · exact hr i r hi'
          · cases hi'
  · rw [List.getElem?_take] at hr ha hK
    split at hr
    · rename_i hlt
      rw [if_pos hlt] at ha hK
      exact k4 i r a K hr ha hK
    · cases hr
  · refine k5.trans (List.Perm.append_left I0 ?_)
    rw [← List.append_assoc, ← List.flatten_append, List.take_append_drop]
end
end Go.Vc
