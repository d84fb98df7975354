/- Owned blocks beside a base world that is only read. -/
import Derived.Test.YtmmkfmmcmjpcgaaBVcPut
namespace Go.Vc
open Go Go.RowKit
set_option linter.all false

abbrev Items := List (Nat × Obj)
def AtAll (w : World) (L : Items) : Prop := ∀ p ∈ L, w.heap[p.1]? = some p.2 ∧ p.2 ≠ absent

/-- w is u and the blocks L beside it -/
structure St (u w : World) (L : Items) : Prop where
  sub : Sub u w
  nd : (L.map (·.1)).Nodup
  out : ∀ p ∈ L, Out u p.1
  at_ : AtAll w L

class Pos (I L : Items) (R : outParam Items) (F : outParam (Items → Items)) : Prop where
  perm : L.Perm (I ++ R)
  permF : ∀ I', (F I').Perm (I' ++ R)
instance (priority := high) posHere (I R : Items) : Pos I (I ++ R) R (fun I' => I' ++ R) := ⟨.refl _, fun _ => .refl _⟩
instance posThere (I J L R : Items) (F : Items → Items) [p : Pos I L R F] : Pos I (J ++ L) (J ++ R) (fun I' => J ++ F I') where
  perm := ((List.Perm.append_left J p.perm).trans (by rw [← List.append_assoc, ← List.append_assoc]; exact (List.perm_append_comm).append_right R))
  permF := fun I' => ((List.Perm.append_left J (p.permF I')).trans (by rw [← List.append_assoc, ← List.append_assoc]; exact (List.perm_append_comm).append_right R))

/-- T is among T' -/
class Pick (T T' : Items) : Prop where
  sub : ∃ R, T'.Perm (T ++ R)
instance (priority := high) pickAll (L : Items) : Pick L L := ⟨[], by simp⟩
instance pickFront (I T T' R : Items) (F : Items → Items) [p : Pos I T' R F] [q : Pick T R] : Pick (I ++ T) T' := by
  obtain ⟨S, hS⟩ := q.sub
  exact ⟨S, p.perm.trans (by rw [List.append_assoc]; exact List.Perm.append_left I hS)⟩
instance pickNil (T' : Items) : Pick [] T' := ⟨T', by simp⟩
instance (priority := low) pickDrop (T J T' : Items) [q : Pick T T'] : Pick T (J ++ T') := by
  obtain ⟨S, hS⟩ := q.sub
  exact ⟨J ++ S, (List.Perm.append_left J hS).trans (by rw [← List.append_assoc, ← List.append_assoc]; exact (List.perm_append_comm).append_right S)⟩

section
variable {u w w' : World} {L I R : Items} {F : Items → Items}

theorem AtAll.sub (h : AtAll w L) (hs : Sub w w') : AtAll w' L := fun p hp => ⟨hs.at_ _ _ (h p hp).1 (h p hp).2, (h p hp).2⟩
theorem AtAll.perm {L' : Items} (h : AtAll w L) (hp : L'.Perm L) : AtAll w L' := fun p hm => h p (hp.subset hm)
theorem St.refl (w : World) : St w w [] := ⟨.refl w, by simp, by simp, by simp [AtAll]⟩
theorem St.sub_w (h : St u w L) (hs : Sub w w') : St u w' L := ⟨h.sub.trans hs, h.nd, h.out, h.at_.sub hs⟩
theorem St.perm {L' : Items} (h : St u w L) (hp : L'.Perm L) : St u w L' :=
  ⟨h.sub, (hp.map _).nodup_iff.2 h.nd, fun p hm => h.out p (hp.subset hm), h.at_.perm hp⟩
theorem St.left {A B : Items} (h : St u w (A ++ B)) : St u w A :=
  ⟨h.sub, by have := h.nd; rw [List.map_append] at this; exact (List.nodup_append.1 this).1, fun p hm => h.out p (List.mem_append_left _ hm), fun p hm => h.at_ p (List.mem_append_left _ hm)⟩
theorem St.right {A B : Items} (h : St u w (A ++ B)) : St u w B :=
  ⟨h.sub, by have := h.nd; rw [List.map_append] at this; exact (List.nodup_append.1 this).2.1, fun p hm => h.out p (List.mem_append_right _ hm), fun p hm => h.at_ p (List.mem_append_right _ hm)⟩
theorem St.to {T : Items} (h : St u w L) [p : Pick T L] : St u w T := by
  obtain ⟨R, hR⟩ := p.sub
  exact (h.perm hR.symm).left
theorem St.items (h : St u w L) [p : Pos I L R F] : AtAll w I := fun q hq => h.at_ q (p.perm.symm.subset (List.mem_append_left _ hq))
theorem St.nodupI (h : St u w L) [p : Pos I L R F] : (I.map (·.1)).Nodup := by
  have := (h.perm p.perm.symm).nd; rw [List.map_append] at this; exact (List.nodup_append.1 this).1
theorem St.fresh_ne (h : St u w L) {p : Nat × Obj} (hp : p ∈ L) : p.1 < w.heap.size := getElem?_lt (h.at_ p hp).1

/-- the blocks I turn into I' -/
theorem St.upd (h : St u w L) [p : Pos I L R F] {I' : Items} (hk : ∀ (b : Nat) (o : Obj), w.heap[b]? = some o → o ≠ absent → b ∉ I.map (·.1) → w'.heap[b]? = some o)
    (hI : AtAll w' I') (hnd : (I'.map (·.1)).Nodup) (hfr : ∀ b, b ∈ I'.map (·.1) → b ∈ I.map (·.1) ∨ Out w b) (hsz : w.heap.size ≤ w'.heap.size) : St u w' (F I') := by
  have h0 := h.perm p.perm.symm
  have hnd0 := h0.nd
  rw [List.map_append] at hnd0
  have hdis := (List.nodup_append.1 hnd0).2.2
  refine St.perm (L := I' ++ R) ⟨⟨Nat.le_trans h.sub.size hsz, fun b o hb hne => ?_⟩, ?_, fun q hq => ?_, fun q hq => ?_⟩ (p.permF I')
  · refine hk b o (h.sub.at_ b o hb hne) hne fun hm => ?_
    obtain ⟨q, hq, rfl⟩ := List.mem_map.1 hm
    exact hne (h0.out q (List.mem_append_left _ hq) o hb)
  · rw [List.map_append]
    refine List.nodup_append.2 ⟨hnd, (List.nodup_append.1 hnd0).2.1, fun a ha b hb e => ?_⟩
    subst e
    rcases hfr a ha with hi | hge
    · exact hdis a hi a hb rfl
    · obtain ⟨q, hq, rfl⟩ := List.mem_map.1 hb
      obtain ⟨h1, h2⟩ := h0.at_ q (List.mem_append_right _ hq)
      exact h2 (hge _ h1)
  · rcases List.mem_append.1 hq with hq | hq
    · rcases hfr q.1 (List.mem_map_of_mem hq) with hi | hge
      · obtain ⟨q', hq', e⟩ := List.mem_map.1 hi
        rw [← e]; exact h0.out q' (List.mem_append_left _ hq')
      · exact h.sub.out hge
    · exact h0.out q (List.mem_append_right _ hq)
  · rcases List.mem_append.1 hq with hq | hq
    · exact hI q hq
    · obtain ⟨h1, h2⟩ := h0.at_ q (List.mem_append_right _ hq)
      refine ⟨hk q.1 q.2 h1 h2 fun hm => ?_, h2⟩
      exact hdis q.1 hm q.1 (List.mem_map_of_mem hq) rfl

theorem out_of_le {w : World} {b : Nat} (h : w.heap.size ≤ b) : Out w b := by
  intro o ho
  have := getElem?_lt ho
  omega

/-- fresh blocks come in front -/
theorem St.join (h : St u w L) (k : St w w' I) : St u w' (I ++ L) := by
  have : Pos ([] : Items) L L (fun I' => I' ++ L) := ⟨.refl _, fun _ => .refl _⟩
  refine St.upd h (I := []) (fun b o hb hne _ => k.sub.at_ b o hb hne) k.at_ k.nd (fun b hb => .inr ?_) k.sub.size
  obtain ⟨q, hq, rfl⟩ := List.mem_map.1 hb
  exact k.out q hq

theorem St.new (h : St u w L) {g : Nat} {o : Obj} (hg : w.heap.size ≤ g) (hs : Sub w w') (ho : w'.heap[g]? = some o) (hne : o ≠ absent) : St u w' ([(g, o)] ++ L) :=
  h.join ⟨hs, by simp, by simpa using out_of_le hg, by simpa [AtAll] using ⟨ho, hne⟩⟩

/-- a world with some blocks left out -/
def maskW (w : World) (q : Nat → Bool) : World := { w with heap := (Array.range w.heap.size).map fun b => if q b then (w.heap[b]?).getD absent else absent }
theorem maskW_get (w : World) (q : Nat → Bool) (b : Nat) : (maskW w q).heap[b]? = if b < w.heap.size then (if q b then w.heap[b]? else some absent) else none := by
  unfold maskW
  simp only [Array.getElem?_map, Array.getElem?_range]
  by_cases h : b < w.heap.size
  · simp only [if_pos h, Option.map_some]
    by_cases hq : q b
    · simp [hq, Array.getElem?_eq_getElem h]
    · simp [hq]
  · simp [if_neg h]
theorem maskW_size (w : World) (q : Nat → Bool) : (maskW w q).heap.size = w.heap.size := by simp [maskW]
theorem maskW_sub (w : World) (q : Nat → Bool) : Sub (maskW w q) w := by
  refine ⟨by rw [maskW_size]; exact Nat.le_refl _, fun b o hb hne => ?_⟩
  rw [maskW_get] at hb
  split at hb
  · split at hb
    · exact hb
    · simp only [Option.some.injEq] at hb; exact absurd hb.symm hne
  · cases hb

open Classical in
/-- some blocks are from now on only read -/
theorem St.freeze (h : St u w L) (I : Items) {R : Items} {F : Items → Items} [p : Pos I L R F] : ∃ u', Sub u u' ∧ St u' w R ∧ St u u' I := by
  have h0 := h.perm p.perm.symm
  have hnd0 := h0.nd
  rw [List.map_append] at hnd0
  have hdis := (List.nodup_append.1 hnd0).2.2
  let q : Nat → Bool := fun b => decide (b ∉ R.map (·.1))
  have hsub : Sub u (maskW w q) := by
    refine ⟨by rw [maskW_size]; exact h.sub.size, fun b o hb hne => ?_⟩
    have hw := h.sub.at_ b o hb hne
    rw [maskW_get, if_pos (getElem?_lt hw), if_pos ?_]
    · exact hw
    · refine decide_eq_true fun hm => ?_
      obtain ⟨x, hx, rfl⟩ := List.mem_map.1 hm
      exact hne (h0.out x (List.mem_append_right _ hx) o hb)
  refine ⟨maskW w q, hsub, ⟨maskW_sub w q, (List.nodup_append.1 hnd0).2.1, fun x hx o ho => ?_, fun x hx => h0.at_ x (List.mem_append_right _ hx)⟩,
    ⟨hsub, (List.nodup_append.1 hnd0).1, fun x hx => h0.out x (List.mem_append_left _ hx), fun x hx => ?_⟩⟩
  · rw [maskW_get] at ho
    have hq : q x.1 = false := decide_eq_false fun hn => hn (List.mem_map_of_mem hx)
    rw [hq] at ho
    split at ho
    · simpa using ho.symm
    · cases ho
  · obtain ⟨h1, h2⟩ := h0.at_ x (List.mem_append_left _ hx)
    refine ⟨?_, h2⟩
    rw [maskW_get, if_pos (getElem?_lt h1), if_pos ?_]
    · exact h1
    · exact decide_eq_true fun hm => hdis x.1 (List.mem_map_of_mem hx) x.1 hm rfl

open Classical in
/-- a contract at the base alone; the blocks L stay -/
theorem Trip.fr {P : Program} {f : FuncId} {args : Array Value} {Q K : Value → World → Prop} (h : Trip P f args u Q) (hS : St u w L) (k : ∀ r u' w', Q r u' → St u' w' L → (Sub u u' → Sub w w') → K r w') : Trip P f args w K := by
  refine ⟨h.1, fun w0 hs => (h.2 w0 (hS.sub.trans hs)).mono fun e w0' ⟨r, u', he, fr, hq⟩ => ?_⟩
  let q : Nat → Bool := fun b => decide (¬ Out u' b ∨ ¬ Out w b)
  have hkeep : ∀ (b : Nat) (o : Obj), w.heap[b]? = some o → o ≠ absent → Out u b → w0'.heap[b]? = some o ∧ Out u' b := by
    intro b o hb hne ho
    have h1 := hs.at_ b o hb hne
    obtain ⟨h2, h3⟩ := fr.out b (getElem?_lt h1) ho
    exact ⟨by rw [h3]; exact h1, h2⟩
  have hsub : Sub u' (maskW w0' q) := by
    refine ⟨by rw [maskW_size]; exact fr.sub.size, fun b o hb hne => ?_⟩
    have h1 := fr.sub.at_ b o hb hne
    rw [maskW_get, if_pos (getElem?_lt h1), if_pos]
    · exact h1
    · exact decide_eq_true (.inl fun hn => hne (hn o hb))
  refine ⟨r, maskW w0' q, he, ⟨maskW_sub _ _, fr.size, fr.os, fr.tape, fr.output, fun b hb ho => ?_⟩, k r u' _ hq ⟨hsub, hS.nd, fun p hp => ?_, fun p hp => ?_⟩ fun huu => ⟨?_, fun b o hb hne => ?_⟩⟩
  · obtain ⟨h2, h3⟩ := fr.out b hb (hS.sub.out ho)
    refine ⟨fun o hm => ?_, h3⟩
    rw [maskW_get] at hm
    have hqf : q b = false := decide_eq_false fun hn => by
      rcases hn with hn | hn
      · exact hn h2
      · exact hn ho
    rw [hqf] at hm
    split at hm
    · simpa using hm.symm
    · cases hm
  · obtain ⟨h1, h2⟩ := hS.at_ p hp
    exact (hkeep p.1 p.2 h1 h2 (hS.out p hp)).2
  · obtain ⟨h1, h2⟩ := hS.at_ p hp
    obtain ⟨h3, h4⟩ := hkeep p.1 p.2 h1 h2 (hS.out p hp)
    refine ⟨?_, h2⟩
    rw [maskW_get, if_pos (getElem?_lt h3), if_pos]
    · exact h3
    · exact decide_eq_true (.inr fun hn => h2 (hn _ h1))
  · rw [maskW_size]; have := hs.size; have := fr.size; omega
  · have hkeep2 : w0'.heap[b]? = some o := by
      rcases Classical.em (Out u b) with ho | ho
      · exact (hkeep b o hb hne ho).1
      · have : ∃ o', u.heap[b]? = some o' ∧ o' ≠ absent :=
          Classical.byContradiction fun hn => ho fun q' hq' => Classical.byContradiction fun hne' => hn ⟨q', hq', hne'⟩
        obtain ⟨o', g1, g2⟩ := this
        have g3 := hS.sub.at_ b o' g1 g2
        rw [hb] at g3
        cases g3
        exact fr.sub.at_ b o (huu.at_ b o g1 g2) g2
    rw [maskW_get, if_pos (getElem?_lt hkeep2), if_pos]
    · exact hkeep2
    · exact decide_eq_true (.inr fun hn => hne (hn _ hb))

theorem Trip.mono' {P : Program} {f : FuncId} {args : Array Value} {Q K : Value → World → Prop} (h : Trip P f args w Q) (k : ∀ r w', Q r w' → K r w') : Trip P f args w K :=
  ⟨h.1, fun w0 hs => (h.2 w0 hs).mono fun _ _ ⟨r, v', he, fr, hq⟩ => ⟨r, v', he, fr, k r v' hq⟩⟩
end
end Go.Vc
