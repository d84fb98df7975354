/- A block put at a base world; append onto a row of one's own. -/
import Derived.Test.YtmmkfmmcmjpcgaaBVcStep
import Derived.Maps.AppendAt
namespace Go.Vc
open Go Go.RowKit
set_option linter.all false

def putBlk (v : World) (b : Nat) (o : Obj) : World := { v with heap := (v.heap ++ Array.replicate (b + 1 - v.heap.size) absent).setIfInBounds b o }

theorem putBlk_get (v : World) (b : Nat) (o : Obj) (k : Nat) : (putBlk v b o).heap[k]? = if k = b then some o else if k < v.heap.size then v.heap[k]? else if k < b then some absent else none := by
  unfold putBlk
  by_cases e : k = b
  · subst e
    rw [if_pos rfl]
    have h : k < (v.heap ++ Array.replicate (k + 1 - v.heap.size) absent).size := by rw [Array.size_append, Array.size_replicate]; omega
    exact Array.getElem?_setIfInBounds_self_of_lt h
  · rw [if_neg e]
    show (Array.setIfInBounds _ b o)[k]? = _
    rw [Array.getElem?_setIfInBounds_ne (Ne.symm e)]
    by_cases h1 : k < v.heap.size
    · rw [if_pos h1, Array.getElem?_append_left h1]
    · rw [if_neg h1, Array.getElem?_append_right (by omega), Array.getElem?_replicate]
      by_cases h2 : k < b
      · rw [if_pos h2, if_pos (by omega)]
      · rw [if_neg h2, if_neg (by omega)]
theorem putBlk_size (v : World) (b : Nat) (o : Obj) : (putBlk v b o).heap.size = max v.heap.size (b + 1) := by simp [putBlk]; omega

/-- a step that turns one block alone, as seen from the base -/
theorem putBlk_fr {v w w' : World} {b : Nat} {o : Obj} (hs : Sub v w) (hb : b < w'.heap.size) (hb2 : o ≠ absent → w'.heap[b]? = some o) (hin : b < w.heap.size → ¬ Out v b) (hsz : w.heap.size ≤ w'.heap.size)
    (hk : ∀ k, k < w.heap.size → k ≠ b → w'.heap[k]? = w.heap[k]?) (h4 : w'.os = w.os ∧ w'.tape = w.tape ∧ w'.output = w.output) : Fr v w (putBlk v b o) w' := by
  have hbl := hb
  refine ⟨⟨by rw [putBlk_size]; have := hs.size; omega, fun k q hq hne => ?_⟩, hsz, h4.1, h4.2.1, h4.2.2, fun k hlt ho => ?_⟩
  · rw [putBlk_get] at hq
    split at hq
    · rename_i e; simp only [Option.some.injEq] at hq; subst hq; rw [e]; exact hb2 hne
    · rename_i e
      split at hq
      · have h1 := hs.at_ k q hq hne
        rw [hk k (getElem?_lt h1) e]; exact h1
      · split at hq
        · simp only [Option.some.injEq] at hq; exact absurd hq.symm hne
        · cases hq
  · have hne : k ≠ b := fun e => by subst e; exact hin hlt ho
    refine ⟨fun q hq => ?_, hk k hlt hne⟩
    rw [putBlk_get, if_neg hne] at hq
    split at hq
    · exact ho q hq
    · split at hq
      · simpa using hq.symm
      · cases hq

theorem putBlk_more {v w v1 w' : World} {b : Nat} {o : Obj} (h : Fr v w v1 w') (hb : w'.heap[b]? = some o) (hin : b < w.heap.size → ¬ Out v b) : Fr v w (putBlk v1 b o) w' := by
  have hbl := getElem?_lt hb
  refine ⟨⟨by rw [putBlk_size]; have := h.sub.size; omega, fun k q hq hne => ?_⟩, h.size, h.os, h.tape, h.output, fun k hlt ho => ?_⟩
  · rw [putBlk_get] at hq
    split at hq
    · rename_i e; rw [e, hb]; exact hq
    · split at hq
      · exact h.sub.at_ k q hq hne
      · split at hq
        · simp only [Option.some.injEq] at hq; exact absurd hq.symm hne
        · cases hq
  · have hne : k ≠ b := fun e => by subst e; exact hin hlt ho
    obtain ⟨h1, h2⟩ := h.out k hlt ho
    refine ⟨fun q hq => ?_, h2⟩
    rw [putBlk_get, if_neg hne] at hq
    split at hq
    · exact h1 q hq
    · split at hq
      · simpa using hq.symm
      · cases hq

/-- all blocks of the base but one are as they were -/
def Upd (v v' : World) (row : Option Nat) : Prop := v.heap.size ≤ v'.heap.size ∧ ∀ (b : Nat) (o : Obj), v.heap[b]? = some o → o ≠ absent → some b ≠ row → v'.heap[b]? = some o

theorem putBlk_upd (v : World) (b : Nat) (o : Obj) (row : Option Nat) (h : row = some b ∨ v.heap.size ≤ b) : Upd v (putBlk v b o) row := by
  refine ⟨by rw [putBlk_size]; omega, fun k q hq _ hne => ?_⟩
  have hlt := getElem?_lt hq
  have hkb : k ≠ b := by
    intro e
    subst e
    rcases h with h | h
    · exact hne h.symm
    · omega
  rw [putBlk_get, if_neg hkb, if_pos hlt]; exact hq

theorem ownsRow_sub {v w : World} (hs : Sub v w) {base e size : Nat} {x : Value} {n : Nat} {xs : List Value} (h : v.ownsRow base e size x n xs) : w.ownsRow base e size x n xs := by
  refine ⟨h.1, h.2.imp id ?_⟩
  rintro ⟨g, cap, cur, h1, h2, h3, h4⟩
  exact ⟨g, cap, cur, h1, h2, hs.at_ _ _ h3 (by simp [absent]), h4⟩

/-- append(s, x...) onto a row of one's own -/
theorem stepT_append {P : Program} {t ty e : TypeId} {i : TypeInfo} {z : Value} (ht : P.underlying t = some (.slice e)) (hi : P.info? e = some i) (hz : i.zero = some z) (hzs : z.cells.size = i.size) (hsz : 0 < i.size)
    {base : Nat} {v : World} {s x : Sl} {xs news : List Value} {Q : Value → World → Prop} (hown : v.ownsRow base e i.size s.val s.n xs) (hnews : news.length = x.n * i.size) (hnil : x.a = none → x.n = 0)
    (hcell : ∀ ad, x.a = some ad → ∀ j u, news[j]? = some u → v.cell? (ad.add j) = some u) (h1 : ∀ u, u ∈ news → u.oneCell' = true)
    (h63 : s.n + x.n ≤ maxLen) (hbytes : (s.n + x.n) * i.bytes ≤ 140737488355328)
    (h : ∀ (s' : Sl) (v' : World), s'.n = s.n + x.n → v'.ownsRow (min base v.heap.size) e i.size s'.val s'.n (xs ++ news) → Upd v v' s.val.ownBlock → (s'.val.ownBlock = s.val.ownBlock ∨ ∃ g, s'.val.ownBlock = some g ∧ v.heap.size ≤ g) → Q s'.val v') :
    StepT P (Builtin.append_ #[t, t] ty #[s.val, x.val]) v Q := by
  have hown' : v.ownsRow (min base v.heap.size) e i.size s.val s.n xs := ⟨hown.1, hown.2.imp id fun ⟨g, cap, cur, a1, a2, a3⟩ => ⟨g, cap, cur, a1, by omega, a3⟩⟩
  clear hown
  intro w hs
  cases hxa : x.a with
  | none =>
    have hm : x.n = 0 := hnil hxa
    have hn : news = [] := List.eq_nil_of_length_eq_zero (by rw [hnews, hm]; simp)
    subst hn
    have hle : s.n ≤ s.c := by
      rcases hown'.2 with ⟨e1, _⟩ | ⟨g, cap, cur, e1, _, _, hc, _⟩
      · simp only [Sl.val, Value.slice.injEq] at e1; omega
      · simp only [Sl.val, Value.slice.injEq] at e1; omega
    have hr : (Builtin.append_ #[t, t] ty #[s.val, x.val]).run P w = .ok s.val w := by
      cases hsa : s.a <;> simp [Sl.val, hsa, hxa, hm, Builtin.append_, run_underlying ht, run_size hi, Builtin.lenOf, Builtin.firstCells, hle, storeCells]
    refine ⟨_, w, v, hr, .refl hs, h s v (by omega) ?_ ⟨Nat.le_refl _, fun b o hb _ _ => hb⟩ (.inl rfl)⟩
    simpa using hown'
  | some ad =>
    obtain ⟨r, w', hr, hown2, hg, hiff, hb⟩ := run_append_own_at (P := P) w (min base v.heap.size) t ty e i z i.size i.bytes ht hi hz rfl rfl hzs hsz s.val s.n xs (ownsRow_sub hs hown') ad x.n x.c news hnews
      (fun j u hu => cell_sub hs (hcell ad hxa j u hu)) h1 h63 hbytes (by have := hs.size; omega)
    have hrun : (Builtin.append_ #[t, t] ty #[s.val, x.val]).run P w = .ok r w' := by
      have : x.val = .slice (some ad) x.n x.c := by simp [Sl.val, hxa]
      rw [this]; exact hr
    -- the base without the old row
    have hfr0 : ∃ v0, Fr v w v0 w' ∧ Upd v v0 s.val.ownBlock ∧ v0.heap.size ≤ w.heap.size := by
      cases ho : s.val.ownBlock with
      | none =>
        rw [ho] at hg
        have hall : ∀ k, k < w.heap.size → w'.heap[k]? = w.heap[k]? := fun k hk => hg.block k hk (by simp)
        refine ⟨v, ⟨⟨Nat.le_trans hs.size hg.size, fun b q hq hne => ?_⟩, hg.size, hg.os, hg.tape, hg.output, fun b hb' ho' => ⟨ho', hall b hb'⟩⟩, ⟨Nat.le_refl _, fun b q hq _ _ => hq⟩, hs.size⟩
        have h2 := hs.at_ b q hq hne
        rw [hall b (getElem?_lt h2)]; exact h2
      | some g0 =>
        rw [ho] at hg
        have hlt := (hown'.lt g0 ho).2
        have hin : ¬ Out v g0 := by
          rcases hown'.2 with ⟨e1, _⟩ | ⟨g, cap, cur, e1, _, e3, _⟩
          · rw [e1] at ho; cases ho
          · rw [e1] at ho
            simp only [Value.ownBlock, Option.some.injEq] at ho
            subst ho
            exact fun k => absurd (k _ e3) (by simp [absent])
        have := hs.size
        refine ⟨putBlk v g0 absent, putBlk_fr hs (by have := hg.size; omega) (fun hne => absurd rfl hne) (fun _ => hin) hg.size (fun k hk hne => hg.block k hk (by simpa using hne)) ⟨hg.os, hg.tape, hg.output⟩, putBlk_upd v g0 absent _ (.inl rfl), by rw [putBlk_size]; omega⟩
    obtain ⟨v0, hf0, hu0, hz0⟩ := hfr0
    rcases hown2.2 with ⟨rfl, hzn⟩ | ⟨g, cap, cur, rfl, hbg, hgg, hnc, hcm, hcs, htk⟩
    · obtain ⟨e1, e2⟩ := hiff.1 rfl
      have hob : s.val.ownBlock = none := by rw [e1]; rfl
      have hq := h ⟨none, 0, 0⟩ v0 (by show 0 = _; omega) ⟨by have := hown2.1; rw [hzn] at this; simpa using this, .inl ⟨rfl, rfl⟩⟩ hu0 (.inl (by rw [hob]; rfl))
      exact ⟨_, w', v0, hrun, hf0, hq⟩
    · have hfr := putBlk_more hf0 hgg (fun hlt => by
        rcases hb with hb | hb
        · have hgo : s.val.ownBlock = some g := by rw [← hb]; rfl
          rcases hown'.2 with ⟨e1, _⟩ | ⟨g', cap', cur', e1, _, e3, _⟩
          · rw [e1] at hgo; cases hgo
          · rw [e1] at hgo
            simp only [Value.ownBlock, Option.some.injEq] at hgo
            subst hgo
            exact fun k => absurd (k _ e3) (by simp [absent])
        · simp only [Value.ownBlock, Option.some.injEq] at hb; omega)
      refine ⟨_, w', _, hrun, hfr, h ⟨some ⟨g, 0, none⟩, s.n + x.n, cap⟩ _ rfl ⟨hown2.1, .inr ⟨g, cap, cur, rfl, hbg, by rw [putBlk_get, if_pos rfl], hnc, hcm, hcs, htk⟩⟩ ?_ ?_⟩
      · refine ⟨Nat.le_trans hu0.1 (by rw [putBlk_size]; omega), fun b q hq hne hrow => ?_⟩
        have hkb : b ≠ g := by
          intro e
          subst e
          rcases hb with hb | hb
          · exact hrow (by rw [← hb]; rfl)
          · simp only [Value.ownBlock, Option.some.injEq] at hb
            have := getElem?_lt (hs.at_ b q hq hne)
            omega
        have h2 := hu0.2 b q hq hne hrow
        rw [putBlk_get, if_neg hkb, if_pos (getElem?_lt h2)]; exact h2
      · rcases hb with hb | hb
        · exact .inl hb
        · simp only [Value.ownBlock, Option.some.injEq] at hb
          exact .inr ⟨g, rfl, by have := hs.size; omega⟩

end Go.Vc
