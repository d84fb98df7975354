/- Part of the proofs about the heaps and memories: a law is joined in the text whose name ends in W and the law. -/
import Derived.Test.YtelgbndeeccblaaGreatDoorEE4
/- append onto a row of one's own, the row itself kept. -/
namespace Go.Vc
open Go Go.RowKit
set_option linter.all false
section
variable {α : Type} [Dat α] {u w w' : World} {x y : Sl} {l : List α} {rows : List (List Value)} {sz : Nat} {L I R : Items} {F : Items → Items}
theorem OSl.appendK {P : Program} {t ty : TypeId} {bytes : Nat} {zc : List Value} [hT : SlT P t sz bytes zc] (h : OSl sz x rows I) (hS : St u w L) [p : Pos I L R F] {news : List (List Value)}
  (hy : Rows w y sz news) (hlen : ∀ r ∈ news, r.length = sz) (h1 : ∀ r ∈ news, ∀ v ∈ r, v.oneCell' = true) (hrl : ∀ r ∈ rows, r.length = sz) (hb : (rows.length + news.length) * bytes ≤ 140737488355328) (hb2 : rows.length + news.length ≤ maxLen) {Q : Value → World → Prop}
  (k1 : ∀ w' I', OSl sz ⟨x.a, rows.length + news.length, x.c⟩ (rows ++ news) I' → St u w' (F I') → Q (Sl.mk x.a (rows.length + news.length) x.c).val w') (k2 : ∀ x' w' I', OSl sz x' (rows ++ news) I' → St u w' (I' ++ L) → Q x'.val w') : StepT P (Builtin.append_ #[t, t] ty #[x.val, y.val]) w Q := by
 obtain ⟨e, i, z, ht, hi, hz, hsize, hby, hzc, hzl, hsz⟩ := hT.ex
 have hzs : z.cells.size = i.size := by rw [← Array.length_toList, hzc, hzl, hsize]
 have hxn := h.len
 have hyn := hy.1
 have hnl : news.flatten.length = y.n * i.size := by rw [flat_length news hlen, hyn, hsize]
 have hone : ∀ v ∈ news.flatten, v.oneCell' = true := by
  intro v hv
  obtain ⟨r, hr, hvr⟩ := List.mem_flatten.1 hv
  exact h1 r hr v hvr
 simp only [maxLen] at hb2
 have keep : ∀ w0 : World, Sub w w0 → Q x.val w → news = [] → (Builtin.append_ #[t, t] ty #[x.val, y.val]).run P w0 = .ok x.val w0 → ∃ r w' v', (Builtin.append_ #[t, t] ty #[x.val, y.val]).run P w0 = .ok r w' ∧ Fr w w0 v' w' ∧ Q r v' :=
  fun w0 hs hq _ hr => ⟨_, w0, w, hr, .refl hs, hq⟩
 -- a new block
 have fresh : ∀ (w0 : World) (c : Nat) (cur : Array Value), Sub w w0 → rows.length + news.length ≤ c → c ≤ maxLen → c * sz ≤ cur.size → (∀ (j : Nat) (v : Value), (rows ++ news).flatten[j]? = some v → cur[j]? = some v) →
   ∃ v', Fr w w0 v' (w0.drew.alloc (.cells cur e)) ∧ Q (.slice (some ⟨w0.heap.size, 0, none⟩) (rows.length + news.length) c) v' := by
  intro w0 c cur hs hc hm hcs hcur
  have hs' : Sub w w0.drew := ⟨hs.size, hs.at_⟩
  obtain ⟨v', fr, hq⟩ := newAt_step (o := .cells cur e) (Q := fun a w' => ∃ g, a = ⟨g, 0, none⟩ ∧ Q (.slice (some ⟨g, 0, none⟩) (rows.length + news.length) c) w') hs' (fun g w' hg hsub hh => by
   refine ⟨g, rfl, k2 ⟨some ⟨g, 0, none⟩, rows.length + news.length, c⟩ w' _ (.blk g 0 _ c cur e _ (by simp) hc hm (by omega) ?_) (hS.new hg hsub hh (by simp [absent]))⟩
   intro q r hq
   have hall : ∀ r ∈ rows ++ news, r.length = sz := fun r hr => (List.mem_append.1 hr).elim (hrl r) (hlen r)
   exact ⟨hall r (List.mem_of_getElem? hq), fun j v hj => hcur _ v (by rw [Nat.zero_add]; exact flat_get _ hall q r hq j v hj)⟩)
  obtain ⟨g, hg, hq⟩ := hq
  cases hg
  exact ⟨v', ⟨fr.sub, fr.size, fr.os, fr.tape, fr.output, fr.out⟩, hq⟩
 have zcs : ∀ m, (Builtin.zeroCells z.cells m).size = m * i.size := fun m => by rw [size_zeroCells, hzs]
 intro w0 hs
 cases hya : y.a with
 | none =>
  have hn0 : news = [] := by
   cases news with
   | nil => rfl
   | cons r rest => have := (hy.2.2 0 r rfl).1; rw [hya] at this; cases this
  subst hn0
  have hm : y.n = 0 := by rw [hyn]; rfl
  have hxe : (Sl.mk x.a (rows.length + ([] : List (List Value)).length) x.c) = x := by rw [List.length_nil, Nat.add_zero, ← hxn]
  have hq : Q x.val w := by
   have := k1 w I (by rw [hxe]; simpa using h) (hS.upd (I' := I) (fun b o hb _ _ => hb) hS.items hS.nodupI (fun b hb => .inl hb) (Nat.le_refl _))
   rwa [hxe] at this
  refine keep w0 hs hq rfl ?_
  cases h with
  | nil => simp [Sl.val, hya, hm, Builtin.append_, run_underlying ht, run_size hi, Builtin.lenOf, Builtin.firstCells]
  | blk g o n c cur e' _ hn hc hm' hs' hr => simp [Sl.val, hya, hm, Builtin.append_, run_underlying ht, run_size hi, Builtin.lenOf, Builtin.firstCells, hc, storeCells]
 | some ad =>
  have hcell : ∀ j v, news.flatten[j]? = some v → w0.cell? (ad.add j) = some v := fun j v hj => cell_sub hs (hy.flat hlen hsz hya j v hj)
  have hyv : y.val = .slice (some ad) y.n y.c := by simp [Sl.val, hya]
  rw [hyv]
  cases h with
  | nil =>
   simp only [List.length_nil, Nat.zero_add] at hb hb2 fresh
   by_cases hm : y.n = 0
   ·have hn0 : news = [] := List.eq_nil_of_length_eq_zero (by omega)
    subst hn0
    have hq : Q (Sl.mk none 0 0).val w := k1 w [] .nil (hS.upd (I' := []) (I := []) (fun b o hb _ _ => hb) (by simp [AtAll]) (by simp) (fun b hb => .inl hb) (Nat.le_refl _))
    rw [← hyv]
    refine keep w0 hs hq rfl ?_
    rw [hyv]
    simp [Sl.val, hm, Builtin.append_, run_underlying ht, run_size hi, Builtin.lenOf, Builtin.firstCells, loadCells, loadCellsFrom]
   ·have hr := run_append_nil (P := P) w0 t ty e i z ht hi hz ad y.n y.c news.flatten hnl hcell (by omega) (by omega) (by rw [hby, hyn]; omega)
    have hge := grownCap_ge w0 y.n 0 e
    obtain ⟨v', fr, hq⟩ := fresh w0 (grownCap w0 y.n 0 e) (news.flatten.toArray ++ Builtin.zeroCells z.cells (grownCap w0 y.n 0 e - y.n)) hs (by omega) (grownCap_le_maxLen w0 y.n 0 e (by simp only [maxLen]; omega)) (by
     rw [Array.size_append, zcs, List.size_toArray, hnl, ← Nat.add_mul, hsize]
     exact Nat.mul_le_mul_right _ (by omega)) (by
     intro j v hj
     simp only [List.nil_append] at hj
     rw [Array.getElem?_append_left]
     ·simpa using hj
     ·rcases Nat.lt_or_ge j news.flatten.length with hl | hg
      ·simpa using hl
      ·rw [List.getElem?_eq_none hg] at hj; cases hj)
    refine ⟨_, _, v', hr, fr, ?_⟩
    rw [hyn]; rw [← hyn] at hq ⊢; exact hq
  | blk g o n c cur e' _ hn hc hm hcs hrow =>
   have hA := (hS.items (I := [(g, .cells cur e' (0, 0))]) (g, .cells cur e' (0, 0)) (by simp)).1
   have holds : ∀ j v, rows.flatten[j]? = some v → w0.cell? ((⟨g, o, none⟩ : Addr).add j) = some v := by
    intro j v hj
    obtain ⟨r, q1, q2⟩ := flat_row hsz rows hrl j v hj
    rw [cell_blk (hs.at_ _ _ hA (by simp [absent])) rfl]
    have := (hrow _ _ q1).2 _ _ q2
    rwa [Nat.add_assoc, Nat.div_mul_self_eq_mod_sub_self, Nat.sub_add_cancel (Nat.mod_le _ _)] at this
   by_cases hroom : n + y.n ≤ c
   ·have hfit : n * sz + news.flatten.length ≤ c * sz := by rw [hnl, hsize, ← Nat.add_mul]; exact Nat.mul_le_mul_right _ hroom
    have ea : (⟨g, o, none⟩ : Addr).add (n * i.size) = (⟨g, 0, none⟩ : Addr).add (o + n * sz) := by rw [box_add, box_add, hsize]; simp
    have hcan : CanSet w ((⟨g, o, none⟩ : Addr).add (n * i.size)) 0 news.flatten := by rw [ea]; exact canSet_add _ _ _ _ _ (canSet_blk hA _ _ (by omega))
    have hget := canSet_get hcan
    have hr := run_append_roomA (P := P) (ty := ty) ht hi w0 ⟨g, o, none⟩ n c y.n y.c ad news.flatten hnl hcell hone hroom (fun j hj => ⟨let ⟨q, hq⟩ := (hget j hj).1; ⟨q, cell_sub hs hq⟩, let ⟨q, hq⟩ := (hget j hj).1; frozen_sub hs hq (hget j hj).2⟩)
    refine ⟨_, _, _, hr, setCellsW_fr _ _ hs hcan, ?_⟩
    rw [ea, setCellsW_add, Nat.add_zero]
    obtain ⟨c', c1, c2, c3, c4, c5⟩ := setCellsW_blk (k := o + n * sz) (l := news.flatten) hA (by omega)
    have e0 : n + y.n = rows.length + news.length := by rw [hn, hyn]
    rw [e0]
    refine k1 _ _ (.blk g o _ c c' e' _ (by simp) (by omega) hm (by omega) ?_) (hS.updBlk (o := .cells cur e' (0, 0)) (by simp [absent]) c1 c4 (Nat.le_of_eq c5.1.symm))
    intro q r hq
    rcases Nat.lt_or_ge q rows.length with hlt | hge
    ·rw [List.getElem?_append_left hlt] at hq
     refine ⟨(hrow q r hq).1, fun j v hj => ?_⟩
     have hjl : j < sz := by
      rcases Nat.lt_or_ge j r.length with hl | hg
      ·rw [(hrow q r hq).1] at hl; exact hl
      ·rw [List.getElem?_eq_none hg] at hj; cases hj
     have := Nat.mul_le_mul_right sz (show q + 1 ≤ n by omega); rw [Nat.add_mul] at this
     rw [c3, if_neg (by omega)]
     exact (hrow q r hq).2 j v hj
    ·rw [List.getElem?_append_right hge] at hq
     have hrl2 := hlen r (List.mem_of_getElem? hq)
     refine ⟨hrl2, fun j v hj => ?_⟩
     have hf := flat_get news hlen _ _ hq j v hj
     have hfl : (q - rows.length) * sz + j < news.flatten.length := by rcases Nat.lt_or_ge ((q - rows.length) * sz + j) news.flatten.length with hl | hg; exact hl; rw [List.getElem?_eq_none hg] at hf; cases hf
     have e1 : q * sz = n * sz + (q - rows.length) * sz := by rw [← Nat.add_mul, hn]; congr 1; omega
     rw [c3, if_pos (by omega), ← hf]
     congr 1; omega
   ·have hr := run_append_grow (P := P) w0 t ty e i z ht hi hz ⟨g, o, none⟩ n c rows.flatten (by rw [flat_length rows hrl, hn, hsize]) holds ad y.n y.c news.flatten hnl hcell (by omega) (by omega) (growslice_fits (by omega) (by rw [hby, hn, hyn]; omega))
    have hge := grownCap_ge w0 (n + y.n) c e
    obtain ⟨v', fr, hq⟩ := fresh w0 (grownCap w0 (n + y.n) c e) (rows.flatten.toArray ++ news.flatten.toArray ++ Builtin.zeroCells z.cells (grownCap w0 (n + y.n) c e - (n + y.n))) hs (by omega) (grownCap_le_maxLen w0 (n + y.n) c e (by simp only [maxLen]; omega)) (by
     rw [Array.size_append, Array.size_append, zcs, List.size_toArray, List.size_toArray, hnl, flat_length rows hrl, ← hn, ← hsize, ← Nat.add_mul, ← Nat.add_mul]
     exact Nat.mul_le_mul_right _ (by omega)) (by
     intro j v hj
     rw [Array.getElem?_append_left]
     ·rw [List.flatten_append] at hj
      simpa using hj
     ·rcases Nat.lt_or_ge j (rows ++ news).flatten.length with hl | hg
      ·simpa using hl
      ·rw [List.getElem?_eq_none hg] at hj; cases hj)
    refine ⟨_, _, v', hr, fr, ?_⟩
    rw [hn, hyn]; rw [← hn, ← hyn] at hq ⊢; exact hq


/-- append(x, y...): in place, or into a new row beside the old one -/
theorem Own.appendK {P : Program} {t ty : TypeId} {bytes : Nat} {zc : List Value} [hT : SlT P t (Dat.sz α) bytes zc] {m : List α} (h : Own u x l I) (hS : St u w L) [p : Pos I L R F]
  (hy : Src u w y m) (hb : l.length + m.length ≤ 1099511627776) (hby : bytes ≤ 128) {Q : Value → World → Prop}
  (k1 : ∀ w' I', Own u ⟨x.a, l.length + m.length, x.c⟩ (l ++ m) I' → St u w' (F I') → Q (Sl.mk x.a (l.length + m.length) x.c).val w')
  (k2 : ∀ x' w' I', Own u x' (l ++ m) I' → St u w' (I' ++ L) → Q x'.val w') : StepT P (Builtin.append_ #[t, t] ty #[x.val, y.val]) w Q := by
 obtain ⟨rows, h1, h2, h3⟩ := h
 obtain ⟨news, q1, q2, q3⟩ := hy
 have lens : ∀ {rows : List (List Value)} {l : List α}, Els BB u rows l → ∀ r ∈ rows, ∃ a : α, Dat.cells BB u r a := by
  intro rows l hE r hr
  obtain ⟨i, hi, rfl⟩ := List.getElem_of_mem hr
  exact ⟨l[i]'(by rw [← hE.1]; exact hi), hE.2 i _ _ (List.getElem?_eq_getElem hi) (List.getElem?_eq_getElem _)⟩
 have hle : (rows.length + news.length) * bytes ≤ BB * 128 := Nat.mul_le_mul (by rw [h2.1, q2.1]; exact hb) hby
 have els : Els BB u (rows ++ news) (l ++ m) := by
  refine ⟨by rw [List.length_append, List.length_append, h2.1, q2.1], fun i r a hr ha => ?_⟩
  rcases Nat.lt_or_ge i rows.length with hlt | hge
  ·rw [List.getElem?_append_left hlt] at hr
   rw [List.getElem?_append_left (by rw [← h2.1]; exact hlt)] at ha
   exact h2.2 i r a hr ha
  ·rw [List.getElem?_append_right hge] at hr
   rw [List.getElem?_append_right (by rw [← h2.1]; exact hge)] at ha
   exact q2.2 _ r a hr (by rw [h2.1]; exact ha)
 have hlen : (l ++ m).length ≤ BB := by rw [List.length_append]; exact hb
 refine h1.appendK hS q1 (fun r hr => let ⟨a, ha⟩ := lens q2 r hr; Dat.len (α := α) ha) (fun r hr => let ⟨a, ha⟩ := lens q2 r hr; Dat.one (α := α) ha) (fun r hr => let ⟨a, ha⟩ := lens h2 r hr; Dat.len (α := α) ha) hle (by have hBB : BB = 1099511627776 := rfl; rw [h2.1, q2.1]; simp only [maxLen]; omega) ?_ ?_
 ·intro w' I' hO hS'
  have e : rows.length + news.length = l.length + m.length := by rw [h2.1, q2.1]
  rw [e] at hO ⊢
  exact k1 w' I' ⟨_, hO, els, hlen⟩ hS'
 ·intro x' w' I' hO hS'
  exact k2 x' w' I' ⟨_, hO, els, hlen⟩ hS'
/-- what stands before is one's own too -/
theorem Own.front {a : Option Addr} {n c : Nat} {m : List α} (h : Own u ⟨a, n, c⟩ (l ++ m) I) : Own u ⟨a, l.length, c⟩ l I := by
 obtain ⟨rows, h1, h2, h3⟩ := h
 have hl : rows.length = l.length + m.length := by rw [h2.1, List.length_append]
 have hE : Els BB u (rows.take l.length) l := by
  refine ⟨by rw [List.length_take]; omega, fun i r b hr hb => ?_⟩
  have hi := (List.getElem?_eq_some_iff.1 hb).1
  rw [List.getElem?_take, if_pos hi] at hr
  exact h2.2 i r b hr (by rw [List.getElem?_append_left hi]; exact hb)
 have hB : l.length ≤ BB := by rw [List.length_append] at h3; omega
 refine ⟨rows.take l.length, ?_, hE, hB⟩
 generalize hx : (⟨a, n, c⟩ : Sl) = x at h1
 cases h1 with
 | nil =>
  cases hx
  have : l.length = 0 := by simp at hl; omega
  rw [this]
  exact .nil
 | blk g o n' c' cur e _ hn hc hm hs hr =>
  cases hx
  refine .blk g o _ c cur e _ (by rw [List.length_take]; omega) (by omega) hm hs fun q r hq => ?_
  rw [List.getElem?_take] at hq
  split at hq
  ·exact hr q r hq
  ·cases hq
end
end Go.Vc
