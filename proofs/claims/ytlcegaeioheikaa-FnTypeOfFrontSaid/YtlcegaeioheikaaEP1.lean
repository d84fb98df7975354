/- Part of the proofs about the heaps and memories: a law is joined in the text whose name ends in W and the law. -/
import Derived.Test.YtlcegaeioheikaaEE4
import Derived.Test.YtlcegaeioheikaaET0
import Derived.Test.YtlcegaeioheikaaEB1
import Derived.Test.YtlcegaeioheikaaEV3
namespace Go.Vc
open Go Go.RowKit
set_option linter.all false
section
variable {α : Type} [Dat α] {u w w' : World} {x y : Sl} {l : List α} {rows : List (List Value)} {sz : Nat} {L I R : Items} {F : Items → Items}
theorem OSl.appendK {P : Program} {t ty : TypeId} {bytes : Nat} {zc : List Value} [hT : SlT P t sz bytes zc] (h : OSl sz x rows I) (hS : St u w L) [p : Pos I L R F] {news : List (List Value)}
  (hy : Rows w y sz news) (hlen : ∀ r ∈ news, r.length = sz) (h1 : ∀ r ∈ news, ∀ v ∈ r, v.oneCell' = true) (hrl : ∀ r ∈ rows, r.length = sz) (hb : (rows.length + news.length) * bytes ≤ 140737488355328) (hb2 : rows.length + news.length ≤ maxLen) {Q : Value → World → Prop}
  (k1 : ∀ w' I', OSl sz ⟨x.a, rows.length + news.length, x.c⟩ (rows ++ news) I' → St u w' (F I') → Q (Sl.mk x.a (rows.length + news.length) x.c).val w') (k2 : ∀ x' w' I', OSl sz x' (rows ++ news) I' → St u w' (I' ++ L) → Q x'.val w') : StepT P (Builtin.append_ #[t, t] ty #[x.val, y.val]) w Q := by
 obtain ⟨e, i, z, ht, hi, hz, hsize, hby, hzc, hzl, hsz⟩ := hT.ex
 have hzs : z.cells.size = i.size := by rw [← Array.length_toList, hzc, hzl, hsize]
 have hxn := h.len
 have hyn := hy.1
 have hnl : news.flatten.length = y.n * i.size := by rw [flat_length news hlen, hyn, hsize]
 have hone : ∀ v ∈ news.flatten, v.oneCell' = true := by
  intro v hv
  obtain ⟨r, hr, hvr⟩ := List.mem_flatten.1 hv
  exact h1 r hr v hvr
 simp only [maxLen] at hb2
 have keep : ∀ w0 : World, Sub w w0 → Q x.val w → news = [] → (Builtin.append_ #[t, t] ty #[x.val, y.val]).run P w0 = .ok x.val w0 → ∃ r w' v', (Builtin.append_ #[t, t] ty #[x.val, y.val]).run P w0 = .ok r w' ∧ Fr w w0 v' w' ∧ Q r v' :=
  fun w0 hs hq _ hr => ⟨_, w0, w, hr, .refl hs, hq⟩
 -- a new block
 have fresh : ∀ (w0 : World) (c : Nat) (cur : Array Value), Sub w w0 → rows.length + news.length ≤ c → c ≤ maxLen → c * sz ≤ cur.size → (∀ (j : Nat) (v : Value), (rows ++ news).flatten[j]? = some v → cur[j]? = some v) →
   ∃ v', Fr w w0 v' (w0.drew.alloc (.cells cur e)) ∧ Q (.slice (some ⟨w0.heap.size, 0, none⟩) (rows.length + news.length) c) v' := by
  intro w0 c cur hs hc hm hcs hcur
  have hs' : Sub w w0.drew := ⟨hs.size, hs.at_⟩
  obtain ⟨v', fr, hq⟩ := newAt_step (o := .cells cur e) (Q := fun a w' => ∃ g, a = ⟨g, 0, none⟩ ∧ Q (.slice (some ⟨g, 0, none⟩) (rows.length + news.length) c) w') hs' (fun g w' hg hsub hh => by
   refine ⟨g, rfl, k2 ⟨some ⟨g, 0, none⟩, rows.length + news.length, c⟩ w' _ (.blk g 0 _ c cur e _ (by simp) hc hm (by omega) ?_) (hS.new hg hsub hh (by simp [absent]))⟩
   intro q r hq
   have hall : ∀ r ∈ rows ++ news, r.length = sz := fun r hr => (List.mem_append.1 hr).elim (hrl r) (hlen r)
   exact ⟨hall r (List.mem_of_getElem? hq), fun j v hj => hcur _ v (by rw [Nat.zero_add]; exact flat_get _ hall q r hq j v hj)⟩)
  obtain ⟨g, hg, hq⟩ := hq
  cases hg
  exact ⟨v', ⟨fr.sub, fr.size, fr.os, fr.tape, fr.output, fr.out⟩, hq⟩
 have zcs : ∀ m, (Builtin.zeroCells z.cells m).size = m * i.size := fun m => by rw [size_zeroCells, hzs]
 intro w0 hs
 cases hya : y.a with
 | none =>
  have hn0 : news = [] := by
   cases news with
   | nil => rfl
   | cons r rest => have := (hy.2.2 0 r rfl).1; rw [hya] at this; cases this
  subst hn0
  have hm : y.n = 0 := by rw [hyn]; rfl
  have hxe : (Sl.mk x.a (rows.length + ([] : List (List Value)).length) x.c) = x := by rw [List.length_nil, Nat.add_zero, ← hxn]
  have hq : Q x.val w := by
   have := k1 w I (by rw [hxe]; simpa using h) (hS.upd (I' := I) (fun b o hb _ _ => hb) hS.items hS.nodupI (fun b hb => .inl hb) (Nat.le_refl _))
   rwa [hxe] at this
  refine keep w0 hs hq rfl ?_
  cases h with
  | nil => simp [Sl.val, hya, hm, Builtin.append_, run_underlying ht, run_size hi, Builtin.lenOf, Builtin.firstCells]
  | blk g o n c cur e' _ hn hc hm' hs' hr => simp [Sl.val, hya, hm, Builtin.append_, run_underlying ht, run_size hi, Builtin.lenOf, Builtin.firstCells, hc, storeCells]
 | some ad =>
  have hcell : ∀ j v, news.flatten[j]? = some v → w0.cell? (ad.add j) = some v := fun j v hj => cell_sub hs (hy.flat hlen hsz hya j v hj)
  have hyv : y.val = .slice (some ad) y.n y.c := by simp [Sl.val, hya]
  rw [hyv]
  cases h with
  | nil =>
   simp only [List.length_nil, Nat.zero_add] at hb hb2 fresh
   by_cases hm : y.n = 0
   ·have hn0 : news = [] := List.eq_nil_of_length_eq_zero (by omega)
    subst hn0
    have hq : Q (Sl.mk none 0 0).val w := k1 w [] .nil (hS.upd (I' := []) (I := []) (fun b o hb _ _ => hb) (by simp [AtAll]) (by simp) (fun b hb => .inl hb) (Nat.le_refl _))
    rw [← hyv]
    refine keep w0 hs hq rfl ?_
    rw [hyv]
    simp [Sl.val, hm, Builtin.append_, run_underlying ht, run_size hi, Builtin.lenOf, Builtin.firstCells, loadCells, loadCellsFrom]
   ·have hr := run_append_nil (P := P) w0 t ty e i z ht hi hz ad y.n y.c news.flatten hnl hcell (by omega) (by omega) (by rw [hby, hyn]; omega)
    have hge := grownCap_ge w0 y.n 0 e
    obtain ⟨v', fr, hq⟩ := fresh w0 (grownCap w0 y.n 0 e) (news.flatten.toArray ++ Builtin.zeroCells z.cells (grownCap w0 y.n 0 e - y.n)) hs (by omega) (grownCap_le_maxLen w0 y.n 0 e (by simp only [maxLen]; omega)) (by
     rw [Array.size_append, zcs, List.size_toArray, hnl, ← Nat.add_mul, hsize]
     exact Nat.mul_le_mul_right _ (by omega)) (by
     intro j v hj
     simp only [List.nil_append] at hj
     rw [Array.getElem?_append_left]
     ·simpa using hj
     ·rcases Nat.lt_or_ge j news.flatten.length with hl | hg
      ·simpa using hl
      ·rw [List.getElem?_eq_none hg] at hj; cases hj)
    refine ⟨_, _, v', hr, fr, ?_⟩
    rw [hyn]; rw [← hyn] at hq ⊢; exact hq
  | blk g o n c cur e' _ hn hc hm hcs hrow =>
   have hA := (hS.items (I := [(g, .cells cur e' (0, 0))]) (g, .cells cur e' (0, 0)) (by simp)).1
   have holds : ∀ j v, rows.flatten[j]? = some v → w0.cell? ((⟨g, o, none⟩ : Addr).add j) = some v := by
    intro j v hj
    obtain ⟨r, q1, q2⟩ := flat_row hsz rows hrl j v hj
    rw [cell_blk (hs.at_ _ _ hA (by simp [absent])) rfl]
    have := (hrow _ _ q1).2 _ _ q2
    rwa [Nat.add_assoc, Nat.div_mul_self_eq_mod_sub_self, Nat.sub_add_cancel (Nat.mod_le _ _)] at this
   by_cases hroom : n + y.n ≤ c
   ·have hfit : n * sz + news.flatten.length ≤ c * sz := by rw [hnl, hsize, ← Nat.add_mul]; exact Nat.mul_le_mul_right _ hroom
    have ea : (⟨g, o, none⟩ : Addr).add (n * i.size) = (⟨g, 0, none⟩ : Addr).add (o + n * sz) := by rw [box_add, box_add, hsize]; simp
    have hcan : CanSet w ((⟨g, o, none⟩ : Addr).add (n * i.size)) 0 news.flatten := by rw [ea]; exact canSet_add _ _ _ _ _ (canSet_blk hA _ _ (by omega))
    have hget := canSet_get hcan
    have hr := run_append_roomA (P := P) (ty := ty) ht hi w0 ⟨g, o, none⟩ n c y.n y.c ad news.flatten hnl hcell hone hroom (fun j hj => ⟨let ⟨q, hq⟩ := (hget j hj).1; ⟨q, cell_sub hs hq⟩, let ⟨q, hq⟩ := (hget j hj).1; frozen_sub hs hq (hget j hj).2⟩)
    refine ⟨_, _, _, hr, setCellsW_fr _ _ hs hcan, ?_⟩
    rw [ea, setCellsW_add, Nat.add_zero]
    obtain ⟨c', c1, c2, c3, c4, c5⟩ := setCellsW_blk (k := o + n * sz) (l := news.flatten) hA (by omega)
    have e0 : n + y.n = rows.length + news.length := by rw [hn, hyn]
    rw [e0]
    refine k1 _ _ (.blk g o _ c c' e' _ (by simp) (by omega) hm (by omega) ?_) (hS.updBlk (o := .cells cur e' (0, 0)) (by simp [absent]) c1 c4 (Nat.le_of_eq c5.1.symm))
    intro q r hq
    rcases Nat.lt_or_ge q rows.length with hlt | hge
    ·rw [List.getElem?_append_left hlt] at hq
     refine ⟨(hrow q r hq).1, fun j v hj => ?_⟩
     have hjl : j < sz := by
      rcases Nat.lt_or_ge j r.length with hl | hg
      ·rw [(hrow q r hq).1] at hl; exact hl
      ·rw [List.getElem?_eq_none hg] at hj; cases hj
     have := Nat.mul_le_mul_right sz (show q + 1 ≤ n by omega); rw [Nat.add_mul] at this
     rw [c3, if_neg (by omega)]
     exact (hrow q r hq).2 j v hj
    ·rw [List.getElem?_append_right hge] at hq
     have hrl2 := hlen r (List.mem_of_getElem? hq)
     refine ⟨hrl2, fun j v hj => ?_⟩
     have hf := flat_get news hlen _ _ hq j v hj
     have hfl : (q - rows.length) * sz + j < news.flatten.length := by rcases Nat.lt_or_ge ((q - rows.length) * sz + j) news.flatten.length with hl | hg; exact hl; rw [List.getElem?_eq_none hg] at hf; cases hf
     have e1 : q * sz = n * sz + (q - rows.length) * sz := by rw [← Nat.add_mul, hn]; congr 1; omega
     rw [c3, if_pos (by omega), ← hf]
     congr 1; omega
   ·have hr := run_append_grow (P := P) w0 t ty e i z ht hi hz ⟨g, o, none⟩ n c rows.flatten (by rw [flat_length rows hrl, hn, hsize]) holds ad y.n y.c news.flatten hnl hcell (by omega) (by omega) (growslice_fits (by omega) (by rw [hby, hn, hyn]; omega))
    have hge := grownCap_ge w0 (n + y.n) c e
    obtain ⟨v', fr, hq⟩ := fresh w0 (grownCap w0 (n + y.n) c e) (rows.flatten.toArray ++ news.flatten.toArray ++ Builtin.zeroCells z.cells (grownCap w0 (n + y.n) c e - (n + y.n))) hs (by omega) (grownCap_le_maxLen w0 (n + y.n) c e (by simp only [maxLen]; omega)) (by
     rw [Array.size_append, Array.size_append, zcs, List.size_toArray, List.size_toArray, hnl, flat_length rows hrl, ← hn, ← hsize, ← Nat.add_mul, ← Nat.add_mul]
     exact Nat.mul_le_mul_right _ (by omega)) (by
     intro j v hj
     rw [Array.getElem?_append_left]
     ·rw [List.flatten_append] at hj
      simpa using hj
     ·rcases Nat.lt_or_ge j (rows ++ news).flatten.length with hl | hg
      ·simpa using hl
      ·rw [List.getElem?_eq_none hg] at hj; cases hj)
    refine ⟨_, _, v', hr, fr, ?_⟩
    rw [hn, hyn]; rw [← hn, ← hyn] at hq ⊢; exact hq


/-- append(x, y...): in place, or into a new row beside the old one -/
theorem Own.appendK {P : Program} {t ty : TypeId} {bytes : Nat} {zc : List Value} [hT : SlT P t (Dat.sz α) bytes zc] {m : List α} (h : Own u x l I) (hS : St u w L) [p : Pos I L R F]
  (hy : Src u w y m) (hb : l.length + m.length ≤ 1099511627776) (hby : bytes ≤ 128) {Q : Value → World → Prop}
  (k1 : ∀ w' I', Own u ⟨x.a, l.length + m.length, x.c⟩ (l ++ m) I' → St u w' (F I') → Q (Sl.mk x.a (l.length + m.length) x.c).val w')
  (k2 : ∀ x' w' I', Own u x' (l ++ m) I' → St u w' (I' ++ L) → Q x'.val w') : StepT P (Builtin.append_ #[t, t] ty #[x.val, y.val]) w Q := by
 obtain ⟨rows, h1, h2, h3⟩ := h
 obtain ⟨news, q1, q2, q3⟩ := hy
 have lens : ∀ {rows : List (List Value)} {l : List α}, Els BB u rows l → ∀ r ∈ rows, ∃ a : α, Dat.cells BB u r a := by
  intro rows l hE r hr
  obtain ⟨i, hi, rfl⟩ := List.getElem_of_mem hr
  exact ⟨l[i]'(by rw [← hE.1]; exact hi), hE.2 i _ _ (List.getElem?_eq_getElem hi) (List.getElem?_eq_getElem _)⟩
 have hle : (rows.length + news.length) * bytes ≤ BB * 128 := Nat.mul_le_mul (by rw [h2.1, q2.1]; exact hb) hby
 have els : Els BB u (rows ++ news) (l ++ m) := by
  refine ⟨by rw [List.length_append, List.length_append, h2.1, q2.1], fun i r a hr ha => ?_⟩
  rcases Nat.lt_or_ge i rows.length with hlt | hge
  ·rw [List.getElem?_append_left hlt] at hr
   rw [List.getElem?_append_left (by rw [← h2.1]; exact hlt)] at ha
   exact h2.2 i r a hr ha
  ·rw [List.getElem?_append_right hge] at hr
   rw [List.getElem?_append_right (by rw [← h2.1]; exact hge)] at ha
   exact q2.2 _ r a hr (by rw [h2.1]; exact ha)
 have hlen : (l ++ m).length ≤ BB := by rw [List.length_append]; exact hb
 refine h1.appendK hS q1 (fun r hr => let ⟨a, ha⟩ := lens q2 r hr; Dat.len (α := α) ha) (fun r hr => let ⟨a, ha⟩ := lens q2 r hr; Dat.one (α := α) ha) (fun r hr => let ⟨a, ha⟩ := lens h2 r hr; Dat.len (α := α) ha) hle (by have hBB : BB = 1099511627776 := rfl; rw [h2.1, q2.1]; simp only [maxLen]; omega) ?_ ?_
 ·intro w' I' hO hS'
  have e : rows.length + news.length = l.length + m.length := by rw [h2.1, q2.1]
  rw [e] at hO ⊢
  exact k1 w' I' ⟨_, hO, els, hlen⟩ hS'
 ·intro x' w' I' hO hS'
  exact k2 x' w' I' ⟨_, hO, els, hlen⟩ hS'
/-- what stands before is one's own too -/
theorem Own.front {a : Option Addr} {n c : Nat} {m : List α} (h : Own u ⟨a, n, c⟩ (l ++ m) I) : Own u ⟨a, l.length, c⟩ l I := by
 obtain ⟨rows, h1, h2, h3⟩ := h
 have hl : rows.length = l.length + m.length := by rw [h2.1, List.length_append]
 have hE : Els BB u (rows.take l.length) l := by
  refine ⟨by rw [List.length_take]; omega, fun i r b hr hb => ?_⟩
  have hi := (List.getElem?_eq_some_iff.1 hb).1
  rw [List.getElem?_take, if_pos hi] at hr
  exact h2.2 i r b hr (by rw [List.getElem?_append_left hi]; exact hb)
 have hB : l.length ≤ BB := by rw [List.length_append] at h3; omega
 refine ⟨rows.take l.length, ?_, hE, hB⟩
 generalize hx : (⟨a, n, c⟩ : Sl) = x at h1
 cases h1 with
 | nil =>
  cases hx
  have : l.length = 0 := by simp at hl; omega
  rw [this]
  exact .nil
 | blk g o n' c' cur e _ hn hc hm hs hr =>
  cases hx
  refine .blk g o _ c cur e _ (by rw [List.length_take]; omega) (by omega) hm hs fun q r hq => ?_
  rw [List.getElem?_take] at hq
  split at hq
  ·exact hr q r hq
  ·cases hq
end
end Go.Vc

namespace Go.Vc
open Go Go.Proofs Go.RowKit
set_option linter.all false
/-- a function: its signature and its body -/
structure FunD where
 params : List Int
 result : Int
 body : ExprD
instance : Inhabited FunD := ⟨⟨[], 0, default⟩⟩
noncomputable instance : DecidableEq FunD := fun a b => Classical.propDecidable _
instance : Dat FunD where
 sz := 5
 cells B w cs c := ∃ f k : Sl, cs = [f.val, intV c.result, intV c.body.op, intV c.body.num, k.val] ∧ InI c.result ∧ InI c.body.op ∧ InI c.body.num ∧ ReadB B w f c.params ∧ ReadB B w k c.body.kids
 mono := fun hs ⟨f, k, h0, i, j, l, r, q⟩ => ⟨f, k, h0, i, j, l, r.mono hs, q.mono hs⟩
 len := fun ⟨f, k, h0, _⟩ => by rw [h0]; rfl
 one := fun ⟨f, k, h0, _⟩ v hv => by
  rw [h0] at hv; simp only [List.mem_cons, List.not_mem_nil, or_false] at hv
  rcases hv with rfl | rfl | rfl | rfl | rfl <;> rfl
def sgE (f : FunD) : SigD := ⟨f.params, [], f.result⟩
theorem nth_sgE (fs : List FunD) (i : Int) : nth (fs.map sgE) i = sgE (nth fs i) := by
 unfold nth List.getD
 rw [List.getElem?_map]
 cases fs[i.toNat]? <;> rfl
theorem lentOk_nil (ps : List Int) : lentOk ps [] := fun i h0 h1 => by simp at h1; omega
theorem Src.ofFunD {u w : World} {x : Sl} {l : List FunD} {i : Int} (hx : Src u w x l) (h0 : 0 ≤ i) (h1 : i < l.length) : ∃ f k : Sl, w.cell? ((elA x i 5).add 0) = some f.val ∧ w.cell? ((elA x i 5).add 1) = some (.int .i64 (nth l i).result) ∧ w.cell? ((elA x i 5).add 2) = some (.int .i64 (nth l i).body.op) ∧ w.cell? ((elA x i 5).add 3) = some (.int .i64 (nth l i).body.num) ∧ w.cell? ((elA x i 5).add 4) = some k.val ∧
  InI (nth l i).result ∧ InI (nth l i).body.op ∧ InI (nth l i).body.num ∧ Read u f (nth l i).params ∧ Read u k (nth l i).body.kids := by
 obtain ⟨r, ⟨f, k, rfl, i1, i2, i3, r1, r2⟩, h5⟩ := hx.row h0 h1
 exact ⟨f, k, h5 0 _ rfl, h5 1 _ rfl, h5 2 _ rfl, h5 3 _ rfl, h5 4 _ rfl, i1, i2, i3, r1, r2⟩
section
variable {u v w : World} {x y z s px : Sl} {ds : List DeclD} {fs : List FunD} {n i : Int}
theorem c_specValidSigsF (hx : Read v x ds) (hy : Read v y fs) : Fn Try.prog 23 #[.agg #[x.val, y.val]] v (.bool (pB (sigSigs ds (fs.map sgE)))) := by
 refine of23 _ _ _ _ ?_
 unfold vc23
 have hxn := hx.n
 have hxl := hx.le
 have hyn := hy.n
 have hml : (fs.map sgE).length = fs.length := by simp
 have bad : ¬ sigSigs ds (fs.map sgE) → Value.bool false = .bool (pB (sigSigs ds (fs.map sgE))) := fun h => by rw [pB_f h]
 refine ⟨_, c_specValidTypes hx, _, fun _ => c_inRange, fun hq => ⟨?_, .refl v⟩, fun hq => ?_⟩
 ·refine bad fun h => ?_
  rw [typesB_t h.1] at hq
  have h2 := h.2.1
  have h3 := h.2.2.1
  simp at hq h2 h3
  omega
 simp only [Bool.or_eq_false_iff, Bool.not_eq_false', Bool.and_eq_true, decide_eq_true_eq] at hq
 have hty := typesB_iff.1 hq.1
 have hlen := hty.1
 refine ⟨fun i w => v = w ∧ 0 ≤ i ∧ i ≤ fs.length ∧ ∀ j : Int, 0 ≤ j → j < i → sigP ds (nth fs j).params (nth fs j).result, fun i _ => (fs.length - i).toNat, ⟨rfl, by omega, by omega, fun j j0 j1 => by omega⟩, ?_⟩
 rintro i _ ⟨rfl, i0, i1, h⟩
 dsimp only
 refine ⟨fun hi => ?_, fun hi => ?_⟩
 ·simp only [bls] at hi
  have hil : i < fs.length := by omega
  obtain ⟨f1, k1, e1, e2, e3, e4, e5, j1, j2, j3, r1, r2⟩ := (hy.src (.refl v)).ofFunD i0 hil
  have hfn := r1.n
  refine go_ix hy i0 hil ?_
  refine ⟨f1, _, _, _, k1, ⟨e1, e2, e3, e4, e5⟩, ?_⟩
  refine ⟨_, fun _ => c_allTypes hxn hxl r1, _, fun _ => c_inRange, fun hq => ⟨?_, .refl v⟩, fun hq => ?_⟩
  ·refine bad fun h => ?_
   have h6 := h.2.2.2.2.2 i i0 (by omega)
   rw [nth_sgE] at h6
   obtain ⟨⟨s1, s2, s3⟩, _⟩ := h6
   unfold typeB at s3
   have s2' : (nth fs i).params.all (typeB ds.length) = true := s2
   have s1' : (nth fs i).params.length ≤ 3 := s1
   have s3' : (decide (0 ≤ (nth fs i).result) && decide ((nth fs i).result ≤ (ds.length : Int))) = true := s3
   rw [s2', hxn, s3'] at hq
   simp at hq
   omega
  ·have hs : sigP ds (nth fs i).params (nth fs i).result := by
    simp only [Bool.or_eq_false_iff, Bool.not_eq_false'] at hq
    refine ⟨by have := of_decide_eq_false hq.1.1; omega, hq.1.2, ?_⟩
    have := hq.2
    rw [hxn] at this
    exact this
   refine go_wr (by omega) (by omega) ?_
   refine ⟨rfl, rfl, ⟨rfl, by omega, by omega, fun j j0 j1 => ?_⟩, by omega⟩
   by_cases e : j = i
   ·rw [e]; exact hs
   ·exact h j j0 (by omega)
 ·simp only [bls] at hi
  have h0 : (0 : Int) < fs.length := by omega
  obtain ⟨f1, k1, e1, e2, e3, e4, e5, j1, j2, j3, r1, r2⟩ := (hy.src (.refl v)).ofFunD (Int.le_refl 0) h0
  have hfn := r1.n
  refine go_ix hy (Int.le_refl 0) h0 ?_
  refine ⟨f1, e1, fun _ => hy.ix (Int.le_refl 0) h0, _, fun _ => e2, ?_, .refl v⟩
  congr 1
  refine pB_eq ?_
  simp only [Bool.and_eq_true, decide_eq_true_eq]
  constructor
  ·intro hq2
   refine ⟨hty, by omega, by omega, ?_, ?_, fun j j0 j1 => ?_⟩
   ·rw [nth_sgE]; show (nth fs 0).params.length = 0; omega
   ·rw [nth_sgE]; exact hq2.2
   ·rw [nth_sgE]; exact ⟨h j j0 (by omega), lentOk_nil _⟩
  ·intro hh
   have h4 := hh.2.2.2.1
   have h5 := hh.2.2.2.2.1
   rw [nth_sgE] at h4 h5
   have h4' : (nth fs 0).params.length = 0 := h4
   exact ⟨by omega, h5⟩
theorem c_sigsOf (hx : Read v x ds) (hy : Read v y fs) : Mk Try.prog 20 #[.agg #[x.val, y.val]] v fun r J => ∃ s, r = .agg #[x.val, s.val] ∧ Own v s (fs.map sgE) J := by
 refine of20 _ _ _ _ ?_
 unfold vc20
 have hyn := hy.n
 have hyl := hy.le
 refine ⟨fun i z w => ∃ I, Own v z ((fs.take i.toNat).map sgE) I ∧ St v w (I ++ []) ∧ 0 ≤ i ∧ i ≤ fs.length, fun i _ _ => (fs.length - i).toNat, ⟨[], Own.nil v, St.refl v, by omega, by omega⟩, ?_⟩
 rintro i z w ⟨I, hO, hS, i0, i1⟩
 dsimp only
 refine ⟨fun hi => ?_, fun hi => ?_⟩
 ·simp only [bls] at hi
  have hil : i < fs.length := by omega
  obtain ⟨f1, k1, e1, e2, e3, e4, e5, j1, j2, j3, r1, r2⟩ := (hy.src hS.sub).ofFunD i0 hil
  refine go_ix hy i0 hil ?_
  refine ⟨f1, _, _, _, k1, ⟨e1, e2, e3, e4, e5⟩, ?_⟩
  refine St.build (α := SigD) (l := [sgE (nth fs i)]) hS (.cons ⟨rfl, f1, ⟨none, 0, 0⟩, rfl, j1, r1, ReadB.nil⟩ .nil) rfl (by decide) ?_
  intro x4 w4 I4 hO4 hS hs
  refine ⟨_, rfl, ?_⟩
  refine Own.append hO hS (Own.src hO4 hS) (by simp; omega) (by decide) ?_
  intro x5 w5 I5 hO5 hS
  refine ⟨_, rfl, ?_⟩
  refine go_wr (by omega) (by omega) ?_
  refine ⟨rfl, rfl, rfl, rfl, rfl, ⟨I5, ?_, hS.to, by omega, by omega⟩, by omega⟩
  rw [take_nth i0 hil, List.map_append]
  exact hO5
 ·simp only [bls] at hi
  rw [take_all (by omega)] at hO
  exact ⟨I, by simpa using hS, z, rfl, hO⟩
theorem c_implValidSigsF (hx : Read v x ds) (hy : Read v y fs) : Fn Try.prog 17 #[.agg #[x.val, y.val]] v (.bool (pB (sigSigs ds (fs.map sgE)))) := by
 refine of17 _ _ _ _ ?_
 unfold vc17
 have hyn := hy.n
 have hyl := hy.le
 refine St.make0 (α := SigD) (St.refl v) (by omega) (by omega) (by decide) ?_
 intro z0 w0 I0 hO0 hS0 hs0
 refine ⟨_, rfl, fun hc => ⟨?_, hS0.sub⟩, fun hc => ?_⟩
 ·simp only [bls] at hc
  rw [pB_f]
  intro h
  have h3 := h.2.2.1
  simp at h3
  omega
 simp only [bls] at hc
 refine ⟨fun z i w => ∃ I, Own v z ((fs.take i.toNat).map sgE) I ∧ St v w (I ++ []) ∧ 0 ≤ i ∧ i ≤ fs.length, fun _ i _ => (fs.length - i).toNat, ⟨I0, by simpa using hO0, hS0, by omega, by omega⟩, ?_⟩
 clear hO0 hS0 hs0
 rintro z i w ⟨I, hO, hS, i0, i1⟩
 dsimp only
 refine ⟨fun hi => ?_, fun hi => ?_⟩
 ·simp only [bls] at hi
  have hil : i < fs.length := by omega
  obtain ⟨f1, k1, e1, e2, e3, e4, e5, j1, j2, j3, r1, r2⟩ := (hy.src hS.sub).ofFunD i0 hil
  refine go_ix hy i0 hil ?_
  refine ⟨f1, _, _, _, k1, ⟨e1, e2, e3, e4, e5⟩, ?_⟩
  refine St.build (α := SigD) (l := [sgE (nth fs i)]) hS (.cons ⟨rfl, f1, ⟨none, 0, 0⟩, rfl, j1, r1, ReadB.nil⟩ .nil) rfl (by decide) ?_
  intro x4 w4 I4 hO4 hS hs
  refine ⟨_, rfl, ?_⟩
  refine Own.append hO hS (Own.src hO4 hS) (by simp; omega) (by decide) ?_
  intro x5 w5 I5 hO5 hS
  refine ⟨_, rfl, ?_⟩
  refine go_wr (by omega) (by omega) ?_
  refine ⟨rfl, rfl, ⟨I5, ?_, hS.to, by omega, by omega⟩, by omega⟩
  rw [take_nth i0 hil, List.map_append]
  exact hO5
 ·simp only [bls] at hi
  rw [take_all (by omega)] at hO
  exact ⟨_, c_implValidSigs (hx.mono hS.sub) (hO.read hS), rfl, hS.sub⟩
end
end Go.Vc

namespace Go.Vc
open Go Go.Proofs Go.RowKit
set_option linter.all false
/-- what all kids give, if each of them gives something -/
def allT : List (Option Int) → Option (List Int)
 | [] => some []
 | o :: r => match o, allT r with
  | some t, some T => some (t :: T)
  | _, _ => none
def kf (ks : List (List Int → Option Int)) (i : Nat) : List Int → Option Int := ks.getD i (fun _ => none)
def armT (vars : List Int) (fs : List (List Int)) (ks : List (List Int → Option Int)) : List (Option Int) := List.zipWith (fun f k => k (vars ++ f)) fs ks
open Classical in
/-- the type of a node, from what its kids give for lists of variables -/
noncomputable def ndT (ds : List DeclD) (ss : List SigD) (op num : Int) (ks : List (List Int → Option Int)) (vars : List Int) : Option Int :=
 if op = 12 then (if ks.length = 0 ∧ 0 ≤ num ∧ num < vars.length then some (nth vars num) else none)
 else if op = 13 then (if ks.length = 2 ∧ num = 0 then (kf ks 0 vars).bind fun t => kf ks 1 (vars ++ [t]) else none)
 else if op = 7 then (if ks.length = 3 ∧ num = 0 ∧ kf ks 0 vars = some 0 then same1 (armT vars [[], []] (ks.drop 1)) else none)
 else if op = 8 then (if 0 < (armF ds num).length ∧ ks.length = 1 + (armF ds num).length ∧ kf ks 0 vars = some num then same1 (armT vars (armF ds num) (ks.drop 1)) else none)
 else (allT (ks.map fun k => k vars)).bind (simB ds ss op num)
mutual
/-- the type of an expression -/
noncomputable def tyX (ds : List DeclD) (ss : List SigD) : ExprD → List Int → Option Int
 | ⟨op, num, kids⟩ => ndT ds ss op num (tyK ds ss kids)
noncomputable def tyK (ds : List DeclD) (ss : List SigD) : List ExprD → List (List Int → Option Int)
 | [] => []
 | k :: r => tyX ds ss k :: tyK ds ss r
end
section
variable {ds : List DeclD} {ss : List SigD} {vars : List Int} {e : ExprD} {n : Int} {kids : List ExprD} {L : List (Option Int)} {T W : List Int} {t : Int}
theorem tyK_map : ∀ l : List ExprD, tyK ds ss l = l.map (tyX ds ss)
 | [] => by rw [tyK]; rfl
 | k :: r => by rw [tyK, tyK_map r]; rfl
theorem tyX_eq : tyX ds ss e = ndT ds ss e.op e.num (e.kids.map (tyX ds ss)) := by
 cases e
 rw [tyX, tyK_map]
 rfl
theorem kf_map {i : Nat} (h : i < kids.length) : kf (kids.map (tyX ds ss)) i = tyX ds ss (nth kids (i : Int)) := by
 unfold kf nth
 simp [List.getD, h]
theorem mapS_inj {a b : List Int} (h : a.map some = b.map some) : a = b := by
 induction a generalizing b with
 | nil => cases b with
  | nil => rfl
  | cons => cases h
 | cons x r ih => cases b with
  | nil => cases h
  | cons y q =>
   simp only [List.map_cons, List.cons.injEq, Option.some.injEq] at h
   rw [h.1, ih h.2]
theorem allT_some : allT L = some T ↔ L = T.map some := by
 induction L generalizing T with
 | nil => cases T with
  | nil => simp [allT]
  | cons a b => simp [allT]
 | cons o r ih =>
  cases o with
  | none => cases T with
   | nil => simp [allT]
   | cons a b => simp [allT]
  | some t =>
   cases hr : allT r with
   | none =>
    simp only [allT, hr]
    cases T with
    | nil => simp
    | cons a b =>
     simp only [List.map_cons, List.cons.injEq, Option.some.injEq]
     refine ⟨fun h => (by cases h), fun h => ?_⟩
     rw [ih.2 h.2] at hr
     cases hr
   | some T' =>
    simp only [allT, hr]
    cases T with
    | nil => simp
    | cons a b =>
     simp only [List.map_cons, List.cons.injEq, Option.some.injEq]
     rw [← ih, hr, Option.some.injEq]
theorem sim_want {op num : Int} (h : ∀ t0, wantB ds ss op num t0 = some (W, n)) : (allT L).bind (simB ds ss op num) = if L = W.map some then some n else none := by
 classical
 cases hT : allT L with
 | none =>
  rw [if_neg]
  ·rfl
  intro hh
  rw [allT_some.2 hh] at hT; cases hT
 | some T =>
  have hL := allT_some.1 hT
  show simB ds ss op num T = _
  unfold simB
  rw [h]
  dsimp only
  by_cases hW : T = W
  ·rw [if_pos hW, if_pos (by rw [hL, hW])]
  ·rw [if_neg hW, if_neg]
   intro hh
   rw [hh] at hL
   exact hW (mapS_inj hL).symm
theorem sim_none {op num : Int} (h : ∀ t0, wantB ds ss op num t0 = none) : (allT L).bind (simB ds ss op num) = none := by
 cases hT : allT L with
 | none => rfl
 | some T => show simB ds ss op num T = none; unfold simB; rw [h]
theorem armT_mem {fs : List (List Int)} {ks : List (List Int → Option Int)} {o : Option Int} (h : o ∈ armT vars fs ks) : ∃ f ∈ fs, ∃ k ∈ ks, o = k (vars ++ f) := by
 unfold armT at h
 obtain ⟨i, hi, rfl⟩ := List.getElem_of_mem h
 rw [List.length_zipWith] at hi
 rw [List.getElem_zipWith]
 exact ⟨_, List.getElem_mem (by omega), _, List.getElem_mem (by omega), rfl⟩
theorem armF_nnM (hd : typesOk ds) {f : List Int} (hf : f ∈ armF ds n) : nonneg f ∧ f.length ≤ 3 := by
 unfold armF at hf
 obtain ⟨c, _, rfl⟩ := List.mem_map.1 hf
 exact ⟨conF_nn hd c, conF_len3 hd c⟩
theorem same1_head {l : List (Option Int)} (h : same1 l = some t) : some t ∈ l := by
 cases l with
 | nil => cases h
 | cons a r =>
  have := same1_some h a (by simp)
  rw [← this]; simp
theorem tyX_nn (h : sigSigs ds ss) (e : ExprD) : ∀ vars t, nonneg vars → tyX ds ss e vars = some t → 0 ≤ t ∧ t ≤ 4 := by
 refine ex_ind (P := fun e => ∀ vars t, nonneg vars → tyX ds ss e vars = some t → 0 ≤ t ∧ t ≤ 4) (fun e ih vars t hv ht => ?_) e
 rw [tyX_eq] at ht
 unfold ndT at ht
 have arms : ∀ fs : List (List Int), (∀ f ∈ fs, nonneg f) → same1 (armT vars fs ((e.kids.map (tyX ds ss)).drop 1)) = some t → 0 ≤ t ∧ t ≤ 4 := by
  intro fs hfs hs
  obtain ⟨f, hf, k, hk, hh⟩ := armT_mem (same1_head hs)
  obtain ⟨x, hx, rfl⟩ := List.mem_map.1 (List.mem_of_mem_drop hk)
  exact ih x hx _ _ (hv.app (hfs f hf)) hh.symm
 have hlen : (e.kids.map (tyX ds ss)).length = e.kids.length := by simp
 split at ht
 ·split at ht
  ·cases ht
   rename_i hc
   exact hv.nth hc.2.1 hc.2.2
  ·cases ht
 split at ht
 ·split at ht
  ·rename_i hc
   have hl : e.kids.length = 2 := by omega
   rw [kf_map (by omega), kf_map (by omega)] at ht
   obtain ⟨t0, h0, h1⟩ := Option.bind_eq_some_iff.1 ht
   have k0 := ih _ (nth_mem (by omega) (by omega)) _ _ hv h0
   exact ih _ (nth_mem (by omega) (by omega)) _ _ (hv.app (fun q hq => by rw [List.mem_singleton.1 hq]; exact k0)) h1
  ·cases ht
 split at ht
 ·split at ht
  ·exact arms _ (fun f hf => by
    have : f = [] := by simpa using hf
    subst this
    intro q hq; cases hq) ht
  ·cases ht
 split at ht
 ·split at ht
  ·exact arms _ (fun f hf => (armF_nnM h.1 hf).1) ht
  ·cases ht
 ·obtain ⟨T, _, h2⟩ := Option.bind_eq_some_iff.1 ht
  exact simB_nn h h2
end
end Go.Vc
