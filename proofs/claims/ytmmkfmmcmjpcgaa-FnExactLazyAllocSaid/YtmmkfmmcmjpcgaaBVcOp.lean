/- Steps on owned slices: store, append, make, literals. -/
import Derived.Test.YtmmkfmmcmjpcgaaBVcDat
namespace Go.Vc
open Go Go.RowKit
set_option linter.all false

theorem setCellsW_blk {w : World} {g k t : Nat} {c : Array Value} {l : List Value} (h : w.heap[g]? = some (.cells c t (0, 0))) (hl : k + l.length ≤ c.size) :
    ∃ c', (setCellsW w ⟨g, 0, none⟩ k l).heap[g]? = some (.cells c' t (0, 0)) ∧ c'.size = c.size ∧ (∀ j, c'[j]? = if k ≤ j ∧ j < k + l.length then l[j - k]? else c[j]?) ∧
    (∀ b, b ≠ g → (setCellsW w ⟨g, 0, none⟩ k l).heap[b]? = w.heap[b]?) ∧
    ((setCellsW w ⟨g, 0, none⟩ k l).heap.size = w.heap.size ∧ (setCellsW w ⟨g, 0, none⟩ k l).os = w.os ∧ (setCellsW w ⟨g, 0, none⟩ k l).tape = w.tape ∧ (setCellsW w ⟨g, 0, none⟩ k l).output = w.output) := by
  obtain ⟨r1, r2, r3⟩ := setCellsW_row l k h
  refine ⟨_, r1, ?_, fun j => setRow_get l k c (.inr hl) j, r2, r3⟩
  have hsz : ∀ (l : List (Value × Nat)) (c : Array Value), (l.foldl (fun cs p => cs.setIfInBounds p.2 p.1) c).size = c.size := by
    intro l
    induction l with
    | nil => intro c; rfl
    | cons a r ih => intro c; rw [List.foldl_cons, ih]; simp
  exact hsz _ _

theorem canSet_blk {w : World} {g t : Nat} {c : Array Value} (h : w.heap[g]? = some (.cells c t (0, 0))) : ∀ (l : List Value) (k : Nat), k + l.length ≤ c.size → CanSet w ⟨g, 0, none⟩ k l
  | [], _, _ => trivial
  | [x], k, hk => by
    refine ⟨⟨c[k]'(by simp at hk; omega), ?_⟩, ?_⟩
    · rw [cell_blk h rfl]; simp; 
    · rw [box_add]; simp [World.frozen?, h]
  | x :: y :: r, k, hk => by
    refine ⟨⟨c[k]'(by simp at hk; omega), ?_⟩, ?_, canSet_blk h (y :: r) (k + 1) (by simp at hk ⊢; omega)⟩
    · rw [cell_blk h rfl]; simp
    · rw [box_add]; simp [World.frozen?, h]
theorem canSet_add (w : World) (p : Addr) (o : Nat) : ∀ (l : List Value) (k : Nat), CanSet w p (o + k) l → CanSet w (p.add o) k l
  | [], _, _ => trivial
  | [x], k, h => by simp only [CanSet, addr_add_add] at h ⊢; exact h
  | x :: y :: r, k, h => by
    simp only [CanSet, addr_add_add] at h ⊢
    exact ⟨h.1, h.2.1, canSet_add w p o (y :: r) (k + 1) h.2.2⟩

def putR (r : List Value) (off : Nat) (vs : List Value) : List Value := r.take off ++ vs ++ r.drop (off + vs.length)

theorem putR_get (r : List Value) (off : Nat) (vs : List Value) (h : off + vs.length ≤ r.length) (j : Nat) : (putR r off vs)[j]? = if off ≤ j ∧ j < off + vs.length then vs[j - off]? else r[j]? := by
  unfold putR
  rw [List.append_assoc]
  by_cases h1 : j < off
  · rw [List.getElem?_append_left (by simp; omega), List.getElem?_take, if_pos h1, if_neg (by omega)]
  · rw [List.getElem?_append_right (by simp; omega)]
    have e : (List.take off r).length = off := by simp; omega
    rw [e]
    by_cases h2 : j < off + vs.length
    · rw [List.getElem?_append_left (by omega), if_pos (by omega)]
    · rw [List.getElem?_append_right (by omega), List.getElem?_drop, if_neg (by omega)]
      congr 1; omega
theorem putR_length (r : List Value) (off : Nat) (vs : List Value) (h : off + vs.length ≤ r.length) : (putR r off vs).length = r.length := by
  simp [putR]; omega

section
variable {α : Type} [Dat α] {u w w' : World} {x y : Sl} {l : List α} {rows : List (List Value)} {sz : Nat} {L I R : Items} {F : Items → Items}

theorem St.updBlk {g : Nat} {o o' : Obj} (h : St u w L) [p : Pos [(g, o)] L R F] (hne : o' ≠ absent) (ho : w'.heap[g]? = some o') (hk : ∀ b, b ≠ g → w'.heap[b]? = w.heap[b]?) (hsz : w.heap.size ≤ w'.heap.size) : St u w' (F [(g, o')]) := by
  refine h.upd (I := [(g, o)]) (I' := [(g, o')]) (fun b o1 hb _ hm => ?_) ?_ (by simp) (fun b hb => .inl (by simpa using hb)) hsz
  · rw [hk b (by simpa using hm)]; exact hb
  · simpa [AtAll] using ⟨ho, hne⟩

theorem OSl.store (h : OSl sz x rows I) (hS : St u w L) [p : Pos I L R F] {i : Int} (h0 : 0 ≤ i) {r : List Value} (hr : rows[i.toNat]? = some r) {off : Nat} {vals : List Value} (hv : off + vals.length ≤ sz) :
    CanSet w (elA x i sz) off vals ∧ ∃ I', OSl sz x (rows.set i.toNat (putR r off vals)) I' ∧ St u (setCellsW w (elA x i sz) off vals) (F I') := by
  cases h with
  | nil => simp at hr
  | blk g o n c cur e _ hn hc hm hs hrow =>
    have hA := (hS.items (I := [(g, .cells cur e (0, 0))]) (g, .cells cur e (0, 0)) (by simp)).1
    have hlt : i.toNat < rows.length := by rcases Nat.lt_or_ge i.toNat rows.length with hl | hg; exact hl; rw [List.getElem?_eq_none hg] at hr; cases hr
    have hb : (i.toNat + 1) * sz ≤ c * sz := Nat.mul_le_mul_right _ (by omega)
    rw [Nat.add_mul] at hb
    have hrl := (hrow _ _ hr).1
    rw [elA_blk]
    have ea : (⟨g, o + i.toNat * sz, none⟩ : Addr) = (⟨g, 0, none⟩ : Addr).add (o + i.toNat * sz) := by rw [box_add]; simp
    rw [ea, setCellsW_add]
    have hfit : o + i.toNat * sz + off + vals.length ≤ cur.size := by omega
    obtain ⟨c', c1, c2, c3, c4, c5⟩ := setCellsW_blk (l := vals) hA hfit
    refine ⟨canSet_add _ _ _ _ _ (canSet_blk hA _ _ (by omega)), [(g, .cells c' e (0, 0))], .blk g o n c c' e _ (by rw [hn]; simp) hc hm (by omega) ?_, hS.updBlk (o := .cells cur e (0, 0)) (by simp [absent]) c1 c4 (Nat.le_of_eq c5.1.symm)⟩
    intro k rk hk
    rw [List.getElem?_set] at hk
    by_cases ek : i.toNat = k
    · subst ek
      rw [if_pos rfl, if_pos hlt] at hk
      simp only [Option.some.injEq] at hk
      subst hk
      refine ⟨by rw [putR_length _ _ _ (by omega)]; exact hrl, fun j v hj => ?_⟩
      rw [putR_get _ _ _ (by omega)] at hj
      rw [c3]
      split at hj
      · rw [if_pos (by omega), ← hj]; congr 1; omega
      · rw [if_neg (by omega)]; exact (hrow _ _ hr).2 j v hj
    · rw [if_neg ek] at hk
      refine ⟨(hrow _ _ hk).1, fun j v hj => ?_⟩
      have hjl : j < sz := by
        rcases Nat.lt_or_ge j rk.length with hl | hg
        · rw [(hrow _ _ hk).1] at hl; exact hl
        · rw [List.getElem?_eq_none hg] at hj; cases hj
      rw [c3, if_neg]
      · exact (hrow _ _ hk).2 j v hj
      · intro hh
        rcases Nat.lt_or_gt_of_ne ek with hlt2 | hgt
        · have := Nat.mul_le_mul_right sz (show i.toNat + 1 ≤ k by omega); rw [Nat.add_mul] at this; omega
        · have := Nat.mul_le_mul_right sz (show k + 1 ≤ i.toNat by omega); rw [Nat.add_mul] at this; omega

theorem Els.set {i : Nat} {r : List Value} {a : α} (h : Els BB u rows l) (hc : Dat.cells BB u r a) : Els BB u (rows.set i r) (l.set i a) := by
  refine ⟨by simp [h.1], fun k rk b hk hb => ?_⟩
  rw [List.getElem?_set] at hk hb
  by_cases e : i = k
  · subst e
    rw [if_pos rfl] at hk hb
    split at hk
    · split at hb
      · simp only [Option.some.injEq] at hk hb; subst hk; subst hb; exact hc
      · cases hb
    · cases hk
  · rw [if_neg e] at hk hb
    exact h.2 k rk b hk hb

/-- x[i] = .. -/
theorem Own.store [Inhabited α] (h : Own u x l I) (hS : St u w L) [p : Pos I L R F] {i : Int} (h0 : 0 ≤ i) (h1 : i < l.length) {off : Nat} {vals : List Value} {K : World → Prop} (a : α)
    (hv : off + vals.length ≤ Dat.sz α) (hc : ∀ r, Dat.cells BB u r (nth l i) → Dat.cells BB u (putR r off vals) a)
    (k : ∀ w' I', Own u x (l.set i.toNat a) I' → St u w' (F I') → K w') : StoreAt w (elA x i (Dat.sz α)) off vals K := by
  obtain ⟨rows, h2, h3, h4⟩ := h
  have hlt : i.toNat < rows.length := by rw [h3.1]; omega
  have hr := List.getElem?_eq_getElem hlt
  obtain ⟨k1, I', k2, k3⟩ := h2.store hS h0 hr hv
  exact ⟨k1, k _ I' ⟨_, k2, h3.set (hc _ (h3.2 _ _ _ hr (nth_get h0 h1))), by simpa using h4⟩ k3⟩

/-! ### append -/
class SlT (P : Program) (t : TypeId) (sz bytes : outParam Nat) (zc : outParam (List Value)) : Prop where
  ex : ∃ e i z, P.underlying t = some (.slice e) ∧ P.info? e = some i ∧ i.zero = some z ∧ i.size = sz ∧ i.bytes = bytes ∧ z.cells.toList = zc ∧ zc.length = sz ∧ 0 < sz

def slView (P : Program) (t : TypeId) : Option (Nat × Nat × List Value) :=
  match P.underlying t with
  | some (.slice e) => match P.info? e with
    | some i => match i.zero with
      | some z => some (i.size, i.bytes, z.cells.toList)
      | none => none
    | none => none
  | _ => none
theorem SlT.of {P : Program} {t : TypeId} {sz bytes : Nat} {zc : List Value} (h : slView P t = some (sz, bytes, zc)) (hl : zc.length = sz) (hp : 0 < sz) : SlT P t sz bytes zc := by
  unfold slView at h
  split at h <;> first | (cases h; done) | skip
  split at h <;> first | (cases h; done) | skip
  split at h <;> first | (cases h; done) | skip
  simp only [Option.some.injEq, Prod.mk.injEq] at h
  exact ⟨_, _, _, by assumption, by assumption, by assumption, h.1, h.2.1, h.2.2, hl, hp⟩

theorem flat_length {sz : Nat} : ∀ (rows : List (List Value)), (∀ r ∈ rows, r.length = sz) → rows.flatten.length = rows.length * sz
  | [], _ => by simp
  | r :: rest, h => by simp [flat_length rest (fun q hq => h q (List.mem_cons_of_mem _ hq)), h r List.mem_cons_self, Nat.add_mul]; omega
theorem flat_get {sz : Nat} : ∀ (rows : List (List Value)), (∀ r ∈ rows, r.length = sz) → ∀ (i : Nat) (r : List Value), rows[i]? = some r → ∀ (j : Nat) (v : Value), r[j]? = some v → rows.flatten[i * sz + j]? = some v
  | [], _, i, r, hi, _, _, _ => by simp at hi
  | q :: rest, h, 0, r, hi, j, v, hj => by
    simp only [List.getElem?_cons_zero, Option.some.injEq] at hi
    subst hi
    have : j < q.length := by rcases Nat.lt_or_ge j q.length with hl | hg; exact hl; rw [List.getElem?_eq_none hg] at hj; cases hj
    rw [List.flatten_cons, Nat.zero_mul, Nat.zero_add, List.getElem?_append_left this]; exact hj
  | q :: rest, h, i + 1, r, hi, j, v, hj => by
    have hq := h q List.mem_cons_self
    rw [List.flatten_cons, List.getElem?_append_right (by rw [hq, Nat.add_mul]; omega), hq]
    rw [show (i + 1) * sz + j - sz = i * sz + j from by rw [Nat.add_mul]; omega]
    exact flat_get rest (fun q hq => h q (List.mem_cons_of_mem _ hq)) i r (by simpa using hi) j v hj
theorem flat_row {sz : Nat} (hsz : 0 < sz) (rows : List (List Value)) (h : ∀ r ∈ rows, r.length = sz) (k : Nat) (v : Value) (hk : rows.flatten[k]? = some v) : ∃ r, rows[k / sz]? = some r ∧ r[k % sz]? = some v := by
  have hlt : k < rows.flatten.length := by rcases Nat.lt_or_ge k rows.flatten.length with hl | hg; exact hl; rw [List.getElem?_eq_none hg] at hk; cases hk
  rw [flat_length rows h] at hlt
  have h1 : k / sz < rows.length := (Nat.div_lt_iff_lt_mul hsz).2 hlt
  have hr := List.getElem?_eq_getElem h1
  have hl := h _ (List.getElem_mem h1)
  have h2 : k % sz < (rows[k / sz]).length := by rw [hl]; exact Nat.mod_lt _ hsz
  have hj := List.getElem?_eq_getElem h2
  have := flat_get rows h _ _ hr _ _ hj
  rw [Nat.div_mul_self_eq_mod_sub_self, Nat.sub_add_cancel (Nat.mod_le _ _)] at this
  rw [this] at hk
  exact ⟨_, hr, hj.trans hk⟩

theorem run_append_roomA {P : Program} {t ty e : TypeId} {i : TypeInfo} (ht : P.underlying t = some (.slice e)) (hi : P.info? e = some i) (w : World) (b : Addr) (n c m mc : Nat) (a : Addr) (news : List Value)
    (hl : news.length = m * i.size) (hnews : ∀ j v, news[j]? = some v → w.cell? (a.add j) = some v) (h1 : ∀ v ∈ news, v.oneCell' = true) (hroom : n + m ≤ c)
    (h2 : ∀ j, j < news.length → (∃ x, w.cell? ((b.add (n * i.size)).add (0 + j)) = some x) ∧ w.frozen? ((b.add (n * i.size)).add (0 + j)) = false) :
    (Builtin.append_ #[t, t] ty #[.slice (some b) n c, .slice (some a) m mc]).run P w = .ok (.slice (some b) (n + m) c) (setCellsW w (b.add (n * i.size)) 0 news) := by
  have hf := run_firstCells_some (P := P) w i.size m a m mc news hl hnews
  have hst := run_storeCells (P := P) (a := b.add (n * i.size)) news 0 w h1 h2
  simp [Builtin.append_, run_underlying ht, run_size hi, Builtin.lenOf, hroom, hf, hst]

theorem Rows.flat {w : World} {y : Sl} {news : List (List Value)} {ad : Addr} (h : Rows w y sz news) (hlen : ∀ r ∈ news, r.length = sz) (hsz : 0 < sz) (ha : y.a = some ad) : ∀ j v, news.flatten[j]? = some v → w.cell? (ad.add j) = some v := by
  intro j v hj
  obtain ⟨r, h1, h2⟩ := flat_row hsz news hlen j v hj
  have := (h.2.2 _ _ h1).2 _ _ h2
  rw [elA, ha, Option.getD_some, addr_add_add, Int.toNat_natCast] at this
  rwa [Nat.div_mul_self_eq_mod_sub_self, Nat.sub_add_cancel (Nat.mod_le _ _)] at this

theorem OSl.append {P : Program} {t ty : TypeId} {bytes : Nat} {zc : List Value} [hT : SlT P t sz bytes zc] (h : OSl sz x rows I) (hS : St u w L) [p : Pos I L R F] {news : List (List Value)}
    (hy : Rows w y sz news) (hlen : ∀ r ∈ news, r.length = sz) (h1 : ∀ r ∈ news, ∀ v ∈ r, v.oneCell' = true) (hrl : ∀ r ∈ rows, r.length = sz) (hb : (rows.length + news.length) * bytes ≤ 140737488355328) (hb2 : rows.length + news.length ≤ maxLen) {Q : Value → World → Prop}
    (k : ∀ x' w' I', OSl sz x' (rows ++ news) I' → St u w' (F I') → Q x'.val w') : StepT P (Builtin.append_ #[t, t] ty #[x.val, y.val]) w Q := by
  obtain ⟨e, i, z, ht, hi, hz, hsize, hby, hzc, hzl, hsz⟩ := hT.ex
  have hzs : z.cells.size = i.size := by rw [← Array.length_toList, hzc, hzl, hsize]
  have hxn := h.len
  have hyn := hy.1
  have hnl : news.flatten.length = y.n * i.size := by rw [flat_length news hlen, hyn, hsize]
  have hone : ∀ v ∈ news.flatten, v.oneCell' = true := by
    intro v hv
    obtain ⟨r, hr, hvr⟩ := List.mem_flatten.1 hv
    exact h1 r hr v hvr
  simp only [maxLen] at hb2
  have keep : ∀ w0 : World, Sub w w0 → Q x.val w → news = [] → (Builtin.append_ #[t, t] ty #[x.val, y.val]).run P w0 = .ok x.val w0 → ∃ r w' v', (Builtin.append_ #[t, t] ty #[x.val, y.val]).run P w0 = .ok r w' ∧ Fr w w0 v' w' ∧ Q r v' :=
    fun w0 hs hq _ hr => ⟨_, w0, w, hr, .refl hs, hq⟩
  -- a new block
  have fresh : ∀ (w0 : World) (c : Nat) (cur : Array Value), Sub w w0 → rows.length + news.length ≤ c → c ≤ maxLen → c * sz ≤ cur.size → (∀ (j : Nat) (v : Value), (rows ++ news).flatten[j]? = some v → cur[j]? = some v) →
      ∃ v', Fr w w0 v' (w0.drew.alloc (.cells cur e)) ∧ Q (.slice (some ⟨w0.heap.size, 0, none⟩) (rows.length + news.length) c) v' := by
    intro w0 c cur hs hc hm hcs hcur
    have hs' : Sub w w0.drew := ⟨hs.size, hs.at_⟩
    obtain ⟨v', fr, hq⟩ := newAt_step (o := .cells cur e) (Q := fun a w' => ∃ g, a = ⟨g, 0, none⟩ ∧ Q (.slice (some ⟨g, 0, none⟩) (rows.length + news.length) c) w') hs' (fun g w' hg hsub hh => by
      refine ⟨g, rfl, k ⟨some ⟨g, 0, none⟩, rows.length + news.length, c⟩ w' _ (.blk g 0 _ c cur e _ (by simp) hc hm (by omega) ?_) (hS.upd (I := I) (I' := [(g, .cells cur e (0, 0))]) (fun b o hb hne _ => hsub.at_ b o hb hne) (by simpa [AtAll, absent] using hh) (by simp) (fun b hb => .inr (by simp only [List.map_cons, List.map_nil, List.mem_singleton] at hb; subst hb; exact out_of_le hg)) hsub.size)⟩
      intro q r hq
      have hall : ∀ r ∈ rows ++ news, r.length = sz := fun r hr => (List.mem_append.1 hr).elim (hrl r) (hlen r)
      exact ⟨hall r (List.mem_of_getElem? hq), fun j v hj => hcur _ v (by rw [Nat.zero_add]; exact flat_get _ hall q r hq j v hj)⟩)
    obtain ⟨g, hg, hq⟩ := hq
    cases hg
    exact ⟨v', ⟨fr.sub, fr.size, fr.os, fr.tape, fr.output, fr.out⟩, hq⟩
  have zcs : ∀ m, (Builtin.zeroCells z.cells m).size = m * i.size := fun m => by rw [size_zeroCells, hzs]
  intro w0 hs
  cases hya : y.a with
  | none =>
    have hn0 : news = [] := by
      cases news with
      | nil => rfl
      | cons r rest => have := (hy.2.2 0 r rfl).1; rw [hya] at this; cases this
    subst hn0
    have hm : y.n = 0 := by rw [hyn]; rfl
    have hq : Q x.val w := k x w I (by simpa using h) (hS.upd (I' := I) (fun b o hb _ _ => hb) hS.items hS.nodupI (fun b hb => .inl hb) (Nat.le_refl _))
    refine keep w0 hs hq rfl ?_
    cases h with
    | nil => simp [Sl.val, hya, hm, Builtin.append_, run_underlying ht, run_size hi, Builtin.lenOf, Builtin.firstCells]
    | blk g o n c cur e' _ hn hc hm' hs' hr => simp [Sl.val, hya, hm, Builtin.append_, run_underlying ht, run_size hi, Builtin.lenOf, Builtin.firstCells, hc, storeCells]
  | some ad =>
    have hcell : ∀ j v, news.flatten[j]? = some v → w0.cell? (ad.add j) = some v := fun j v hj => cell_sub hs (hy.flat hlen hsz hya j v hj)
    have hyv : y.val = .slice (some ad) y.n y.c := by simp [Sl.val, hya]
    rw [hyv]
    cases h with
    | nil =>
      simp only [List.length_nil, Nat.zero_add] at hb hb2 fresh
      by_cases hm : y.n = 0
      · have hn0 : news = [] := List.eq_nil_of_length_eq_zero (by omega)
        subst hn0
        have hq : Q (Sl.mk none 0 0).val w := k ⟨none, 0, 0⟩ w [] .nil (hS.upd (I' := []) (I := []) (fun b o hb _ _ => hb) (by simp [AtAll]) (by simp) (fun b hb => .inl hb) (Nat.le_refl _))
        rw [← hyv]
        refine keep w0 hs hq rfl ?_
        rw [hyv]
        simp [Sl.val, hm, Builtin.append_, run_underlying ht, run_size hi, Builtin.lenOf, Builtin.firstCells, loadCells, loadCellsFrom]
      · have hr := run_append_nil (P := P) w0 t ty e i z ht hi hz ad y.n y.c news.flatten hnl hcell (by omega) (by omega) (by rw [hby, hyn]; omega)
        have hge := grownCap_ge w0 y.n 0 e
        obtain ⟨v', fr, hq⟩ := fresh w0 (grownCap w0 y.n 0 e) (news.flatten.toArray ++ Builtin.zeroCells z.cells (grownCap w0 y.n 0 e - y.n)) hs (by omega) (grownCap_le_maxLen w0 y.n 0 e (by simp only [maxLen]; omega)) (by
          rw [Array.size_append, zcs, List.size_toArray, hnl, ← Nat.add_mul, hsize]
          exact Nat.mul_le_mul_right _ (by omega)) (by
          intro j v hj
          simp only [List.nil_append] at hj
          rw [Array.getElem?_append_left]
          · simpa using hj
          · rcases Nat.lt_or_ge j news.flatten.length with hl | hg
            · simpa using hl
            · rw [List.getElem?_eq_none hg] at hj; cases hj)
        refine ⟨_, _, v', hr, fr, ?_⟩
        rw [hyn]; rw [← hyn] at hq ⊢; exact hq
    | blk g o n c cur e' _ hn hc hm hcs hrow =>
      have hA := (hS.items (I := [(g, .cells cur e' (0, 0))]) (g, .cells cur e' (0, 0)) (by simp)).1
      have holds : ∀ j v, rows.flatten[j]? = some v → w0.cell? ((⟨g, o, none⟩ : Addr).add j) = some v := by
        intro j v hj
        obtain ⟨r, q1, q2⟩ := flat_row hsz rows hrl j v hj
        rw [cell_blk (hs.at_ _ _ hA (by simp [absent])) rfl]
        have := (hrow _ _ q1).2 _ _ q2
        rwa [Nat.add_assoc, Nat.div_mul_self_eq_mod_sub_self, Nat.sub_add_cancel (Nat.mod_le _ _)] at this
      by_cases hroom : n + y.n ≤ c
      · have hfit : n * sz + news.flatten.length ≤ c * sz := by rw [hnl, hsize, ← Nat.add_mul]; exact Nat.mul_le_mul_right _ hroom
        have ea : (⟨g, o, none⟩ : Addr).add (n * i.size) = (⟨g, 0, none⟩ : Addr).add (o + n * sz) := by rw [box_add, box_add, hsize]; simp
        have hcan : CanSet w ((⟨g, o, none⟩ : Addr).add (n * i.size)) 0 news.flatten := by rw [ea]; exact canSet_add _ _ _ _ _ (canSet_blk hA _ _ (by omega))
        have hget := canSet_get hcan
        have hr := run_append_roomA (P := P) (ty := ty) ht hi w0 ⟨g, o, none⟩ n c y.n y.c ad news.flatten hnl hcell hone hroom (fun j hj => ⟨let ⟨q, hq⟩ := (hget j hj).1; ⟨q, cell_sub hs hq⟩, let ⟨q, hq⟩ := (hget j hj).1; frozen_sub hs hq (hget j hj).2⟩)
        refine ⟨_, _, _, hr, setCellsW_fr _ _ hs hcan, ?_⟩
        rw [ea, setCellsW_add, Nat.add_zero]
        obtain ⟨c', c1, c2, c3, c4, c5⟩ := setCellsW_blk (k := o + n * sz) (l := news.flatten) hA (by omega)
        refine k ⟨some ⟨g, o, none⟩, n + y.n, c⟩ _ _ (.blk g o _ c c' e' _ (by simp [hn, hyn]) hroom hm (by omega) ?_) (hS.updBlk (o := .cells cur e' (0, 0)) (by simp [absent]) c1 c4 (Nat.le_of_eq c5.1.symm))
        intro q r hq
        rcases Nat.lt_or_ge q rows.length with hlt | hge
        · rw [List.getElem?_append_left hlt] at hq
          refine ⟨(hrow q r hq).1, fun j v hj => ?_⟩
          have hjl : j < sz := by
            rcases Nat.lt_or_ge j r.length with hl | hg
            · rw [(hrow q r hq).1] at hl; exact hl
            · rw [List.getElem?_eq_none hg] at hj; cases hj
          have := Nat.mul_le_mul_right sz (show q + 1 ≤ n by omega); rw [Nat.add_mul] at this
          rw [c3, if_neg (by omega)]
          exact (hrow q r hq).2 j v hj
        · rw [List.getElem?_append_right hge] at hq
          have hrl2 := hlen r (List.mem_of_getElem? hq)
          refine ⟨hrl2, fun j v hj => ?_⟩
          have hf := flat_get news hlen _ _ hq j v hj
          have hfl : (q - rows.length) * sz + j < news.flatten.length := by rcases Nat.lt_or_ge ((q - rows.length) * sz + j) news.flatten.length with hl | hg; exact hl; rw [List.getElem?_eq_none hg] at hf; cases hf
          have e1 : q * sz = n * sz + (q - rows.length) * sz := by rw [← Nat.add_mul, hn]; congr 1; omega
          rw [c3, if_pos (by omega), ← hf]
          congr 1; omega
      · have hr := run_append_grow (P := P) w0 t ty e i z ht hi hz ⟨g, o, none⟩ n c rows.flatten (by rw [flat_length rows hrl, hn, hsize]) holds ad y.n y.c news.flatten hnl hcell (by omega) (by omega) (growslice_fits (by omega) (by rw [hby, hn, hyn]; omega))
        have hge := grownCap_ge w0 (n + y.n) c e
        obtain ⟨v', fr, hq⟩ := fresh w0 (grownCap w0 (n + y.n) c e) (rows.flatten.toArray ++ news.flatten.toArray ++ Builtin.zeroCells z.cells (grownCap w0 (n + y.n) c e - (n + y.n))) hs (by omega) (grownCap_le_maxLen w0 (n + y.n) c e (by simp only [maxLen]; omega)) (by
          rw [Array.size_append, Array.size_append, zcs, List.size_toArray, List.size_toArray, hnl, flat_length rows hrl, ← hn, ← hsize, ← Nat.add_mul, ← Nat.add_mul]
          exact Nat.mul_le_mul_right _ (by omega)) (by
          intro j v hj
          rw [Array.getElem?_append_left]
          · rw [List.flatten_append] at hj
            simpa using hj
          · rcases Nat.lt_or_ge j (rows ++ news).flatten.length with hl | hg
            · simpa using hl
            · rw [List.getElem?_eq_none hg] at hj; cases hj)
        refine ⟨_, _, v', hr, fr, ?_⟩
        rw [hn, hyn]; rw [← hn, ← hyn] at hq ⊢; exact hq

/-- append(x, y...) -/
theorem Own.append {P : Program} {t ty : TypeId} {bytes : Nat} {zc : List Value} [hT : SlT P t (Dat.sz α) bytes zc] {m : List α} (h : Own u x l I) (hS : St u w L) [p : Pos I L R F]
    (hy : Src u w y m) (hb : l.length + m.length ≤ 1099511627776) (hby : bytes ≤ 128) {Q : Value → World → Prop}
    (k : ∀ x' w' I', Own u x' (l ++ m) I' → St u w' (F I') → Q x'.val w') : StepT P (Builtin.append_ #[t, t] ty #[x.val, y.val]) w Q := by
  obtain ⟨rows, h1, h2, h3⟩ := h
  obtain ⟨news, q1, q2, q3⟩ := hy
  have lens : ∀ {rows : List (List Value)} {l : List α}, Els BB u rows l → ∀ r ∈ rows, ∃ a : α, Dat.cells BB u r a := by
    intro rows l hE r hr
    obtain ⟨i, hi, rfl⟩ := List.getElem_of_mem hr
    exact ⟨l[i]'(by rw [← hE.1]; exact hi), hE.2 i _ _ (List.getElem?_eq_getElem hi) (List.getElem?_eq_getElem _)⟩
  have hle : (rows.length + news.length) * bytes ≤ BB * 128 := Nat.mul_le_mul (by rw [h2.1, q2.1]; exact hb) hby
  refine h1.append hS q1 (fun r hr => let ⟨a, ha⟩ := lens q2 r hr; Dat.len (α := α) ha) (fun r hr => let ⟨a, ha⟩ := lens q2 r hr; Dat.one (α := α) ha) (fun r hr => let ⟨a, ha⟩ := lens h2 r hr; Dat.len (α := α) ha) hle (by have hBB : BB = 1099511627776 := rfl; rw [h2.1, q2.1]; simp only [maxLen]; omega) fun x' w' I' k1 k2 => k x' w' I' ⟨_, k1, ⟨by simp [h2.1, q2.1], fun i r a hr ha => ?_⟩, by simpa using hb⟩ k2
  rcases Nat.lt_or_ge i rows.length with hlt | hge
  · rw [List.getElem?_append_left hlt] at hr
    rw [List.getElem?_append_left (by rw [← h2.1]; exact hlt)] at ha
    exact h2.2 i r a hr ha
  · rw [List.getElem?_append_right hge] at hr
    rw [List.getElem?_append_right (by rw [← h2.1]; exact hge), ← h2.1] at ha
    exact q2.2 _ r a hr ha
end
end Go.Vc
