/- Literals, make, boxes, cuts. -/
import Derived.Test.YtmmkfmmcmjpcgaaBVcOp
namespace Go.Vc
open Go Go.RowKit
set_option linter.all false

/-- a value that stands for a datum -/
def VOf {α : Type} [Dat α] (u : World) (v : Value) (a : α) : Prop := v.cells.toList.length = Dat.sz α ∧ Dat.cells BB u v.cells.toList a
inductive VsOf {α : Type} [Dat α] (u : World) : List Value → List α → Prop where
  | nil : VsOf u [] []
  | cons {v vs} {a : α} {l} : VOf u v a → VsOf u vs l → VsOf u (v :: vs) (a :: l)
theorem VOf.int {u : World} {n : Int} (h : InI n) : VOf u (.int .i64 n) n := ⟨rfl, rfl, h⟩
theorem VOf.bool {u : World} {q : Bool} : VOf u (.bool q) q := ⟨rfl, rfl⟩
theorem VOf.str {u : World} {s : ByteArray} : VOf u (.string s) s := ⟨rfl, rfl⟩
theorem VOf.u8 {u : World} {b : UInt8} : VOf u (.int .u8 (b.toNat : Int)) b := ⟨rfl, rfl⟩
theorem VOf.list {α : Type} [Dat α] {u : World} {x : Sl} {l : List α} (h : Read u x l) : VOf u x.val l := ⟨rfl, x, rfl, h⟩

section
variable {α : Type} [Dat α] {u w w' : World} {x y : Sl} {l : List α} {sz : Nat} {L I R : Items} {F : Items → Items}

theorem VsOf.len {vs : List Value} (h : VsOf u vs l) : vs.length = l.length := by induction h with | nil => rfl | cons _ _ ih => simp [ih]
theorem VsOf.els {vs : List Value} (h : VsOf u vs l) : Els BB u (vs.map fun v => v.cells.toList) l := by
  induction h with
  | nil => exact ⟨rfl, fun i r a hr => by simp at hr⟩
  | cons h1 _ ih =>
    refine ⟨by simpa using ih.1, fun i r a hr ha => ?_⟩
    cases i with
    | zero => simp at hr ha; subst hr; subst ha; exact h1.2
    | succ i => exact ih.2 i r a (by simpa using hr) (by simpa using ha)
theorem VsOf.lens {vs : List Value} (h : VsOf u vs l) : ∀ v ∈ vs, v.cells.size = Dat.sz α := by
  induction h with
  | nil => intro v hv; cases hv
  | cons h1 _ ih => intro v hv; rcases List.mem_cons.1 hv with rfl | hv; simpa using h1.1; exact ih v hv

theorem foldl_set_get (cs : List Value) (off : Nat) (c : Array Value) (h : off + cs.length ≤ c.size) : (cs.zipIdx.foldl (fun cs (p : Value × Nat) => cs.setIfInBounds (off + p.2) p.1) c).size = c.size ∧
    ∀ j : Nat, (cs.zipIdx.foldl (fun cs (p : Value × Nat) => cs.setIfInBounds (off + p.2) p.1) c)[j]? = if off ≤ j ∧ j < off + cs.length then cs[j - off]? else c[j]? := by
  have e : cs.zipIdx.foldl (fun cs (p : Value × Nat) => cs.setIfInBounds (off + p.2) p.1) c = (cs.zipIdx off).foldl (fun cs (p : Value × Nat) => cs.setIfInBounds p.2 p.1) c := by
    rw [List.zipIdx_eq_map_add (i := off), List.foldl_map]
  rw [e]
  refine ⟨?_, fun j => setRow_get cs off c (.inr h) j⟩
  have hsz : ∀ (l : List (Value × Nat)) (c : Array Value), (l.foldl (fun cs p => cs.setIfInBounds p.2 p.1) c).size = c.size := by
    intro l
    induction l with
    | nil => intro c; rfl
    | cons a r ih => intro c; rw [List.foldl_cons, ih]; simp
  exact hsz _ _

theorem fill_all (sz : Nat) : ∀ (vs : List Value) (k : Nat) (c : Array Value), (∀ v ∈ vs, v.cells.size = sz) → (k + vs.length) * sz ≤ c.size →
    ∃ c', Instr.fill (fun k => some (k * sz, sz)) c ((vs.zipIdx k).map fun p => (p.2, p.1)) = some c' ∧ c'.size = c.size ∧
      (∀ (i : Nat) (v : Value), vs[i]? = some v → ∀ (j : Nat) (q : Value), v.cells[j]? = some q → c'[(k + i) * sz + j]? = some q) ∧ ∀ j, j < k * sz → c'[j]? = c[j]?
  | [], k, c, _, _ => ⟨c, rfl, rfl, fun i v h => by simp at h, fun _ _ => rfl⟩
  | v :: vs, k, c, h, hc => by
    have hv := h v List.mem_cons_self
    have hsz : k * sz + sz ≤ c.size := by have := Nat.mul_le_mul_right sz (show k + 1 ≤ k + (v :: vs).length by simp); rw [Nat.add_mul] at this; omega
    obtain ⟨e1, e2⟩ := foldl_set_get v.cells.toList (k * sz) c (by simpa [hv] using hsz)
    obtain ⟨c', f1, f2, f3, f4⟩ := fill_all sz vs (k + 1) _ (fun q hq => h q (List.mem_cons_of_mem _ hq)) (show _ ≤ (v.cells.toList.zipIdx.foldl (fun cs (p : Value × Nat) => cs.setIfInBounds (k * sz + p.2) p.1) c).size by rw [e1]; simpa [Nat.add_assoc, Nat.add_comm 1] using hc)
    have hz : v.cells.zipIdx.foldl (fun cs (p : Value × Nat) => cs.setIfInBounds (k * sz + p.2) p.1) c = v.cells.toList.zipIdx.foldl (fun cs (p : Value × Nat) => cs.setIfInBounds (k * sz + p.2) p.1) c := by
      rw [← Array.foldl_toList, Array.toList_zipIdx]
    refine ⟨c', ?_, f2.trans e1, fun i q hq j z hz => ?_, fun j hj => ?_⟩
    · simp only [List.zipIdx_cons, List.map_cons, Instr.fill]
      rw [if_neg (by simp [hv]; omega)]
      have hz' : v.cells.zipIdx.foldl (fun cs (x : Value × Nat) => cs.setIfInBounds (k * sz + x.snd) x.fst) c = _ := hz
      rw [show (Array.foldl (fun cs x => match x with | (c, j) => cs.setIfInBounds (k * sz + j) c) c v.cells.zipIdx) = v.cells.toList.zipIdx.foldl (fun cs (p : Value × Nat) => cs.setIfInBounds (k * sz + p.2) p.1) c from hz]
      exact f1
    · cases i with
      | zero =>
        simp at hq; subst hq
        have hj : j < sz := by rcases Nat.lt_or_ge j v.cells.size with hl | hg; rw [hv] at hl; exact hl; rw [Array.getElem?_eq_none hg] at hz; cases hz
        rw [Nat.add_zero, f4 _ (by rw [Nat.add_mul]; omega), e2, if_pos (by simp [hv]; omega)]
        rw [show k * sz + j - k * sz = j from by omega]; simpa using hz
      | succ i =>
        rw [show k + (i + 1) = k + 1 + i from by omega]
        exact f3 i q (by simpa using hq) j z hz
    · rw [f4 j (by rw [Nat.add_mul]; omega), e2, if_neg (by omega)]

/-- []T{..} -/
theorem St.buildR {P : Program} {t : TypeId} {sz bytes : Nat} {zc : List Value} [hT : SlT P t sz bytes zc] {n : Nat} {ps : Array (Nat × Value)} {Q : Value → World → Prop} (hS : St u w L)
    (hv : ∀ v ∈ ps.toList.map (·.2), v.cells.size = sz) (hi : ps.toList.map (·.1) = List.range n) (hsz : n * sz ≤ 16777216)
    (k : ∀ x w' I, OSl sz x ((ps.toList.map (·.2)).map fun v => v.cells.toList) I → St u w' (I ++ L) → Sub w w' → x.n = n → Q x.val w') : StepT P (Instr.buildSlice t n ps) w Q := by
  obtain ⟨e, i, z, ht, hi2, hz, hsize, hby, hzc, hzl, hpos⟩ := hT.ex
  have hzs : z.cells.size = i.size := by rw [← Array.length_toList, hzc, hzl, hsize]
  have hn : (ps.toList.map (·.2)).length = n := by rw [List.length_map]; have := congrArg List.length hi; simpa using this
  have hps : ps.toList = (((ps.toList.map (·.2)).zipIdx 0).map fun p => (p.2, p.1)) := by
    apply List.ext_getElem?
    intro j
    simp only [List.getElem?_map, List.getElem?_zipIdx, Nat.zero_add, Option.map_map]
    have h1 := congrArg (fun l => l[j]?) hi
    simp only [List.getElem?_map, List.getElem?_range] at h1
    cases hj : ps.toList[j]? with
    | none => simp
    | some p =>
      rw [hj] at h1
      have hlt : j < n := by
        have := congrArg List.length hi
        simp at this
        have := (List.getElem?_eq_some_iff.1 hj).1
        simp at this
        omega
      rw [List.getElem?_eq_getElem (by simpa using hlt)] at h1
      simp at h1
      simp [Function.comp, ← h1]
  obtain ⟨c', f1, f2, f3, _⟩ := fill_all sz (ps.toList.map (·.2)) 0 ((Array.range (n * i.size)).map (z.cells[· % z.cells.size]!)) hv (by rw [Nat.zero_add, hn]; simp [hsize])
  have hBB : BB = 1099511627776 := rfl
  have hn24 : n ≤ 16777216 := by have := Nat.mul_le_mul_left n hpos; omega
  refine stepT_build ht hi2 hz (cells := c') (by rw [hsize]; exact hsz) (by rw [hsize] at f1 ⊢; rw [hps]; exact f1) fun g w' hg hs ho => ?_
  refine k _ w' _ (.blk g 0 n n c' e _ (by rw [List.length_map, hn]) (Nat.le_refl _) (by simp only [maxLen]; omega) (by rw [f2]; simp [hsize]) ?_) (hS.new hg hs ho (by simp [absent])) hs rfl
  intro q r hr
  rw [List.getElem?_map] at hr
  cases hq : (ps.toList.map (·.2))[q]? with
  | none => rw [hq] at hr; cases hr
  | some v =>
    rw [hq] at hr
    simp at hr
    subst hr
    refine ⟨by simpa using hv v (List.mem_of_getElem? hq), fun j z hz => ?_⟩
    have := f3 q v hq j z (by simpa using hz)
    simpa using this

/-- .. typed -/
theorem St.build {P : Program} {t : TypeId} {bytes : Nat} {zc : List Value} [hT : SlT P t (Dat.sz α) bytes zc] {n : Nat} {ps : Array (Nat × Value)} {Q : Value → World → Prop} (hS : St u w L)
    (hv : VsOf u (ps.toList.map (·.2)) l) (hi : ps.toList.map (·.1) = List.range n) (hsz : n * Dat.sz α ≤ 16777216)
    (k : ∀ x w' I, Own u x l I → St u w' (I ++ L) → Sub w w' → Q x.val w') : StepT P (Instr.buildSlice t n ps) w Q := by
  have hn : l.length = n := by rw [← hv.len, List.length_map]; have := congrArg List.length hi; simpa using this
  obtain ⟨_, _, _, _, _, _, _, _, _, _, hpos⟩ := hT.ex
  have hn24 : n ≤ 16777216 := by have := Nat.mul_le_mul_left n hpos; omega
  have hBB : BB = 1099511627776 := rfl
  exact St.buildR (hT := hT) hS hv.lens hi hsz fun x w' I h1 h2 h3 _ => k x w' I ⟨_, h1, hv.els, by omega⟩ h2 h3

/-- make([]T, n) -/
theorem St.make {P : Program} {t : TypeId} {bytes : Nat} {zc : List Value} [hT : SlT P t (Dat.sz α) bytes zc] {n : Int} {Q : Value → World → Prop} (a0 : α) (hS : St u w L)
    (hz0 : Dat.cells BB u zc a0) (h0 : 0 ≤ n) (hn : n ≤ 1099511627776) (hby : bytes ≤ 128)
    (k : ∀ x w' I, Own u x (List.replicate n.toNat a0) I → St u w' (I ++ L) → Sub w w' → Q x.val w') : StepT P (Instr.makeSlice t (.int .i64 n) (.int .i64 n)) w Q := by
  obtain ⟨e, i, z, ht, hi2, hz, hsize, hby2, hzc, hzl, hpos⟩ := hT.ex
  have hzs : z.cells.size = Dat.sz α := by rw [← Array.length_toList, hzc, hzl]
  have hb : i.bytes * n.toNat ≤ 128 * 1099511627776 := Nat.mul_le_mul (by omega) (by omega)
  refine stepT_make ht hi2 hz h0 (by omega) (by omega) fun g w' hg hs ho => ?_
  have hBB : BB = 1099511627776 := rfl
  refine k _ w' _ ⟨List.replicate n.toNat zc, .blk g 0 n.toNat n.toNat _ e _ (by simp) (Nat.le_refl _) (by simp only [maxLen]; omega) (by simp [size_madeCells, hsize]) ?_, ⟨by simp, ?_⟩, by simp; omega⟩ (hS.new hg hs ho (by simp [absent])) hs
  · intro q r hr
    have hq : q < n.toNat := by rcases Nat.lt_or_ge q n.toNat with h | h; exact h; rw [List.getElem?_eq_none (by simpa using h)] at hr; cases hr
    rw [List.getElem?_replicate_of_lt hq] at hr
    simp only [Option.some.injEq] at hr
    subst hr
    refine ⟨hzl, fun j v hj => ?_⟩
    have hjl : j < Dat.sz α := by rcases Nat.lt_or_ge j zc.length with h | h; omega; rw [List.getElem?_eq_none h] at hj; cases hj
    have := Nat.mul_le_mul_right (Dat.sz α) (show q + 1 ≤ n.toNat by omega)
    rw [Nat.add_mul] at this
    have hlt : q * Dat.sz α + j < n.toNat * i.size := by rw [hsize]; omega
    simp only [madeCells, Nat.zero_add, Array.getElem?_map, Array.getElem?_range, if_pos hlt, Option.map_some, hzs]
    have hm : (q * Dat.sz α + j) % Dat.sz α = j := by rw [Nat.mul_comm, Nat.mul_add_mod]; exact Nat.mod_eq_of_lt hjl
    rw [hm]
    have hj2 : z.cells.toList[j]? = some v := by rw [hzc]; exact hj
    have : z.cells[j]? = some v := by simpa using hj2
    rw [getElem!_def, this]
  · intro q r b hr hb
    have hq : q < n.toNat := by rcases Nat.lt_or_ge q n.toNat with h | h; exact h; rw [List.getElem?_eq_none (by simpa using h)] at hr; cases hr
    rw [List.getElem?_replicate_of_lt hq] at hr hb
    simp only [Option.some.injEq] at hr hb
    subst hr; subst hb
    exact hz0

/-- x[lo:hi] -/
theorem Own.cut (h : Own u x l I) {lo hi : Int} (h0 : 0 ≤ lo) (h1 : lo ≤ hi) (h2 : hi ≤ l.length) : Own u (x.cut lo hi (Dat.sz α)) ((l.take hi.toNat).drop lo.toNat) I := by
  have hl := h.le
  obtain ⟨rows, k1, k2, k3⟩ := h
  refine ⟨(rows.take hi.toNat).drop lo.toNat, ?_, ⟨by simp [k2.1], fun i r a hr ha => ?_⟩, by simp; omega⟩
  · cases k1 with
    | nil =>
      have e1 := k2.1
      simp only [List.length_nil] at e1
      have : hi = 0 := by omega
      have : lo = 0 := by omega
      subst hi; subst lo
      exact .nil
    | blk g o n c cur e _ hn hc hm hs hr =>
      have hle : hi ≤ n := by rw [hn, k2.1]; exact h2
      by_cases hcl : c = lo.toNat
      · have e : (Sl.cut ⟨some ⟨g, o, none⟩, n, c⟩ lo hi (Dat.sz α)) = ⟨some ⟨g, o, none⟩, hi.toNat - lo.toNat, c - lo.toNat⟩ := by simp [Sl.cut, hcl]
        rw [e]
        refine .blk g o _ _ cur _ _ (by simp; omega) (by omega) (by omega) (by rw [show c - lo.toNat = 0 from by omega]; omega) fun i r hi' => ?_
        exfalso
        rw [List.getElem?_eq_none (by simp; omega)] at hi'
        cases hi'
      · have e : (Sl.cut ⟨some ⟨g, o, none⟩, n, c⟩ lo hi (Dat.sz α)) = ⟨some ⟨g, o + lo.toNat * Dat.sz α, none⟩, hi.toNat - lo.toNat, c - lo.toNat⟩ := by simp [Sl.cut, hcl, box_add]
        rw [e]
        have hmul : lo.toNat * Dat.sz α + (c - lo.toNat) * Dat.sz α = c * Dat.sz α := by rw [← Nat.add_mul]; congr 1; omega
        refine .blk g _ _ _ cur _ _ (by simp; omega) (by omega) (by omega) (by omega) fun i r hi' => ?_
        rw [List.getElem?_drop, List.getElem?_take] at hi'
        split at hi'
        · obtain ⟨q1, q2⟩ := hr _ _ hi'
          refine ⟨q1, fun j v hj => ?_⟩
          rw [← q2 j v hj, Nat.add_mul]
          congr 1; omega
        · cases hi'
  · rw [List.getElem?_drop, List.getElem?_take] at hr ha
    split at hr
    · rename_i hlt
      rw [if_pos hlt] at ha
      exact k2.2 _ r a hr ha
    · cases hr

theorem ReadB.cut {B : Nat} (h : ReadB B w x l) {lo hi : Int} (h0 : 0 ≤ lo) (h1 : lo ≤ hi) (h2 : hi ≤ l.length) : ReadB B w (x.cut lo hi (Dat.sz α)) ((l.take hi.toNat).drop lo.toNat) := by
  obtain ⟨rows, k1, k2, k3⟩ := h
  refine ⟨(rows.take hi.toNat).drop lo.toNat, ⟨?_, ?_, fun i r hr => ?_⟩, ⟨by simp [k2.1], fun i r a hr ha => ?_⟩, by simp; omega⟩
  · simp [Sl.cut]; have := k2.1; omega
  · have := k1.1; have := k1.2.1; have := k2.1; simp only [Sl.cut]; omega
  · rw [List.getElem?_drop, List.getElem?_take] at hr
    split at hr
    · rename_i hlt
      obtain ⟨q1, q2⟩ := k1.2.2 _ _ hr
      have hc : x.c ≠ lo.toNat := by
        have := k1.1; have := k1.2.1; have := k2.1
        have : lo.toNat + i < rows.length := by rcases Nat.lt_or_ge (lo.toNat + i) rows.length with h | h; exact h; rw [List.getElem?_eq_none h] at hr; cases hr
        omega
      obtain ⟨ad, had⟩ := Option.isSome_iff_exists.1 q1
      refine ⟨by simp [Sl.cut, hc, had], fun j v hj => ?_⟩
      rw [← q2 j v hj]
      simp only [elA, Sl.cut, hc, if_false, had, Option.map_some, Option.getD_some, addr_add_add, Int.toNat_natCast]
      congr 2
      rw [Nat.add_mul]
    · cases hr
  · rw [List.getElem?_drop, List.getElem?_take] at hr ha
    split at hr
    · rename_i hlt
      rw [if_pos hlt] at ha
      exact k2.2 _ r a hr ha
    · cases hr
end

/-! ### boxes -/
def Cel (a : Addr) (vals : List Value) (I : Items) : Prop := ∃ g e, a = ⟨g, 0, none⟩ ∧ I = [(g, .cells vals.toArray e (0, 0))]
section
variable {u w w' : World} {a : Addr} {vals : List Value} {L I R : Items} {F : Items → Items}
theorem Cel.load (h : Cel a vals I) (hS : St u w L) [p : Pos I L R F] {k : Nat} {v : Value} (hv : vals[k]? = some v) : w.cell? (a.add k) = some v := by
  obtain ⟨g, e, rfl, rfl⟩ := h
  rw [cell_blk (hS.items (I := [(g, .cells vals.toArray e (0, 0))]) _ (List.mem_singleton.2 rfl)).1 rfl]
  simpa using hv
theorem Cel.store (h : Cel a vals I) (hS : St u w L) [p : Pos I L R F] {off : Nat} {vs : List Value} {K : World → Prop} (hv : off + vs.length ≤ vals.length)
    (k : ∀ w' I', Cel a (putR vals off vs) I' → St u w' (F I') → K w') : StoreAt w a off vs K := by
  obtain ⟨g, e, rfl, rfl⟩ := h
  have hA := (hS.items (I := [(g, .cells vals.toArray e (0, 0))]) _ (List.mem_singleton.2 rfl)).1
  obtain ⟨c', c1, c2, c3, c4, c5⟩ := setCellsW_blk (k := off) (l := vs) hA (by simpa using hv)
  have ec : c' = (putR vals off vs).toArray := by
    apply Array.ext_getElem?
    intro j
    rw [c3]
    simp only [List.getElem?_toArray]
    rw [putR_get _ _ _ hv]
  subst ec
  exact ⟨canSet_blk hA _ _ (by simpa using hv), k _ _ ⟨g, e, rfl, rfl⟩ (hS.updBlk (o := .cells vals.toArray e (0, 0)) (by simp [absent]) c1 c4 (Nat.le_of_eq c5.1.symm))⟩
theorem St.box (hS : St u w L) {t : TypeId} {Q : Addr → World → Prop} (k : ∀ a w' I, Cel a vals I → St u w' (I ++ L) → Sub w w' → Q a w') : NewAt w (.cells vals.toArray t (0, 0)) Q := by
  intro g w' hg hs ho
  exact k ⟨g, 0, none⟩ w' _ ⟨g, t, rfl, rfl⟩ (hS.new hg hs ho (by simp [absent])) hs
end
end Go.Vc
