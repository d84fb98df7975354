/- Part of the proofs about the heaps and memories: a law is joined in the text whose name ends in W and the law. -/
import Derived.Test.YtlcegaeioheikaaEH1
import Derived.Test.YtlcegaeioheikaaEE4
namespace Go.Vc
open Go
set_option linter.all false

structure LazyD where
 cells : List CellD
 pend : List Int
abbrev free0 : CellD := ⟨0, 0, []⟩
def cntF (ws : List Int) (k : Int) : Int := (ws.count (1000 + k) : Nat)
theorem cntF_cons (f : Int) (r : List Int) (k : Int) : cntF (f :: r) k = (if f = 1000 + k then 1 else 0) + cntF r k := by
 simp only [cntF, List.count_cons, beq_iff_eq]
 split <;> simp <;> omega
def AcycP (h : List CellD) : Prop := ∃ rk : Nat → Nat, ∀ k : Int, 0 ≤ k → k < h.length → ∀ f ∈ (nth h k).fields, 1000 ≤ f → rk (f - 1000).toNat < rk k.toNat

structure LZ (h : List CellD) (pend todo : List Int) : Prop where
 pr : ∀ p ∈ pend, 0 ≤ p ∧ p < h.length ∧ (nth h p).count = 0
 pn : pend.Nodup
 cell : ∀ c ∈ h, 0 ≤ c.count ∧ c.count ≤ 999999 ∧ c.fields.length ≤ 3 ∧ 0 ≤ c.tag ∧ c.tag ≤ 99
 free : ∀ k : Int, 0 ≤ k → k < h.length → (nth h k).count = 0 → k ∉ pend → nth h k = free0
 ptr : wordsOk h
 ptrT : ∀ f ∈ todo, word h f = true
 cnt : ∀ k : Int, 0 ≤ k → k < h.length → 0 < (nth h k).count → cntF (words h) k + cntF todo k ≤ (nth h k).count
 acyc : AcycP h
end Go.Vc

namespace Go.Vc
open Go
set_option linter.all false

def nlive (h : List CellD) : Nat := h.countP fun c => decide (0 < c.count)
def nf (z : LazyD) : Nat := nlive z.cells + z.pend.length

section
variable {h : List CellD} {pend todo r : List Int} {f p : Int}

theorem LZ.skip (L : LZ h pend (f :: todo)) (hf : ¬ 1000 ≤ f) : LZ h pend todo :=
 ⟨L.pr, L.pn, L.cell, L.free, L.ptr, fun g hg => L.ptrT g (List.mem_cons_of_mem _ hg), fun k k0 k1 hc => by
  have := L.cnt k k0 k1 hc
  rw [cntF_cons, if_neg (by omega)] at this
  omega, L.acyc⟩

theorem LZ.head (L : LZ h pend (f :: todo)) (hf : 1000 ≤ f) : live h f = true := word_ptr (L.ptrT f List.mem_cons_self) hf

end
end Go.Vc

namespace Go.Vc
open Go
set_option linter.all false

/-- z' is z with more free cells behind -/
structure Ext (z z' : LazyD) : Prop where
 cells : ∃ n, z'.cells = z.cells ++ List.replicate n free0
 pend : z'.pend = z.pend
 pin : ∀ p ∈ z.pend, 0 ≤ p ∧ p < z.cells.length

section
variable {z z' : LazyD}
theorem Ext.len (E : Ext z z') : z.cells.length ≤ z'.cells.length := by obtain ⟨n, e⟩ := E.cells; rw [e]; simp
theorem nlive_free (a : List CellD) (n : Nat) : nlive (a ++ List.replicate n free0) = nlive a := by
 unfold nlive
 rw [List.countP_append]
 have : (List.replicate n free0).countP (fun c => decide (0 < c.count)) = 0 := by
  rw [List.countP_eq_zero]; intro c hc; rw [List.eq_of_mem_replicate hc]; simp
 omega
theorem Ext.nf (E : Ext z z') : nf z' = nf z := by
 obtain ⟨n, e⟩ := E.cells
 unfold Go.Vc.nf
 rw [e, E.pend, nlive_free]
end
end Go.Vc

namespace Go.Vc
open Go
set_option linter.all false

end Go.Vc

namespace Go.Vc
open Go Go.RowKit
set_option linter.all false

section
variable {P : Program} {t tn ty e : TypeId} {i : TypeInfo} {z : Value}
theorem run_appendZ_room (ht : P.underlying t = some (.slice e)) (htn : P.underlying tn = some (.int .i64)) (hi : P.info? e = some i) (hz : i.zero = some z) (hsz : i.size = 1) (hzc : z.cells = #[intV 0]) (hby : i.bytes ≤ 128)
  (w : World) (b : Addr) (n c m : Nat) (hm1 : 1 ≤ m) (hm : m ≤ 1099511627776) (hroom : n + m ≤ c) (h2 : ∀ j, j < m → (∃ x, w.cell? ((b.add n).add (0 + j)) = some x) ∧ w.frozen? ((b.add n).add (0 + j)) = false) :
  (Builtin.append_ #[t, tn] ty #[.slice (some b) n c, .int .i64 (m : Int)]).run P w = .ok (.slice (some b) (n + m) c) (setCellsW w (b.add n) 0 (List.replicate m (intV 0))) := by
 have hst := run_storeCells (P := P) (a := b.add n) (List.replicate m (intV 0)) 0 w (fun x hx => by rw [List.eq_of_mem_replicate hx]; rfl) (fun j hj => h2 j (by simpa using hj))
 have hw : IntKind.wrap .i64 (m : Int) = m := wrap_i64 (by omega) (by omega)
 have hb : ¬ ((m : Int) * (i.bytes : Int) > 281474976710656) := by
  have : m * i.bytes ≤ 1099511627776 * 128 := Nat.mul_le_mul hm hby
  have h : ((m * i.bytes : Nat) : Int) ≤ 1099511627776 * 128 := by omega
  rw [Int.natCast_mul] at h; omega
 have hb' : ¬ (281474976710656 < (m : Int) * (i.bytes : Int)) := hb
 have h0 : ¬ ((m : Int) < 0) := by omega
 have hzz : (Builtin.zeroCells #[intV 0] m).toList = List.replicate m (intV 0) := by
  apply List.ext_getElem
  ·simp [Builtin.zeroCells]
  ·intro j h1 h2
   simp [Builtin.zeroCells, Nat.mod_one]
 have ha : ∀ w : World, (asInt (.int .i64 (m : Int))).run P w = .ok (m : Int) w := fun w => rfl
 have hm0 : m ≠ 0 := by omega
 simp [Builtin.append_, run_underlying ht, run_underlying htn, run_size hi, run_typeInfo _ hi, hsz, hw, hb', h0, hroom, ha, hm0, zeroValue, hz, hzc, hzz, hst]
theorem run_appendZ_grow (ht : P.underlying t = some (.slice e)) (htn : P.underlying tn = some (.int .i64)) (hi : P.info? e = some i) (hz : i.zero = some z) (hsz : i.size = 1) (hzc : z.cells = #[intV 0]) (hby : i.bytes ≤ 128)
  (w : World) (base : Option Addr) (n c m : Nat) (olds : List Value) (hold : (Builtin.firstCells 1 n (.slice base n c)).run P w.drew = .ok olds.toArray w.drew) (hm1 : 1 ≤ m) (hm : m ≤ 1099511627776) (hg : c < n + m) (hn : n + m ≤ 1099511627776) :
  (Builtin.append_ #[t, tn] ty #[.slice base n c, .int .i64 (m : Int)]).run P w =
   .ok (.slice (some ⟨w.heap.size, 0, none⟩) (n + m) (grownCap w (n + m) c e)) (w.drew.alloc (.cells ((olds ++ List.replicate m (intV 0)).toArray ++ Builtin.zeroCells z.cells (grownCap w (n + m) c e - (n + m))) e)) := by
 have hw : IntKind.wrap .i64 (m : Int) = m := wrap_i64 (by omega) (by omega)
 have hb' : ¬ (281474976710656 < (m : Int) * (i.bytes : Int)) := by
  have : m * i.bytes ≤ 1099511627776 * 128 := Nat.mul_le_mul hm hby
  have h : ((m * i.bytes : Nat) : Int) ≤ 1099511627776 * 128 := by omega
  rw [Int.natCast_mul] at h; omega
 have ha : ∀ w : World, (asInt (.int .i64 (m : Int))).run P w = .ok (m : Int) w := fun w => rfl
 have h0 : ¬ ((m : Int) < 0) := by omega
 have hno : ¬ (n + m ≤ c) := by omega
 have h63 : ¬ (9223372036854775807 < ((n : Int) + (m : Int))) := by omega
 have hfit : Builtin.nextslicecap (n + m) c * i.bytes ≤ 281474976710656 := growslice_fits (by omega) (by
  have : (n + m) * i.bytes ≤ 1099511627776 * 128 := Nat.mul_le_mul hn hby
  omega)
 have h48 : ¬ (281474976710656 < Builtin.nextslicecap (n + m) c * i.bytes) := by omega
 have hzz : (Builtin.zeroCells #[intV 0] m) = (List.replicate m (intV 0)).toArray := by
  apply Array.ext
  ·simp [Builtin.zeroCells]
  ·intro j h1 h2
   simp [Builtin.zeroCells, Nat.mod_one]
 have hm0 : m ≠ 0 := by omega
 simp [Builtin.append_, run_underlying ht, run_underlying htn, run_size hi, run_typeInfo _ hi, hsz, hw, hb', h0, hno, h63, h48, ha, hm0, zeroValue, hz, hzc, hzz, hold, Question.forced, newRow, grownCap]
 congr 2
 apply Array.ext'
 simp [List.append_assoc]
end

section
variable {α : Type} {P : Program} {u w w' : World} {x y : Sl} {l ns : List Int} {L I R : Items} {F : Items → Items} {t tn ty : TypeId}

theorem Own.rowsI (h : Own u x l I) : OSl 1 x (l.map fun n => [intV n]) I ∧ (∀ n ∈ l, InI n) := by
 obtain ⟨rows, h1, h2, h3⟩ := h
 have e : rows = l.map fun n => [intV n] := by
  apply List.ext_getElem
  ·simpa using h2.1
  ·intro i i1 i2
   have := h2.2 i _ _ (List.getElem?_eq_getElem i1) (List.getElem?_eq_getElem (by simpa using i2))
   simpa using this.1
 subst e
 refine ⟨h1, fun n hn => ?_⟩
 obtain ⟨i, hi, rfl⟩ := List.getElem_of_mem hn
 exact (h2.2 i [intV l[i]] l[i] (by simp [hi]) (List.getElem?_eq_getElem hi)).2
theorem Own.ofRows (h : OSl 1 x (l.map fun n => [intV n]) I) (hl : l.length ≤ 1099511627776) (hi : ∀ n ∈ l, InI n) : Own u x l I :=
 ⟨_, h, ⟨by simp, fun i r a hr ha => by
  rw [List.getElem?_map, ha] at hr
  simp at hr
  exact ⟨hr.symm, hi a (List.mem_of_getElem? ha)⟩⟩, hl⟩

/-- a range is stored -/
theorem Own.range (h : Own u x l I) (hS : St u w L) [p : Pos I L R F] {lo : Int} (h0 : 0 ≤ lo) (h1 : lo + ns.length ≤ l.length) (hn : ∀ n ∈ ns, InI n) (hpos : 0 < ns.length) :
  CanSet w (elA x lo 1) 0 (ns.map intV) ∧ ∃ I', Own u x (l.take lo.toNat ++ ns ++ l.drop (lo.toNat + ns.length)) I' ∧ St u (setCellsW w (elA x lo 1) 0 (ns.map intV)) (F I') := by
 obtain ⟨hr, hin⟩ := h.rowsI
 have hle := h.le
 have hln : (l.map fun n => [intV n]).length = l.length := by simp
 generalize hrows : (l.map fun n => [intV n]) = rows at *
 cases hr with
 | nil => simp at hln; omega
 | blk g o n c cur e _ hnn hc hm hs hrow =>
  have hA := (hS.items (I := [(g, .cells cur e (0, 0))]) (g, .cells cur e (0, 0)) (by simp)).1
  rw [elA_blk]
  have ea : (⟨g, o + lo.toNat * 1, none⟩ : Addr) = (⟨g, 0, none⟩ : Addr).add (o + lo.toNat) := by rw [box_add]; simp
  rw [ea, setCellsW_add, Nat.add_zero]
  have hfit : o + lo.toNat + (ns.map intV).length ≤ cur.size := by simp; omega
  obtain ⟨c', c1, c2, c3, c4, c5⟩ := setCellsW_blk (k := o + lo.toNat) (l := ns.map intV) hA hfit
  refine ⟨canSet_add _ _ _ _ _ (by rw [Nat.add_zero]; exact canSet_blk hA _ _ (by omega)), [(g, .cells c' e (0, 0))], Own.ofRows (.blk g o n c c' e _ (by simp; omega) hc hm (by omega) ?_) (by simp; omega) (fun q hq => ?_), hS.updBlk (o := .cells cur e (0, 0)) (by simp [absent]) c1 c4 (Nat.le_of_eq c5.1.symm)⟩
  ·intro i r hi
   rw [List.getElem?_map] at hi
   cases hg : (l.take lo.toNat ++ ns ++ l.drop (lo.toNat + ns.length))[i]? with
   | none => rw [hg] at hi; cases hi
   | some q =>
    rw [hg] at hi
    simp at hi
    subst hi
    refine ⟨rfl, fun j v hj => ?_⟩
    have hj0 : j = 0 := by
     rcases Nat.eq_zero_or_pos j with h | h
     ·exact h
     ·rw [List.getElem?_eq_none (by simp; omega)] at hj; cases hj
    subst hj0
    simp at hj
    subst hj
    rw [c3]
    have hlt : i < (l.take lo.toNat ++ ns ++ l.drop (lo.toNat + ns.length)).length := (List.getElem?_eq_some_iff.1 hg).1
    simp only [List.length_append, List.length_take, List.length_drop] at hlt
    by_cases e1 : i < lo.toNat
    ·rw [List.append_assoc, List.getElem?_append_left (by simp; omega), List.getElem?_take, if_pos e1] at hg
     rw [if_neg (by omega)]
     have := (hrow i [intV q] (by rw [← hrows, List.getElem?_map, hg]; rfl)).2 0 (intV q) rfl
     simpa using this
    ·by_cases e2 : i < lo.toNat + ns.length
     ·rw [if_pos (by simp; omega)]
      rw [List.getElem?_append_left (by simp; omega), List.getElem?_append_right (by simp; omega)] at hg
      rw [List.getElem?_map]
      have ee : o + i * 1 + 0 - (o + lo.toNat) = i - (List.take lo.toNat l).length := by simp; omega
      rw [ee, hg]; rfl
     ·rw [if_neg (by simp; omega)]
      rw [List.getElem?_append_right (by simp; omega), List.getElem?_drop] at hg
      have ei : lo.toNat + ns.length + (i - (List.take lo.toNat l ++ ns).length) = i := by simp; omega
      rw [ei] at hg
      have := (hrow i [intV q] (by rw [← hrows, List.getElem?_map, hg]; rfl)).2 0 (intV q) rfl
      simpa using this
  ·rcases List.mem_append.1 hq with hq | hq
   ·rcases List.mem_append.1 hq with hq | hq
    ·exact hin q (List.mem_of_mem_take hq)
    ·exact hn q hq
   ·exact hin q (List.mem_of_mem_drop hq)

/-- append(x, make([]int, m)...) -/
theorem Own.appendZ {bytes : Nat} [hT : SlT P t 1 bytes [intV 0]] (htn : P.underlying tn = some (.int .i64)) {m : Nat} {Q : Value → World → Prop} (h : Own u x l I) (hS : St u w L) [p : Pos I L R F] (hm1 : 1 ≤ m) (hb : l.length + m ≤ 1099511627776) (hby2 : bytes ≤ 128)
  (k : ∀ x' w' I', Own u x' (l ++ List.replicate m 0) I' → St u w' (F I') → Q x'.val w') : StepT P (Builtin.append_ #[t, tn] ty #[x.val, .int .i64 (m : Int)]) w Q := by
 obtain ⟨e, i, z, ht, hi2, hz, hsize, hby, hzc, hzl, hsz⟩ := hT.ex
 have hzc' : z.cells = #[intV 0] := by apply Array.ext'; simpa using hzc
 obtain ⟨hr, hin⟩ := h.rowsI
 have hln : (l.map fun n => [intV n]).length = l.length := by simp
 have hin2 : ∀ n ∈ l ++ List.replicate m 0, InI n := fun n hn => by
  rcases List.mem_append.1 hn with hn | hn
  ·exact hin n hn
  ·rw [List.eq_of_mem_replicate hn]; exact ⟨by omega, by omega⟩
 have fresh : ∀ (w0 : World) (c : Nat) (cur : Array Value), Sub w w0 → l.length + m ≤ c → c ≤ maxLen → c ≤ cur.size → (∀ (j : Nat) (v : Value), (l.map intV ++ List.replicate m (intV 0))[j]? = some v → cur[j]? = some v) →
   ∃ v', Fr w w0 v' (w0.drew.alloc (.cells cur e)) ∧ Q (.slice (some ⟨w0.heap.size, 0, none⟩) (l.length + m) c) v' := by
  intro w0 c cur hs hc hm hcs hcur
  have hs' : Sub w w0.drew := ⟨hs.size, hs.at_⟩
  obtain ⟨v', fr, hq⟩ := newAt_step (o := .cells cur e) (Q := fun a w' => ∃ g, a = ⟨g, 0, none⟩ ∧ Q (.slice (some ⟨g, 0, none⟩) (l.length + m) c) w') hs' (fun g w' hg hsub hh => by
   refine ⟨g, rfl, k ⟨some ⟨g, 0, none⟩, l.length + m, c⟩ w' _ (Own.ofRows (.blk g 0 _ c cur e _ (by simp) hc hm (by omega) ?_) (by simp; omega) hin2) (hS.upd (I := I) (I' := [(g, .cells cur e (0, 0))]) (fun b o hb hne _ => hsub.at_ b o hb hne) (by simpa [AtAll, absent] using hh) (by simp) (fun b hb => .inr (by simp only [List.map_cons, List.map_nil, List.mem_singleton] at hb; subst hb; exact out_of_le hg)) hsub.size)⟩
   intro q r hq
   rw [List.getElem?_map] at hq
   cases hg2 : (l ++ List.replicate m 0)[q]? with
   | none => rw [hg2] at hq; cases hq
   | some n =>
    rw [hg2] at hq
    simp at hq
    subst hq
    refine ⟨rfl, fun j v hj => ?_⟩
    have hj0 : j = 0 := by
     rcases Nat.eq_zero_or_pos j with h | h
     ·exact h
     ·rw [List.getElem?_eq_none (by simp; omega)] at hj; cases hj
    subst hj0
    simp at hj
    subst hj
    have := hcur q (intV n) (by
     have e1 : l.map intV ++ List.replicate m (intV 0) = (l ++ List.replicate m 0).map intV := by simp
     rw [e1, List.getElem?_map, hg2]; rfl)
    simpa using this)
  obtain ⟨g, hg, hq⟩ := hq
  cases hg
  exact ⟨v', ⟨fr.sub, fr.size, fr.os, fr.tape, fr.output, fr.out⟩, hq⟩
 have hml : maxLen = 9223372036854775807 := rfl
 intro w0 hs
 generalize hrows : (l.map fun n => [intV n]) = rows at *
 cases hr with
 | nil =>
  have hl0 : l = [] := List.eq_nil_of_length_eq_zero (by simpa using hln.symm)
  subst hl0
  have hg := run_appendZ_grow (P := P) (ty := ty) ht htn hi2 hz hsize hzc' (by omega) w0 none 0 0 m [] (run_firstCells_none w0.drew 1 0 0 0) hm1 (by simp at hb; omega) (by omega) (by simp at hb; omega)
  obtain ⟨v', fr, hq⟩ := fresh w0 (grownCap w0 (0 + m) 0 e) (([] ++ List.replicate m (intV 0)).toArray ++ Builtin.zeroCells z.cells (grownCap w0 (0 + m) 0 e - (0 + m))) hs (by simpa using grownCap_ge w0 (0 + m) 0 e) (grownCap_le_maxLen w0 (0 + m) 0 e (by simp at hb; omega)) (by
   rw [Array.size_append, List.size_toArray, size_zeroCells, hzc']
   have := grownCap_ge w0 (0 + m) 0 e
   simp; omega) (by
   intro j v hj
   rw [Array.getElem?_append_left]
   ·rw [List.getElem?_toArray]; exact hj
   ·have := (List.getElem?_eq_some_iff.1 hj).1
    simpa using this)
  simp only [List.length_nil] at hq
  exact ⟨_, _, v', hg, fr, hq⟩
 | blk g o n c cur e' _ hnn hc hm hcs hrow =>
  have hnl : n = l.length := by omega
  have hA := (hS.items (I := [(g, .cells cur e' (0, 0))]) (g, .cells cur e' (0, 0)) (by simp)).1
  have hold : ∀ j v, (l.map intV)[j]? = some v → cur[o + j]? = some v := fun j v hj => by
   rw [List.getElem?_map] at hj
   cases hg2 : l[j]? with
   | none => rw [hg2] at hj; cases hj
   | some q =>
    rw [hg2] at hj
    simp at hj
    subst hj
    have := (hrow j [intV q] (by rw [← hrows, List.getElem?_map, hg2]; rfl)).2 0 (intV q) rfl
    simpa using this
  by_cases hroom : n + m ≤ c
  ·have ea : (⟨g, o, none⟩ : Addr).add n = (⟨g, 0, none⟩ : Addr).add (o + n) := by rw [box_add, box_add]; simp
   have hcan : CanSet w ((⟨g, o, none⟩ : Addr).add n) 0 (List.replicate m (intV 0)) := by rw [ea]; exact canSet_add _ _ _ _ _ (canSet_blk hA _ _ (by simp; omega))
   have hget := canSet_get hcan
   have hr := run_appendZ_room (P := P) (ty := ty) ht htn hi2 hz hsize hzc' (by omega) w0 ⟨g, o, none⟩ n c m hm1 (by omega) hroom (fun j hj => ⟨let ⟨q, hq⟩ := (hget j (by simpa using hj)).1; ⟨q, cell_sub hs hq⟩, let ⟨q, hq⟩ := (hget j (by simpa using hj)).1; frozen_sub hs hq (hget j (by simpa using hj)).2⟩)
   refine ⟨_, _, _, hr, setCellsW_fr _ _ hs hcan, ?_⟩
   rw [ea, setCellsW_add, Nat.add_zero]
   obtain ⟨c', c1, c2, c3, c4, c5⟩ := setCellsW_blk (k := o + n) (l := List.replicate m (intV 0)) hA (by simp; omega)
   refine k ⟨some ⟨g, o, none⟩, n + m, c⟩ _ _ (Own.ofRows (.blk g o _ c c' e' _ (by simp; omega) hroom hm (by omega) ?_) (by simp; omega) hin2) (hS.updBlk (o := .cells cur e' (0, 0)) (by simp [absent]) c1 c4 (Nat.le_of_eq c5.1.symm))
   intro q r hq
   rw [List.getElem?_map] at hq
   cases hg2 : (l ++ List.replicate m 0)[q]? with
   | none => rw [hg2] at hq; cases hq
   | some b =>
    rw [hg2] at hq
    simp at hq
    subst hq
    refine ⟨rfl, fun j v hj => ?_⟩
    have hj0 : j = 0 := by
     rcases Nat.eq_zero_or_pos j with h | h
     ·exact h
     ·rw [List.getElem?_eq_none (by simp; omega)] at hj; cases hj
    subst hj0
    simp at hj
    subst hj
    have hlt := (List.getElem?_eq_some_iff.1 hg2).1
    simp only [List.length_append, List.length_replicate] at hlt
    rw [c3]
    by_cases e1 : q < l.length
    ·rw [if_neg (by omega)]
     rw [List.getElem?_append_left e1] at hg2
     have := hold q (intV b) (by rw [List.getElem?_map, hg2]; rfl)
     simpa using this
    ·rw [if_pos (by simp; omega)]
     rw [List.getElem?_append_right (by omega), List.getElem?_replicate] at hg2
     rw [List.getElem?_replicate, if_pos (by omega)]
     rw [if_pos (by omega)] at hg2
     rw [← Option.some.inj hg2]
  ·have hof : (Builtin.firstCells 1 n (.slice (some ⟨g, o, none⟩) n c)).run P w0.drew = .ok (l.map intV).toArray w0.drew := run_firstCells_some (P := P) w0.drew 1 n ⟨g, o, none⟩ n c (l.map intV) (by simp; omega) (fun j v hj => by
    show w0.cell? _ = _
    rw [cell_blk (hs.at_ _ _ hA (by simp [absent])) rfl]
    exact hold j v hj)
   have hgr := run_appendZ_grow (P := P) (ty := ty) ht htn hi2 hz hsize hzc' (by omega) w0 (some ⟨g, o, none⟩) n c m (l.map intV) hof hm1 (by omega) (by omega) (by omega)
   obtain ⟨v', fr, hq⟩ := fresh w0 (grownCap w0 (n + m) c e) ((l.map intV ++ List.replicate m (intV 0)).toArray ++ Builtin.zeroCells z.cells (grownCap w0 (n + m) c e - (n + m))) hs (by rw [← hnl]; exact grownCap_ge w0 (n + m) c e) (grownCap_le_maxLen w0 (n + m) c e (by omega)) (by
    rw [Array.size_append, List.size_toArray, size_zeroCells, hzc']
    have := grownCap_ge w0 (n + m) c e
    simp; omega) (by
    intro j v hj
    rw [Array.getElem?_append_left]
    ·simpa using hj
    ·have := (List.getElem?_eq_some_iff.1 hj).1
     simpa using this)
   rw [← hnl] at hq
   exact ⟨_, _, v', hgr, fr, hq⟩
end
end Go.Vc
