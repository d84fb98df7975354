/- Part of the proofs about the heaps and memories: a law is joined in the text whose name ends in W and the law. -/
import Derived.Test.YtojmcdmbkfigaaaGreatEBa
import Derived.Test.YtojmcdmbkfigaaaGreatEBb
import Derived.Test.YtojmcdmbkfigaaaGreatEBc
namespace Go.Vc
open Go Go.Proofs Go.RowKit
set_option linter.all false
theorem setCell_obj {cur : Array Value} {e : TypeId} {fz : Nat × Nat} {g o : Nat} {v : Value} {w : World} (h : w.heap[g]? = some (.cells cur e fz)) :
    (w.setCell ⟨g, o, none⟩ v).heap[g]? = some (.cells (cur.setIfInBounds o v) e fz) := by
  obtain ⟨hlt, hk⟩ := Array.getElem?_eq_some_iff.1 h
  show (w.heap.modify g _)[g]? = _
  rw [Array.getElem?_eq_getElem (by rw [Array.size_modify]; exact hlt), Array.getElem_modify_self, hk]
  rfl
theorem setCells_obj {e : TypeId} {fz : Nat × Nat} {g : Nat} : ∀ (vs : List Value) (o : Nat) (cur : Array Value) (w : World), w.heap[g]? = some (.cells cur e fz) →
    ∃ cur', (w.setCells g o vs).heap[g]? = some (.cells cur' e fz) ∧ cur'.size = cur.size ∧ (∀ k, cur'[k]? = if o ≤ k ∧ k < o + vs.length ∧ k < cur.size then vs[k - o]? else cur[k]?) ∧ (∀ k, k ≠ g → (w.setCells g o vs).heap[k]? = w.heap[k]?) ∧ (w.setCells g o vs).heap.size = w.heap.size ∧ (w.setCells g o vs).os = w.os ∧ (w.setCells g o vs).tape = w.tape ∧ (w.setCells g o vs).output = w.output
  | [], o, cur, w, h => ⟨cur, h, rfl, fun k => by rw [if_neg (by simp; omega)], fun _ _ => rfl, rfl, rfl, rfl, rfl⟩
  | v :: r, o, cur, w, h => by
    rw [World.setCells]
    obtain ⟨cur', h1, h2, h3, h4, h5, h6, h7, h8⟩ := setCells_obj r (o + 1) _ _ (setCell_obj (o := o) (v := v) h)
    refine ⟨cur', h1, by rw [h2]; simp, fun k => ?_, fun k hk => (h4 k hk).trans (Below.heap_setCell w ⟨g, o, none⟩ v k (fun e => hk e)), ?_, h6, h7, h8⟩
    · rw [h3, Array.size_setIfInBounds, Array.getElem?_setIfInBounds]
      by_cases e1 : o = k
      · subst e1
        rw [if_neg (by omega), if_pos rfl]
        by_cases hs : o < cur.size
        · rw [if_pos hs, if_pos ⟨Nat.le_refl _, by simp, hs⟩]; simp
        · rw [if_neg hs, if_neg (by omega), Array.getElem?_eq_none (by omega)]
      · rw [if_neg e1]
        by_cases hc : o + 1 ≤ k ∧ k < o + 1 + r.length ∧ k < cur.size
        · rw [if_pos hc, if_pos ⟨by omega, by simp; omega, hc.2.2⟩, show k - o = (k - (o + 1)) + 1 from by omega, List.getElem?_cons_succ]
        · rw [if_neg hc, if_neg (by simp only [List.length_cons]; omega)]
    · rw [h5]
      show (w.heap.modify g _).size = _
      rw [Array.size_modify]
section
variable {u v w w' : World} {x y z : Sl} {l : List Int} {I K L R : Items} {i a n : Int}
instance : SlT Tryz.prog 178 1 8 [intV 0] := .of (by kernel_rfl) rfl (by decide)
theorem append_mixed (ty : TypeId) (x : Sl) (b : Value) (W : World) : (Builtin.append_ #[178, 37] ty #[x.val, b]).run Tryz.prog W = (Builtin.append_ #[178, 178] ty #[x.val, b]).run Tryz.prog W := by
  obtain ⟨e0, i0, z, ht0, hi0, hz0, hzs, hzb, hzc, _, _⟩ := (inferInstance : SlT Tryz.prog 37 1 8 [intV 0]).ex
  rw [und37] at ht0
  cases ht0
  simp [Builtin.append_, Sl.val, run_underlying und178, run_underlying und37, run_size hi0]
theorem stepT_mixed {ty : TypeId} {x : Sl} {b : Value} {Q : Value → World → Prop} (h : StepT Tryz.prog (Builtin.append_ #[178, 178] ty #[x.val, b]) w Q) : StepT Tryz.prog (Builtin.append_ #[178, 37] ty #[x.val, b]) w Q := fun W hs => by
  rw [append_mixed]; exact h W hs
theorem row_own {g o n c : Nat} {cur : Array Value} {e : TypeId} (hn : n = l.length) (hc : n ≤ c) (hm : c ≤ maxLen) (hs : o + c ≤ cur.size) (hl : l.length ≤ 1099511627776) (hi : ∀ q ∈ l, InI q) (hcell : ∀ (j : Nat) (q : Int), l[j]? = some q → cur[o + j]? = some (intV q)) :
    Own u ⟨some ⟨g, o, none⟩, n, c⟩ l [(g, .cells cur e (0, 0))] := by
  refine Own.ofRows (.blk g o n c cur e _ (by simpa using hn) hc hm (by omega) ?_) hl hi
  intro q r hq
  rw [List.getElem?_map] at hq
  cases hg2 : l[q]? with
  | none => rw [hg2] at hq; cases hq
  | some m =>
    rw [hg2] at hq
    simp at hq
    subst hq
    refine ⟨rfl, fun j v hj => ?_⟩
    have hj0 : j = 0 := by
      rcases Nat.eq_zero_or_pos j with h | h
      · exact h
      · rw [List.getElem?_eq_none (by simp; omega)] at hj; cases hj
    subst hj0
    simp at hj
    subst hj
    simpa using hcell q m hg2
/-- what an owned slice of integers that is not empty is made of -/
theorem own_row (h : Own u x l I) (hl : 0 < l.length) : ∃ (g o n c : Nat) (cur : Array Value) (e : TypeId), x = ⟨some ⟨g, o, none⟩, n, c⟩ ∧ I = [(g, .cells cur e (0, 0))] ∧ n = l.length ∧ n ≤ c ∧ c ≤ maxLen ∧ o + c ≤ cur.size ∧ (∀ q ∈ l, InI q) ∧ ∀ (j : Nat) (q : Int), l[j]? = some q → cur[o + j]? = some (intV q) := by
  obtain ⟨hr, hi⟩ := h.rowsI
  generalize hrows : (l.map fun n => [intV n]) = rows at hr
  cases hr with
  | nil =>
    have := congrArg List.length hrows
    simp at this
    subst this
    simp at hl
  | blk g o n c cur e _ hn hc hm hs hrow =>
    refine ⟨g, o, n, c, cur, e, rfl, rfl, by rw [hn, ← hrows]; simp, hc, hm, by omega, hi, fun j q hj => ?_⟩
    have := (hrow j [intV q] (by rw [← hrows, List.getElem?_map, hj]; rfl)).2 0 (intV q) rfl
    simpa using this
theorem ins_get {k j : Nat} (hk : k ≤ l.length) : (l.take k ++ a :: l.drop k)[j]? = if j < k then l[j]? else if j = k then some a else l[j - 1]? := by
  by_cases h1 : j < k
  · rw [if_pos h1, List.getElem?_append_left (by simp; omega), List.getElem?_take, if_pos h1]
  · rw [if_neg h1, List.getElem?_append_right (by simp; omega)]
    simp only [List.length_take]
    rw [Nat.min_eq_left hk]
    by_cases h2 : j = k
    · subst h2; simp
    · rw [if_neg h2, show j - k = (j - 1 - k) + 1 from by omega, List.getElem?_cons_succ, List.getElem?_drop]
      congr 1; omega
theorem c_insertV (hO : Own u x l I) (hO2 : Own u y [a] K) (hS : St u w (K ++ (I ++ R))) (h0 : 0 ≤ i) (h1 : i ≤ l.length) (hl : l.length ≤ 1000000) :
    Trip Tryz.prog 159 #[x.val, .int .i64 i, y.val] w fun r w' => ∃ z I', r = z.val ∧ Own u z (l.take i.toNat ++ a :: l.drop i.toNat) I' ∧ St u w' (K ++ (I' ++ R)) := by
  have hxn := (hO.read hS).n
  have hyn := (hO2.read hS).n
  by_cases hend : i = l.length
  · refine of159 _ _ _ _ _ ?_
    unfold vc159
    refine ⟨⟨h0, by omega⟩, fun hc => ?_, fun _ => ⟨fun _ => ?_, fun hc => ?_⟩⟩
    · simp at hc; rw [hyn] at hc; simp at hc
    · refine stepT_mixed ?_
      refine hO.append hS (hO2.src hS) (by simp; omega) (by decide) ?_
      intro z w' I' hO' hS'
      refine ⟨z, rfl, z, I', rfl, ?_, hS'⟩
      rw [hend]
      simpa using hO'
    · simp at hc; omega
  · obtain ⟨k, rfl⟩ : ∃ k : Nat, i = (k : Int) := ⟨i.toNat, by omega⟩
    have hkl : k < l.length := by omega
    obtain ⟨g, o, n, c, cur, e, rfl, rfl, hn, hnc, hcm, hcs, hin, hcell⟩ := own_row hO (by omega)
    obtain ⟨g2, o2, n2, c2, cur2, e2, rfl, rfl, hn2, hnc2, hcm2, hcs2, hin2, hcell2⟩ := own_row hO2 (by simp)
    simp only [List.length_singleton] at hn2
    subst hn2
    have hia := hin2 a (by simp)
    have hne : g2 ≠ g := by
      have := hS.nd
      simp at this
      exact this.1.1
    have at1 := hS.at_ (g, .cells cur e (0, 0)) (by simp)
    have at2 := hS.at_ (g2, .cells cur2 e2 (0, 0)) (by simp)
    have hall : ∀ q ∈ l.take k ++ a :: l.drop k, InI q := fun q hq => by
      rcases List.mem_append.1 hq with hq | hq
      · exact hin q (List.mem_of_mem_take hq)
      · rcases List.mem_cons.1 hq with rfl | hq
        · exact hia
        · exact hin q (List.mem_of_mem_drop hq)
    have hlen2 : (l.take k ++ a :: l.drop k).length = n + 1 := by simp; omega
    have hcsl : ∀ (W : World), W.heap[g]? = some (.cells cur e (0, 0)) → ∀ (j : Nat) (v : Value), (l.map intV)[j]? = some v → W.cell? ⟨g, o + j, none⟩ = some v := by
      intro W hW j v hj
      rw [List.getElem?_map] at hj
      cases hq : l[j]? with
      | none => rw [hq] at hj; cases hj
      | some q => rw [hq] at hj; simp at hj; subst hj; simp [World.cell?, hW, hcell j q hq]
    have hvsl : ∀ (W : World), W.heap[g2]? = some (.cells cur2 e2 (0, 0)) → ∀ (j : Nat) (v : Value), ([intV a])[j]? = some v → W.cell? ⟨g2, o2 + j, none⟩ = some v := by
      intro W hW j v hj
      have hj0 : j = 0 := by
        rcases Nat.eq_zero_or_pos j with h | h
        · exact h
        · rw [List.getElem?_eq_none (by simp; omega)] at hj; cases hj
      subst hj0
      simp at hj
      subst hj
      have := hcell2 0 a rfl
      simp at this
      simp [World.cell?, hW, this]
    have h1c : ∀ v ∈ l.map intV, v.oneCell' = true := fun v hv => by obtain ⟨q, _, rfl⟩ := List.mem_map.1 hv; rfl
    have h1v : ∀ v ∈ [intV a], v.oneCell' = true := fun v hv => by rw [List.mem_singleton.1 hv]; rfl
    refine ⟨fun W => callFunc_enter Tryz.func159 (by kernel_rfl) rfl _ _, fun W hs => ?_⟩
    have hW1 := hs.at_ _ _ at1.1 at1.2
    have hW2 := hs.at_ _ _ at2.1 at2.2
    by_cases hroom : n + 1 ≤ c
    · refine (ins_shift g o n c k g2 o2 1 c2 (l.map intV) [intV a] W (by omega) (by omega) hroom hcm hne (by simp; omega) rfl (hcsl W hW1) (fun j hj => ?_) (fun j hj => by simp [World.frozen?, hW1]) (hvsl W hW2) h1c h1v e2 e cur2.size cur.size (by simp [World.shape?, hW2]) (by simp [World.shape?, hW1]) (by omega) (by simp [World.frozen?, hW2]) (by simp [World.frozen?, hW2])).mono ?_
      · simp only [World.cell?, hW1]
        simp
        omega
      · rintro _ w' ⟨rfl, rfl⟩
        obtain ⟨cur3, a1, a2, a3, a4, a5, a6, a7, a8⟩ := setCells_obj ((l.map intV).drop k) (o + (k + 1)) cur W.drew hW1
        obtain ⟨cur4, b1, b2, b3, b4, b5, b6, b7, b8⟩ := setCells_obj [intV a] (o + k) cur3 _ a1
        have hz : Own u ⟨some ⟨g, o, none⟩, n + 1, c⟩ (l.take k ++ a :: l.drop k) [(g, .cells cur4 e (0, 0))] := by
          refine row_own hlen2.symm hroom hcm (by omega) (by omega) hall fun j q hj => ?_
          rw [ins_get (by omega)] at hj
          have hjn : j < n + 1 := by
            split at hj
            · omega
            · split at hj
              · omega
              · have := (List.getElem?_eq_some_iff.1 hj).1; omega
          rw [b3, a3, a2]
          simp only [List.length_singleton, List.length_drop, List.length_map]
          split at hj
          · rw [if_neg (by omega), if_neg (by omega)]
            exact hcell j q hj
          · split at hj
            · rename_i e1 e2
              subst e2
              rw [if_pos ⟨by omega, by omega, by omega⟩]
              cases hj
              simp
            · rw [if_neg (by omega), if_pos ⟨by omega, by omega, by omega⟩, List.getElem?_drop, List.getElem?_map, show k + (o + j - (o + (k + 1))) = j - 1 from by omega, hj]
              rfl
        have hgl := (Array.getElem?_eq_some_iff.1 at1.1).1
        obtain ⟨v', hv'⟩ : ∃ v' : World, v' = { w with heap := w.heap.setIfInBounds g (.cells cur4 e (0, 0)) } := ⟨_, rfl⟩
        have hvg : v'.heap[g]? = some (.cells cur4 e (0, 0)) := by rw [hv']; simp [hgl]
        have hvk : ∀ b, b ≠ g → v'.heap[b]? = w.heap[b]? := fun b hb => by rw [hv']; simp only [Array.getElem?_setIfInBounds]; rw [if_neg (by omega)]
        have hvs : v'.heap.size = w.heap.size := by rw [hv']; simp
        refine ⟨_, v', rfl, ⟨⟨?_, fun b ob hb hne => ?_⟩, ?_, ?_, ?_, ?_, fun b hb hOut => ?_⟩, ⟨some ⟨g, o, none⟩, n + 1, c⟩, _, rfl, hz, ?_⟩
        · rw [hvs, b5, a5]; exact hs.size
        · by_cases e : b = g
          · subst e
            rw [hvg] at hb
            cases hb
            exact b1
          · rw [hvk b e] at hb
            rw [b4 b e, a4 b e]
            exact hs.at_ b ob hb hne
        · rw [b5, a5]; exact Nat.le_refl _
        · rw [b6, a6]; rfl
        · rw [b7, a7]; rfl
        · rw [b8, a8]; rfl
        · have hbg : b ≠ g := by
            rintro rfl
            exact at1.2 (hOut _ at1.1)
          refine ⟨fun ob hob => hOut ob (by rw [← hvk b hbg]; exact hob), ?_⟩
          rw [b4 b hbg, a4 b hbg]
          rfl
        · exact hS.updBlk (g := g) (o := .cells cur e (0, 0)) (by simp [absent]) hvg hvk (by omega)
    · refine (ins_grow g o n c k g2 o2 1 c2 (l.map intV) [intV a] W (by omega) (by omega) hnc (by omega) (by omega) (by simp; omega) rfl (hcsl W hW1) (hvsl W hW2) h1c h1v).mono ?_
      rintro _ w' ⟨ROW, G, hR1, hR2, hG1, hG2, hR0, rfl, rfl⟩
      have hal : (W.alloc (.cells ROW 3)).heap[W.heap.size]? = some (.cells ROW 3 (0, 0)) := World.alloc_heap_new W _
      obtain ⟨cur3, a1, a2, a3, a4, a5, a6, a7, a8⟩ := setCells_obj [intV a] k ROW (W.alloc (.cells ROW 3)).drew hal
      obtain ⟨cur4, b1, b2, b3, b4, b5, b6, b7, b8⟩ := setCells_obj ((l.map intV).drop k) (k + 1) cur3 (((W.alloc (.cells ROW 3)).drew.setCells W.heap.size k [intV a]).drew) a1
      have hz : Own u ⟨some ⟨W.heap.size, 0, none⟩, n + 1, G⟩ (l.take k ++ a :: l.drop k) [(W.heap.size, .cells cur4 3 (0, 0))] := by
        refine row_own hlen2.symm hG1 hG2 (by omega) (by omega) hall fun j q hj => ?_
        rw [ins_get (by omega)] at hj
        have hjn : j < n + 1 := by
          split at hj
          · omega
          · split at hj
            · omega
            · have := (List.getElem?_eq_some_iff.1 hj).1; omega
        rw [Nat.zero_add, b3, a3, a2]
        simp only [List.length_singleton, List.length_drop, List.length_map]
        split at hj
        · rename_i e1
          rw [if_neg (by omega), if_neg (by omega), hR0 j e1, List.getElem?_map, hj]
          rfl
        · split at hj
          · rename_i e1 e2
            subst e2
            rw [if_neg (by omega), if_pos ⟨by omega, by omega, by omega⟩]
            cases hj
            simp
          · rw [if_pos ⟨by omega, by omega, by omega⟩, List.getElem?_drop, List.getElem?_map, show k + (j - (k + 1)) = j - 1 from by omega, hj]
            rfl
      obtain ⟨v', fr, hq⟩ := newAt_step (o := .cells cur4 3) (Q := fun A w1 => A = ⟨W.heap.size, 0, none⟩ → ∃ z I', Value.slice (some ⟨W.heap.size, 0, none⟩) (n + 1) G = z.val ∧ Own u z (l.take (k : Int).toNat ++ a :: l.drop (k : Int).toNat) I' ∧ St u w1 ([(g2, .cells cur2 e2 (0, 0))] ++ (I' ++ R))) hs (fun g3 w1 hg hsub hh hA => by
        cases hA
        refine ⟨⟨some ⟨W.heap.size, 0, none⟩, n + 1, G⟩, _, rfl, hz, ?_⟩
        have h3 := hS.new (w' := w1) hg hsub hh (by simp [absent])
        exact h3.to)
      have hq := hq rfl
      have hsz : (((W.alloc (.cells ROW 3)).drew.setCells W.heap.size k [intV a]).drew.setCells W.heap.size (k + 1) ((l.map intV).drop k)).heap = (W.alloc (.cells cur4 3)).heap := by
        apply Array.ext_getElem?
        intro b
        by_cases e : b = W.heap.size
        · subst e
          rw [b1]
          exact (World.alloc_heap_new W _).symm
        · rw [b4 b e]
          show ((W.alloc (.cells ROW 3)).drew.setCells W.heap.size k [intV a]).heap[b]? = _
          rw [a4 b e]
          show (W.alloc (.cells ROW 3)).heap[b]? = _
          by_cases hlt : b < W.heap.size
          · rw [Below.heap_alloc W _ b hlt, Below.heap_alloc W _ b hlt]
          · rw [Array.getElem?_eq_none (by simp; omega), Array.getElem?_eq_none (by simp; omega)]
      refine ⟨_, v', rfl, ⟨⟨?_, fun b ob hb hne => ?_⟩, ?_, ?_, ?_, ?_, fun b hb hOut => ?_⟩, hq⟩
      · rw [hsz]; exact fr.sub.size
      · rw [hsz]; exact fr.sub.at_ b ob hb hne
      · rw [hsz]; exact fr.size
      · rw [b6]; show ((W.alloc (.cells ROW 3)).drew.setCells W.heap.size k [intV a]).os = _; rw [a6]; rfl
      · rw [b7]; show ((W.alloc (.cells ROW 3)).drew.setCells W.heap.size k [intV a]).tape = _; rw [a7]; rfl
      · rw [b8]; show ((W.alloc (.cells ROW 3)).drew.setCells W.heap.size k [intV a]).output = _; rw [a8]; rfl
      · rw [hsz]; exact fr.out b hb hOut
end
end Go.Vc

namespace Go.Vc
open Go Go.Proofs Go.RowKit
set_option linter.all false
section
variable {u v w w' : World} {x y z : Sl} {l : List Int} {I K L R : Items} {i a n : Int} {P : Program}
theorem go_shr1 {t : TypeId} {a b : Operand} {x : Int} {w : World} {K : Int → Prop} (x0 : 0 ≤ x) (k : K (x / 2)) : ∃ n, PureT P (do eqGuard .shr t a b (.int .u64 x) (.int .u64 1); binOp .shr t (.int .u64 x) (.int .u64 1)) w (.int .u64 n) ∧ K n := by
  refine ⟨x / 2, pure_of (v := .int .u64 (x / 2)) (fun w => ?_) rfl, k⟩
  have e1 : x.fdiv (2 ^ 1) = x / 2 := by rw [Int.fdiv_eq_ediv_of_nonneg _ (by omega)]; rfl
  have e3 : (binOp .shr t (.int .u64 x) (.int .u64 1)) = pure (.int .u64 (x.fdiv (2 ^ 1))) := rfl
  simp only [eqGuard, e3, e1]
  simp
theorem wrap_u64 {n : Int} (h0 : 0 ≤ n) (h1 : n ≤ 9223372036854775807) : IntKind.wrap .u64 n = n := by
  have e : (2 : Int) ^ IntKind.u64.bits = 18446744073709551616 := rfl
  unfold IntKind.wrap
  simp only [e]
  simp [IntKind.signed]
  omega
theorem c_cloneVs (hx : Read v x l) : Mk Tryz.prog 160 #[x.val] v fun r J => ∃ y, r = y.val ∧ Own v y l J := by
  refine of160 _ _ _ ?_
  unfold vc160
  have hS := St.refl v
  have hl := hx.le
  refine go_nil ⟨fun hc => ?_, fun _ => ?_⟩
  · have := hx.nil_of (Option.isNone_iff_eq_none.1 hc)
    subst this
    exact ⟨[], hS, _, rfl, Own.nil v⟩
  refine St.build (α := Int) hS (by (repeat' (first | exact VsOf.nil | apply VsOf.cons | (apply VOf.int; first | assumption | (constructor <;> first | omega | (simp only [List.length_set, List.length_append, List.length_replicate, List.length_cons, List.length_nil, List.length_take, List.length_drop, List.length_map, List.length_singleton] at *; omega))) | exact VOf.bool | exact VOf.str))) rfl (by decide) ?_
  intro x1 w1 I1 hO hS hs
  refine ⟨_, rfl, ?_⟩
  refine Own.append hO hS (hx.src hS.sub) (by simp; omega) (by decide) ?_
  intro x2 w2 I2 hO hS
  exact ⟨_, rfl, I2, by simpa using hS, _, rfl, by simpa using hO⟩
theorem c_isNaN : Fn Tryz.prog 162 #[.int .i64 n] v (.bool false) := by
  refine of162 _ _ _ ?_
  unfold vc162
  exact ⟨by simp, .refl v⟩
theorem c_cmpNaN : Fn Tryz.prog 165 #[.int .i64 n] v (.bool false) := by
  refine of165 _ _ _ ?_
  unfold vc165
  exact ⟨by simp, .refl v⟩
theorem c_less : Fn Tryz.prog 161 #[.int .i64 n, .int .i64 a] v (.bool (decide (n < a))) := by
  refine of161 _ _ _ _ ?_
  unfold vc161
  exact ⟨_, c_cmpNaN, false, fun hh => (by cases hh), by simp, .refl v⟩
theorem c_searchV (hx : Read v x l) (hl : l.length ≤ 1000000) : Trip Tryz.prog 158 #[x.val, .int .i64 n] v fun r w' => ∃ (i : Int) (q : Bool), r = .tuple #[.int .i64 i, .bool q] ∧ 0 ≤ i ∧ i ≤ l.length ∧ (q = true → n ∈ l) ∧ Sub v w' := by
  refine of158 _ _ _ _ ?_
  unfold vc158
  have hn := hx.n
  refine ⟨fun lo hi w => w = v ∧ 0 ≤ lo ∧ lo ≤ hi ∧ hi ≤ l.length, fun lo hi _ => (hi - lo).toNat, ⟨rfl, by omega, by omega, by omega⟩, ?_⟩
  rintro lo hi w ⟨rfl, h0, h1, h2⟩
  dsimp only
  refine ⟨fun hc => ?_, fun hc => ?_⟩
  · have hc := of_decide_eq_true hc
    refine go_wr (by omega) (by omega) ?_
    refine ⟨lo + hi, wrap_u64 (by omega) (by omega), ?_⟩
    refine go_shr1 (by omega) ?_
    refine go_wr (by omega) (by omega) ?_
    refine go_ix hx (by omega) (by omega) ?_
    refine ld_int hx (by omega) (by omega) ?_
    intro _ _
    refine ⟨_, c_less, fun _ => ?_, fun _ => ?_⟩
    · refine go_wr (by omega) (by omega) ?_
      exact ⟨⟨rfl, by omega, by omega, by omega⟩, by omega⟩
    · exact ⟨⟨rfl, by omega, by omega, by omega⟩, by omega⟩
  · have hc := of_decide_eq_false hc
    have hv : ∃ m : Int, lo < l.length → w.cell? ((elA x lo 1).add 0) = some (.int .i64 m) ∧ m = nth l lo := by
      by_cases hh : lo < l.length
      · exact ⟨nth l lo, fun _ => ⟨(hx.int h0 hh).1, rfl⟩⟩
      · exact ⟨0, fun h => absurd h hh⟩
    obtain ⟨m, hm⟩ := hv
    have hlt : ∀ {C : Prop}, (decide (lo < (x.n : Int)) = true → C) ↔ (lo < l.length → C) := fun {C} => by rw [decide_eq_true_iff, hn]
    refine ⟨hlt.2 fun h => hx.ix h0 h, m, hlt.2 fun h => (hm h).1, fun _ => hlt.2 fun h => hx.ix h0 h, m, fun _ => hlt.2 fun h => (hm h).1, false, fun _ _ => c_isNaN, false, fun hh => (by cases hh), lo, _, rfl, h0, by omega, fun hq => ?_, .refl w⟩
    simp at hq
    have h3 := hm (by omega)
    rw [← hq.2, h3.2]
    exact nth_mem h0 (by omega)
/-- a set of variables with one more -/
theorem c_vsWith (hx : Read v x l) (hn : InI n) (hl : l.length ≤ 1000000) : Trip Tryz.prog 155 #[x.val, .int .i64 n] v fun r w' =>
    (r = x.val ∧ n ∈ l ∧ Sub v w') ∨ ∃ (z : Sl) (l' : List Int) (J : Items), r = z.val ∧ Own v z l' J ∧ St v w' J ∧ (∀ q, q ∈ l' ↔ q ∈ l ∨ q = n) ∧ l'.length = l.length + 1 := by
  refine of155n _ _ _ _ ?_
  unfold vc155n
  refine (c_searchV hx hl).mono' ?_
  rintro _ w2 ⟨i, q, rfl, h0, h1, hq, hs⟩
  refine ⟨i, q, rfl, fun ht => .inl ⟨rfl, hq ht, hs⟩, fun _ => ?_⟩
  refine Mk.use (c_cloneVs hx) ((St.refl v).sub_w hs) ?_
  rintro _ w3 J ⟨y, rfl, hO⟩ hS hs3
  refine ⟨y, rfl, ?_⟩
  refine St.build (α := Int) (l := [n]) hS (.cons (.int hn) .nil) rfl (by decide) ?_
  intro y2 w4 K hO2 hS4 hs4
  refine ⟨y2, rfl, ?_⟩
  refine (c_insertV hO hO2 hS4 h0 h1 hl).mono' ?_
  rintro _ w5 ⟨z, I', rfl, hO3, hS5⟩
  refine ⟨z, rfl, .inr ⟨z, _, I', rfl, hO3, (by have := (hS5.to : St v w5 (I' ++ [])); simpa using this), fun q => ?_, ?_⟩⟩
  · rw [List.mem_append, List.mem_cons]
    conv => rhs; rw [← List.take_append_drop i.toNat l, List.mem_append]
    constructor
    · rintro (h | h | h)
      · exact .inl (.inl h)
      · exact .inr h
      · exact .inl (.inr h)
    · rintro ((h | h) | h)
      · exact .inl h
      · exact .inr (.inr h)
      · exact .inr (.inl h)
  · simp; omega
end
end Go.Vc

namespace Go.Vc
open Go Go.Proofs Go.RowKit
set_option linter.all false
/-- the arguments that are consumed, by their places -/
noncomputable def tkL (ss : List SigD) (vars : List Int) (op num : Int) (args : List Int) (n : Nat) : List Int := ((List.range n).filter fun (i : Nat) => pB (consAt ss vars op num args (i : Int))).map fun (i : Nat) => (i : Int)
/-- .. that are lent -/
def LnS (ss : List SigD) (vars : List Int) (op num : Int) (args : List Int) (n : Int) (l : List Int) : Prop := ∀ q : Int, q ∈ l ↔ ∃ i : Int, 0 ≤ i ∧ i < n ∧ nth vars (nth args i) ≠ 0 ∧ lentAtB ss op num i ∧ q = nth args i
section
variable {u v w v0 : World} {a : Addr} {arms : List ArmK} {lent vars args l : List Int} {σ σ' : BalS} {I R L : Items} {r t o m i c op num into : Int} {xx yy x y ax kx s zz z px lx sx : Sl} {B n : Nat} {ds : List DeclD} {rs : List RoutD} {ss : List SigD} {k : StepD}
theorem tkL_succ (h0 : 0 ≤ i) : tkL ss vars op num args (i + 1).toNat = tkL ss vars op num args i.toNat ++ (if pB (consAt ss vars op num args i) = true then [i] else []) := by
  have e : ((i.toNat : Nat) : Int) = i := by omega
  unfold tkL
  rw [show (i + 1).toNat = i.toNat + 1 from by omega, List.range_succ, List.filter_append, List.map_append]
  congr 1
  by_cases hc : pB (consAt ss vars op num args i) = true
  · rw [if_pos hc, List.filter_cons_of_pos]
    · simp only [List.filter_nil, List.map_cons, List.map_nil]; rw [e]
    · rw [e]; exact hc
  · rw [if_neg hc, List.filter_cons_of_neg]
    · rfl
    · rw [e]; exact hc
theorem tkL_len (n : Nat) : (tkL ss vars op num args n).length ≤ n := by
  unfold tkL
  rw [List.length_map]
  exact Nat.le_trans (List.length_filter_le _ _) (by rw [List.length_range]; exact Nat.le_refl _)
theorem tkL_nil (h : ¬ isCons op) (n : Nat) : tkL ss vars op num args n = [] := by
  unfold tkL
  rw [List.filter_eq_nil_iff.2]
  · rfl
  · intro a _
    rw [pB_f fun hh => h hh.1]
    simp
theorem c_isConsuming : Fn Tryz.prog 120 #[.int .i64 op] v (.bool ((((decide (op = 6)) || (decide (op = 9))) || (decide (op = 10))) || (decide (op = 11)))) := by
  refine of120 _ _ _ ?_
  unfold vc120
  exact ⟨rfl, .refl v⟩
theorem c_splitV (h : Sg v x s ds ss) (hz : Read v z vars) (ha : Read v ax args) (hin : argsIn vars args) (hnum : op = 9 → 0 ≤ num ∧ num < ss.length) (hal : args.length ≤ 1000) (hvl : vars.length ≤ 1000000) :
    Trip Tryz.prog 145 #[.agg #[x.val, s.val], z.val, .agg #[.int .i64 op, .int .i64 num, .int .i64 into, ax.val, kx.val]] v fun r w' => ∃ (z1 z2 : Sl) (l2 : List Int) (J1 J2 : Items), r = .tuple #[z1.val, z2.val] ∧
      OwnI z1 (tkL ss vars op num args args.length) J1 ∧ OwnI z2 l2 J2 ∧ St v w' (J1 ++ (J2 ++ [])) ∧ LnS ss vars op num args args.length l2 ∧ l2.length ≤ args.length := by
  refine of145 _ _ _ _ _ _ _ _ _ _ ?_
  unfold vc145
  have han := ha.n
  have hzn := hz.n
  have hn : OwnI (Sl.mk none 0 0) [] [] := fun u => Own.nil u
  refine ⟨_, c_isConsuming, fun hq => ?_, fun hq => ?_⟩
  · simp only [bls] at hq
    have hnc : ¬ isCons op := by unfold isCons; omega
    refine ⟨Sl.mk none 0 0, Sl.mk none 0 0, [], [], [], rfl, by rw [tkL_nil hnc]; exact hn, hn, St.refl v, fun q => ?_, by simp⟩
    constructor
    · intro hh; cases hh
    · rintro ⟨i, _, _, _, hl, _⟩
      exact absurd hl.1 (by omega)
  · simp only [bls] at hq
    have hco : isCons op := by unfold isCons; omega
    refine ⟨fun z1 z2 i w => ∃ (l2 : List Int) (J1 J2 : Items), OwnI z1 (tkL ss vars op num args i.toNat) J1 ∧ OwnI z2 l2 J2 ∧ St v w (J1 ++ (J2 ++ [])) ∧ LnS ss vars op num args i l2 ∧ l2.length ≤ i ∧ 0 ≤ i ∧ i ≤ args.length, fun _ _ i _ => (args.length - i).toNat,
      ⟨[], [], [], by unfold tkL; exact hn, hn, St.refl v, fun q => ⟨fun hh => (by cases hh), fun ⟨i, h0, h1, _⟩ => by omega⟩, by simp, by omega, by omega⟩, ?_⟩
    rintro z1 z2 i w ⟨l2, J1, J2, hO1, hO2, hS, hln, hl2, i0, i1⟩
    dsimp only
    have hw := hS.sub
    refine ⟨fun hc => ?_, fun hc => ?_⟩
    · simp only [bls] at hc
      have hil : i < args.length := by omega
      have hai := argsIn_nth hin i0 hil
      refine go_ix ha i0 hil ?_
      refine ld_int (ha.mono hw) i0 hil ?_
      intro c0 c1
      refine go_ix hz hai.1 hai.2 ?_
      refine ld_int (hz.mono hw) hai.1 hai.2 ?_
      intro _ _
      have skip : ∀ q : Int, (∃ i' : Int, 0 ≤ i' ∧ i' < i + 1 ∧ nth vars (nth args i') ≠ 0 ∧ lentAtB ss op num i' ∧ q = nth args i') ↔ ((∃ i' : Int, 0 ≤ i' ∧ i' < i ∧ nth vars (nth args i') ≠ 0 ∧ lentAtB ss op num i' ∧ q = nth args i') ∨ (nth vars (nth args i) ≠ 0 ∧ lentAtB ss op num i ∧ q = nth args i)) := by
        intro q
        constructor
        · rintro ⟨i', h0, h1, h2, h3, h4⟩
          by_cases e : i' = i
          · subst e; exact .inr ⟨h2, h3, h4⟩
          · exact .inl ⟨i', h0, by omega, h2, h3, h4⟩
        · rintro (⟨i', h0, h1, h2, h3, h4⟩ | ⟨h2, h3, h4⟩)
          · exact ⟨i', h0, by omega, h2, h3, h4⟩
          · exact ⟨i, i0, by omega, h2, h3, h4⟩
      refine ⟨fun hc2 => ?_, fun hc2 => ?_⟩
      · simp only [bls] at hc2
        refine go_wr (by omega) (by omega) ?_
        refine ⟨rfl, rfl, rfl, rfl, rfl, rfl, rfl, ⟨l2, J1, J2, ?_, hO2, hS, fun q => ?_, by omega, by omega, by omega⟩, by omega⟩
        · rw [tkL_succ i0, if_neg, List.append_nil]
          · exact hO1
          · rw [pB_f fun hh => hh.2.1 hc2]; simp
        · rw [hln q, skip q]
          constructor
          · exact .inl
          · rintro (hh | hh)
            · exact hh
            · exact absurd hc2 hh.1
      · simp only [bls] at hc2
        have mid : ∃ x13 : Sl, (op = 9 → w.cell? ((elA s num 3).add 1) = some x13.val ∧ Read w x13 (nth ss num).lent) := by
          by_cases ho : op = 9
          · obtain ⟨px', lx', e1, e2, e3, i1, r1, r2⟩ := (h.hs.src hw).ofSigD (hnum ho).1 (hnum ho).2
            exact ⟨lx', fun _ => ⟨e2, r2.mono hw⟩⟩
          · exact ⟨Sl.mk none 0 0, fun hh => absurd hh ho⟩
        obtain ⟨x13, h13⟩ := mid
        refine ⟨fun ho => h.hs.ix (hnum (of_decide_eq_true ho)).1 (hnum (of_decide_eq_true ho)).2, x13, fun ho => (h13 (of_decide_eq_true ho)).1, _, fun ho => c_contains (h13 (of_decide_eq_true ho)).2, fun hq2 => ?_, fun hq2 => ?_⟩
        · simp only [bls] at hq2
          have hl : lentAtB ss op num i := ⟨hq2.1, hq2.2⟩
          have hO2w := (hO2 v).read hS
          refine (c_vsWith hO2w ⟨c0, c1⟩ (by omega)).mono' ?_
          have hnc : ¬ (pB (consAt ss vars op num args i) = true) := by rw [pB_f fun hh => hh.2.2 hl]; simp
          rintro _ w2 (⟨rfl, hm, hs2⟩ | ⟨z3, l3, J3, rfl, hO3, hS3, hmem, hlen⟩)
          · refine ⟨z2, rfl, ?_⟩
            refine go_wr (by omega) (by omega) ?_
            refine ⟨rfl, rfl, rfl, rfl, rfl, rfl, rfl, ⟨l2, J1, J2, ?_, hO2, hS.sub_w hs2, fun q => ?_, by omega, by omega, by omega⟩, by omega⟩
            · rw [tkL_succ i0, if_neg hnc, List.append_nil]; exact hO1
            · rw [skip q, ← hln q]
              constructor
              · exact .inl
              · rintro (hh | hh)
                · exact hh
                · rw [hh.2.2]; exact hm
          · refine ⟨z3, rfl, ?_⟩
            refine go_wr (by omega) (by omega) ?_
            have hS4 := hS.join hS3
            refine ⟨rfl, rfl, rfl, rfl, rfl, rfl, rfl, ⟨l3, J1, J3, ?_, hO3.toI, hS4.to, fun q => ?_, by omega, by omega, by omega⟩, by omega⟩
            · rw [tkL_succ i0, if_neg hnc, List.append_nil]; exact hO1
            · rw [skip q, ← hln q, hmem q]
              constructor
              · rintro (hh | hh)
                · exact .inl hh
                · exact .inr ⟨hc2, hl, hh⟩
              · rintro (hh | hh)
                · exact .inl hh
                · exact .inr hh.2.2
        · have hl : ¬ lentAtB ss op num i := by
            rintro ⟨h1, h2⟩
            rw [h1] at hq2
            simp at hq2
            exact hq2 h2
          have hnc : pB (consAt ss vars op num args i) = true := pB_t ⟨hco, hc2, hl⟩
          have htl := tkL_len (ss := ss) (vars := vars) (op := op) (num := num) (args := args) i.toNat
          refine St.build (α := Int) (l := [i]) hS (.cons (.int ⟨by omega, by omega⟩) .nil) rfl (by decide) ?_
          intro y2 w4 K hO4 hS4 hs4
          refine ⟨_, rfl, ?_⟩
          refine (hO1 v).append hS4 (hO4.src hS4) (by simp; omega) (by decide) ?_
          intro z3 w5 J3 hO3 hS5
          refine ⟨_, rfl, ?_⟩
          refine go_wr (by omega) (by omega) ?_
          refine ⟨rfl, rfl, rfl, rfl, rfl, rfl, rfl, ⟨l2, J3, J2, ?_, hO2, hS5.to, fun q => ?_, by omega, by omega, by omega⟩, by omega⟩
          · rw [tkL_succ i0, if_pos hnc]; exact hO3.toI
          · rw [hln q, skip q]
            constructor
            · exact .inl
            · rintro (hh | hh)
              · exact hh
              · exact absurd hh.2.1 hl
    · simp only [bls] at hc
      have e : i = args.length := by omega
      subst e
      exact ⟨z1, z2, l2, J1, J2, rfl, hO1, hO2, hS, hln, by omega⟩
end
end Go.Vc
