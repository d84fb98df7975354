/- Part of the proofs about the heaps and memories: a law is joined in the text whose name ends in W and the law. -/
import Derived.Test.YtelgbndeeccblaaDoorEWC
import Derived.Test.YtelgbndeeccblaaDoorET5
import Derived.Deep.Slices
import Derived.Deep.Strs
import Derived.LaidMore
import Derived.Lib.LaidTab
namespace Go.Proofs.YtelgbndeeccblaaDoor
open Go.ChangeShapes Go.WideShapes Go.ChangeAt Go.RowKit Go.Vc
set_option linter.all false

section
variable {H : Type} {enc : TypeId × Value → H} {w : World} {sp : Nat → Bool} {hd : Bool}
theorem int_cells {n : Nat} {cs : List Value} {d : DataW H × List MemPlace} (h : DataW.trod enc Tryd.prog w 0 sp hd n 3 cs = some d) : ∃ a : Int, Dat.cells BM w cs a := by
  obtain ⟨a, rfl, _, hw⟩ := DataW.trod_int Tryd.underlying3 h
  have hb : -9223372036854775808 ≤ a ∧ a ≤ 9223372036854775807 := by simpa [Lit.wf, IntKind.min, IntKind.max, IntKind.signed, IntKind.bits] using hw
  exact ⟨a, rfl, hb⟩
theorem slice_readF {α : Type} [Dat α] {t e : TypeId} {fuel : Nat} {cs : List Value} {x : DataW H × List MemPlace} (ht : Tryd.prog.underlying t = some (.slice e)) (hc : Tryd.prog.cellsOf e = Dat.sz α)
    (el : ∀ (n : Nat), n < fuel → ∀ (cs : List Value) (d : DataW H × List MemPlace), DataW.trod enc Tryd.prog w 0 sp hd n e cs = some d → ∃ a : α, Dat.cells BM w cs a) (h : DataW.trod enc Tryd.prog w 0 sp hd fuel t cs = some x) :
    ∃ (y : Sl) (l : List α), cs = [y.val] ∧ ReadB BM w y l := by
  rcases DataW.trod_slice ht h with ⟨rfl, _⟩ | ⟨a, len, cap, elems, rest, n, hn, rfl, _, _, hl, hm, hlen, hel, _⟩
  · exact ⟨⟨none, 0, 0⟩, [], rfl, ReadB.nil⟩
  have each : ∀ i : Fin len, ∃ p : List Value × α, Dat.cells BM w p.1 p.2 ∧ ∀ (j : Nat) (u : Value), p.1[j]? = some u → w.cell? ((elA ⟨some a, len, cap⟩ ((i.val : Nat) : Int) (Dat.sz α)).add j) = some u := by
    rintro ⟨i, hi⟩
    have key := hel i hi
    rw [List.getElem?_eq_getElem (by omega)] at key
    obtain ⟨cs', h1, h2⟩ := Option.bind_eq_some_iff.1 key
    obtain ⟨b, hb⟩ := el n (by omega) _ _ h2
    obtain ⟨_, hlen, hcell⟩ := World.cells?_some h1
    refine ⟨(cs', b), hb, fun j u hu => ?_⟩
    have hj : j < cs'.length := (List.getElem?_eq_some_iff.1 hu).1
    have := hcell j (by omega)
    rw [hc] at this
    simp only [elA, Option.getD_some, Int.toNat_natCast]
    rw [this]; exact hu
  obtain ⟨f, hf⟩ := Classical.axiomOfChoice each
  refine ⟨⟨some a, len, cap⟩, List.ofFn fun i => (f i).2, rfl, List.ofFn fun i => (f i).1, ⟨by simp, hl, fun i r hr => ⟨rfl, fun j u hu => ?_⟩⟩, ⟨by simp, fun i r b hr hb => ?_⟩, ?_⟩
  · rw [List.getElem?_ofFn] at hr
    split at hr
    · rename_i hi
      simp only [Option.some.injEq] at hr
      subst hr
      exact (hf ⟨i, hi⟩).2 j u hu
    · cases hr
  · rw [List.getElem?_ofFn] at hr hb
    split at hr
    · rename_i hi
      rw [dif_pos hi] at hb
      simp only [Option.some.injEq] at hr hb
      subst hr
      subst hb
      exact (hf ⟨i, hi⟩).1
    · cases hr
  · have : maxLen = 9223372036854775807 := rfl
    show (List.ofFn _).length ≤ 9223372036854775807
    simp; omega
theorem trod_fieldsF {t : TypeId} {fs : Array Field} {fuel : Nat} {cs : List Value} {x : DataW H × List MemPlace} (ht : Tryd.prog.underlying t = some (.struct fs)) (h : DataW.trod enc Tryd.prog w 0 sp hd fuel t cs = some x) :
    ∃ n, fuel = n + 1 ∧ cs.length = Tryd.prog.cellsOf t ∧ ∀ (i : Nat) (f : Field), fs[i]? = some f → ∃ y, DataW.trod enc Tryd.prog w 0 sp hd n f.type ((cs.drop f.offset).take (Tryd.prog.cellsOf f.type)) = some y := by
  obtain ⟨xs, n, hn, rfl, hl, hlen, hf⟩ := DataW.trod_struct ht h
  refine ⟨n, hn, hl, fun i f hi => ?_⟩
  have hlt : i < xs.length := by
    rw [hlen]
    exact (Array.getElem?_eq_some_iff.1 hi).1
  exact ⟨xs[i], by rw [hf i f hi, List.getElem?_eq_getElem hlt]⟩
set_option maxRecDepth 100000 in
theorem expr_ok : ∀ (n : Nat) (cs : List Value) (d : DataW H × List MemPlace), DataW.trod enc Tryd.prog w 0 sp hd n 24 cs = some d → ∃ a : ExprD, Dat.cells BM w cs a := by
  intro n
  induction n using Nat.strongRecOn with
  | _ n ih =>
    intro cs d h
    obtain ⟨k, hk, hl, hf⟩ := trod_fieldsF Tryd.underlying24 h
    rw [show Tryd.prog.cellsOf 24 = 3 from by kernel_rfl] at hl
    obtain ⟨y0, h0⟩ := hf 0 _ rfl
    change DataW.trod enc Tryd.prog w 0 sp hd k 3 (List.take (Tryd.prog.cellsOf 3) (List.drop 0 cs)) = some y0 at h0
    rw [show Tryd.prog.cellsOf 3 = 1 from by kernel_rfl] at h0
    obtain ⟨y1, h1⟩ := hf 1 _ rfl
    change DataW.trod enc Tryd.prog w 0 sp hd k 3 (List.take (Tryd.prog.cellsOf 3) (List.drop 1 cs)) = some y1 at h1
    rw [show Tryd.prog.cellsOf 3 = 1 from by kernel_rfl] at h1
    obtain ⟨y2, h2⟩ := hf 2 _ rfl
    change DataW.trod enc Tryd.prog w 0 sp hd k 22 (List.take (Tryd.prog.cellsOf 22) (List.drop 2 cs)) = some y2 at h2
    rw [show Tryd.prog.cellsOf 22 = 1 from by kernel_rfl] at h2
    match cs, hl with
    | [c0, c1, c2], _ =>
      simp only [List.drop, List.take] at h0 h1 h2
      obtain ⟨a0, e0, g0⟩ := int_cells h0
      obtain ⟨a1, e1, g1⟩ := int_cells h1
      obtain ⟨f2, a2, e2, g2⟩ := slice_readF (α := ExprD) Tryd.underlying22 (by kernel_rfl) (fun m hm cs d h => ih m (by omega) cs d h) h2
      refine ⟨⟨a0, a1, a2⟩, expr_cells.2 ⟨f2, ?_, g0, g1, g2⟩⟩
      simp only [List.cons.injEq, and_true] at e0 e1 e2
      rw [e0, e1, e2]
      rfl
set_option maxRecDepth 100000 in
theorem ex_read {base : Nat} {v : Value} {d : DataW H} {ps : List MemPlace} (hv : Value.okWide Tryd.prog w .any base 24 v) (h : DataW.Trod enc Tryd.prog w 0 sp hd 24 v d ps) : ∃ (e : ExprD) (x : Sl), v = .agg #[.int .i64 e.op, .int .i64 e.num, x.val] ∧ InI e.op ∧ InI e.num ∧ ReadB BM w x e.kids := by
  obtain ⟨cs, rfl, _⟩ := okWide_struct Tryd.underlying24 hv
  obtain ⟨fuel, h⟩ := h
  have hcs : (Value.agg cs).cells.toList = cs.toList := by simp [Value.cells]
  rw [hcs] at h
  obtain ⟨e, he⟩ := expr_ok fuel _ _ h
  obtain ⟨f, h0, h1, h2, h3⟩ := expr_cells.1 he
  refine ⟨e, f, ?_, h1, h2, h3⟩
  congr 1
  exact Array.ext' (by rw [h0]; rfl)
end
end Go.Proofs.YtelgbndeeccblaaDoor
