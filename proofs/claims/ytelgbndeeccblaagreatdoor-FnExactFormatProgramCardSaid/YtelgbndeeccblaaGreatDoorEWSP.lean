/- Part of the proofs about the heaps and memories: a law is joined in the text whose name ends in W and the law. -/
import Derived.Test.YtelgbndeeccblaaGreatDoorEWC
import Derived.Test.YtelgbndeeccblaaGreatDoorEP6
import Derived.Deep.Slices
import Derived.Deep.Strs
import Derived.LaidMore
import Derived.Lib.LaidTab
namespace Go.Proofs.YtelgbndeeccblaaGreatDoor
open Go.ChangeShapes Go.WideShapes Go.ChangeAt Go.RowKit Go.Vc
set_option linter.all false

section
variable {H : Type} {enc : TypeId × Value → H} {w : World} {sp : Nat → Bool} {hd : Bool}

theorem slice_read {α : Type} [Dat α] {t e : TypeId} {fuel : Nat} {cs : List Value} {x : DataW H × List MemPlace} (ht : Tryz.prog.underlying t = some (.slice e)) (hc : Tryz.prog.cellsOf e = Dat.sz α)
    (el : ∀ (n : Nat) (cs : List Value) (d : DataW H × List MemPlace), DataW.trod enc Tryz.prog w 0 sp hd n e cs = some d → ∃ a : α, Dat.cells BM w cs a) (h : DataW.trod enc Tryz.prog w 0 sp hd fuel t cs = some x) :
    ∃ (y : Sl) (l : List α), cs = [y.val] ∧ ReadB BM w y l := by
  rcases Go.Deep.open_slice ht h with ⟨rfl, _⟩ | ⟨a, len, cap, m, n, D, Pl, rfl, _, hl, hm, hmm, _, hel⟩
  · exact ⟨⟨none, 0, 0⟩, [], rfl, ReadB.nil⟩
  have hlm : len ≤ m := by rw [hmm]; split <;> omega
  have each : ∀ i : Fin len, ∃ p : List Value × α, Dat.cells BM w p.1 p.2 ∧ ∀ (j : Nat) (u : Value), p.1[j]? = some u → w.cell? ((elA ⟨some a, len, cap⟩ ((i.val : Nat) : Int) (Dat.sz α)).add j) = some u := by
    rintro ⟨i, hi⟩
    obtain ⟨cs', h1, h2⟩ := hel i (by omega)
    obtain ⟨b, hb⟩ := el _ _ _ h2
    obtain ⟨_, hlen, hcell⟩ := World.cells?_some h1
    refine ⟨(cs', b), hb, fun j u hu => ?_⟩
    have hj : j < cs'.length := (List.getElem?_eq_some_iff.1 hu).1
    have := hcell j (by omega)
    rw [hc] at this
    simp only [elA, Option.getD_some, Int.toNat_natCast]
    rw [this]; exact hu
  obtain ⟨f, hf⟩ := Classical.axiomOfChoice each
  refine ⟨⟨some a, len, cap⟩, List.ofFn fun i => (f i).2, rfl, List.ofFn fun i => (f i).1, ⟨by simp, hl, fun i r hr => ⟨rfl, fun j u hu => ?_⟩⟩, ⟨by simp, fun i r b hr hb => ?_⟩, ?_⟩
  · rw [List.getElem?_ofFn] at hr
    split at hr
    · rename_i hi
      simp only [Option.some.injEq] at hr
      subst hr
      exact (hf ⟨i, hi⟩).2 j u hu
    · cases hr
  · rw [List.getElem?_ofFn] at hr hb
    split at hr
    · rename_i hi
      rw [dif_pos hi] at hb
      simp only [Option.some.injEq] at hr hb
      subst hr
      subst hb
      exact (hf ⟨i, hi⟩).1
    · cases hr
  · have : maxLen = 9223372036854775807 := rfl
    show (List.ofFn _).length ≤ 9223372036854775807
    simp; omega

theorem int_cells {n : Nat} {cs : List Value} {d : DataW H × List MemPlace} (h : DataW.trod enc Tryz.prog w 0 sp hd n 3 cs = some d) : ∃ a : Int, Dat.cells BM w cs a := by
  obtain ⟨a, rfl, _, hw⟩ := DataW.trod_int Tryz.underlying3 h
  have hb : -9223372036854775808 ≤ a ∧ a ≤ 9223372036854775807 := by simpa [Lit.wf, IntKind.min, IntKind.max, IntKind.signed, IntKind.bits] using hw
  exact ⟨a, rfl, hb⟩
theorem ints_read {fuel : Nat} {cs : List Value} {x : DataW H × List MemPlace} (h : DataW.trod enc Tryz.prog w 0 sp hd fuel 68 cs = some x) : ∃ (y : Sl) (l : List Int), cs = [y.val] ∧ ReadB BM w y l :=
  slice_read (α := Int) Tryz.underlying68 (by kernel_rfl) (fun _ _ _ h => int_cells h) h
theorem trod_fields {t : TypeId} {fs : Array Field} {fuel : Nat} {cs : List Value} {x : DataW H × List MemPlace} (ht : Tryz.prog.underlying t = some (.struct fs)) (h : DataW.trod enc Tryz.prog w 0 sp hd fuel t cs = some x) :
    ∃ n, cs.length = Tryz.prog.cellsOf t ∧ ∀ (i : Nat) (f : Field), fs[i]? = some f → ∃ y, DataW.trod enc Tryz.prog w 0 sp hd n f.type ((cs.drop f.offset).take (Tryz.prog.cellsOf f.type)) = some y := by
  obtain ⟨xs, n, _, rfl, hl, hlen, hf⟩ := DataW.trod_struct ht h
  refine ⟨n, hl, fun i f hi => ?_⟩
  have hlt : i < xs.length := by
    rw [hlen]
    exact (Array.getElem?_eq_some_iff.1 hi).1
  exact ⟨xs[i], by rw [hf i f hi, List.getElem?_eq_getElem hlt]⟩
set_option maxRecDepth 100000 in
theorem con_cells {n : Nat} {cs : List Value} {d : DataW H × List MemPlace} (h : DataW.trod enc Tryz.prog w 0 sp hd n 193 cs = some d) : ∃ a : ConD, Dat.cells BM w cs a := by
  obtain ⟨k, hl, hf⟩ := trod_fields Tryz.underlying193 h
  rw [show Tryz.prog.cellsOf 193 = 1 from by kernel_rfl] at hl
  obtain ⟨y0, h0⟩ := hf 0 _ rfl
  change DataW.trod enc Tryz.prog w 0 sp hd k 68 (List.take (Tryz.prog.cellsOf 68) (List.drop 0 cs)) = some y0 at h0
  rw [show Tryz.prog.cellsOf 68 = 1 from by kernel_rfl] at h0
  match cs, hl with
  | [c0], _ =>
    simp only [List.drop, List.take] at h0
    obtain ⟨f0, a0, e0, g0⟩ := ints_read h0
    refine ⟨⟨a0⟩, f0, ?_, g0⟩
    simp only [List.cons.injEq, and_true] at e0
    rw [e0]
theorem cons_read {fuel : Nat} {cs : List Value} {x : DataW H × List MemPlace} (h : DataW.trod enc Tryz.prog w 0 sp hd fuel 107 cs = some x) : ∃ (y : Sl) (l : List ConD), cs = [y.val] ∧ ReadB BM w y l :=
  slice_read (α := ConD) Tryz.underlying107 (by kernel_rfl) (fun _ _ _ h => con_cells h) h
set_option maxRecDepth 100000 in
theorem decl_cells {n : Nat} {cs : List Value} {d : DataW H × List MemPlace} (h : DataW.trod enc Tryz.prog w 0 sp hd n 109 cs = some d) : ∃ a : DeclD, Dat.cells BM w cs a := by
  obtain ⟨k, hl, hf⟩ := trod_fields Tryz.underlying109 h
  rw [show Tryz.prog.cellsOf 109 = 3 from by kernel_rfl] at hl
  obtain ⟨y0, h0⟩ := hf 0 _ rfl
  change DataW.trod enc Tryz.prog w 0 sp hd k 3 (List.take (Tryz.prog.cellsOf 3) (List.drop 0 cs)) = some y0 at h0
  rw [show Tryz.prog.cellsOf 3 = 1 from by kernel_rfl] at h0
  obtain ⟨y1, h1⟩ := hf 1 _ rfl
  change DataW.trod enc Tryz.prog w 0 sp hd k 3 (List.take (Tryz.prog.cellsOf 3) (List.drop 1 cs)) = some y1 at h1
  rw [show Tryz.prog.cellsOf 3 = 1 from by kernel_rfl] at h1
  obtain ⟨y2, h2⟩ := hf 2 _ rfl
  change DataW.trod enc Tryz.prog w 0 sp hd k 107 (List.take (Tryz.prog.cellsOf 107) (List.drop 2 cs)) = some y2 at h2
  rw [show Tryz.prog.cellsOf 107 = 1 from by kernel_rfl] at h2
  match cs, hl with
  | [c0, c1, c2], _ =>
    simp only [List.drop, List.take] at h0 h1 h2
    obtain ⟨a0, e0, g0⟩ := int_cells h0
    obtain ⟨a1, e1, g1⟩ := int_cells h1
    obtain ⟨f2, a2, e2, g2⟩ := cons_read h2
    refine ⟨⟨a0, a1, a2⟩, f2, ?_, g0, g1, g2⟩
    simp only [List.cons.injEq, and_true] at e0 e1 e2
    rw [e0, e1, e2]
theorem decls_read {fuel : Nat} {cs : List Value} {x : DataW H × List MemPlace} (h : DataW.trod enc Tryz.prog w 0 sp hd fuel 22 cs = some x) : ∃ (y : Sl) (l : List DeclD), cs = [y.val] ∧ ReadB BM w y l :=
  slice_read (α := DeclD) Tryz.underlying22 (by kernel_rfl) (fun _ _ _ h => decl_cells h) h
theorem slice_readF {α : Type} [Dat α] {t e : TypeId} {fuel : Nat} {cs : List Value} {x : DataW H × List MemPlace} (ht : Tryz.prog.underlying t = some (.slice e)) (hc : Tryz.prog.cellsOf e = Dat.sz α)
    (el : ∀ (n : Nat), n < fuel → ∀ (cs : List Value) (d : DataW H × List MemPlace), DataW.trod enc Tryz.prog w 0 sp hd n e cs = some d → ∃ a : α, Dat.cells BM w cs a) (h : DataW.trod enc Tryz.prog w 0 sp hd fuel t cs = some x) :
    ∃ (y : Sl) (l : List α), cs = [y.val] ∧ ReadB BM w y l := by
  rcases DataW.trod_slice ht h with ⟨rfl, _⟩ | ⟨a, len, cap, elems, rest, n, hn, rfl, _, _, hl, hm, hlen, hel, _⟩
  · exact ⟨⟨none, 0, 0⟩, [], rfl, ReadB.nil⟩
  have each : ∀ i : Fin len, ∃ p : List Value × α, Dat.cells BM w p.1 p.2 ∧ ∀ (j : Nat) (u : Value), p.1[j]? = some u → w.cell? ((elA ⟨some a, len, cap⟩ ((i.val : Nat) : Int) (Dat.sz α)).add j) = some u := by
    rintro ⟨i, hi⟩
    have key := hel i hi
    rw [List.getElem?_eq_getElem (by omega)] at key
    obtain ⟨cs', h1, h2⟩ := Option.bind_eq_some_iff.1 key
    obtain ⟨b, hb⟩ := el n (by omega) _ _ h2
    obtain ⟨_, hlen, hcell⟩ := World.cells?_some h1
    refine ⟨(cs', b), hb, fun j u hu => ?_⟩
    have hj : j < cs'.length := (List.getElem?_eq_some_iff.1 hu).1
    have := hcell j (by omega)
    rw [hc] at this
    simp only [elA, Option.getD_some, Int.toNat_natCast]
    rw [this]; exact hu
  obtain ⟨f, hf⟩ := Classical.axiomOfChoice each
  refine ⟨⟨some a, len, cap⟩, List.ofFn fun i => (f i).2, rfl, List.ofFn fun i => (f i).1, ⟨by simp, hl, fun i r hr => ⟨rfl, fun j u hu => ?_⟩⟩, ⟨by simp, fun i r b hr hb => ?_⟩, ?_⟩
  · rw [List.getElem?_ofFn] at hr
    split at hr
    · rename_i hi
      simp only [Option.some.injEq] at hr
      subst hr
      exact (hf ⟨i, hi⟩).2 j u hu
    · cases hr
  · rw [List.getElem?_ofFn] at hr hb
    split at hr
    · rename_i hi
      rw [dif_pos hi] at hb
      simp only [Option.some.injEq] at hr hb
      subst hr
      subst hb
      exact (hf ⟨i, hi⟩).1
    · cases hr
  · have : maxLen = 9223372036854775807 := rfl
    show (List.ofFn _).length ≤ 9223372036854775807
    simp; omega
theorem trod_fieldsF {t : TypeId} {fs : Array Field} {fuel : Nat} {cs : List Value} {x : DataW H × List MemPlace} (ht : Tryz.prog.underlying t = some (.struct fs)) (h : DataW.trod enc Tryz.prog w 0 sp hd fuel t cs = some x) :
    ∃ n, fuel = n + 1 ∧ cs.length = Tryz.prog.cellsOf t ∧ ∀ (i : Nat) (f : Field), fs[i]? = some f → ∃ y, DataW.trod enc Tryz.prog w 0 sp hd n f.type ((cs.drop f.offset).take (Tryz.prog.cellsOf f.type)) = some y := by
  obtain ⟨xs, n, hn, rfl, hl, hlen, hf⟩ := DataW.trod_struct ht h
  refine ⟨n, hn, hl, fun i f hi => ?_⟩
  have hlt : i < xs.length := by
    rw [hlen]
    exact (Array.getElem?_eq_some_iff.1 hi).1
  exact ⟨xs[i], by rw [hf i f hi, List.getElem?_eq_getElem hlt]⟩
set_option maxRecDepth 100000 in
theorem expr_ok : ∀ (n : Nat) (cs : List Value) (d : DataW H × List MemPlace), DataW.trod enc Tryz.prog w 0 sp hd n 113 cs = some d → ∃ a : ExprD, Dat.cells BM w cs a := by
  intro n
  induction n using Nat.strongRecOn with
  | _ n ih =>
    intro cs d h
    obtain ⟨k, hk, hl, hf⟩ := trod_fieldsF Tryz.underlying113 h
    rw [show Tryz.prog.cellsOf 113 = 3 from by kernel_rfl] at hl
    obtain ⟨y0, h0⟩ := hf 0 _ rfl
    change DataW.trod enc Tryz.prog w 0 sp hd k 3 (List.take (Tryz.prog.cellsOf 3) (List.drop 0 cs)) = some y0 at h0
    rw [show Tryz.prog.cellsOf 3 = 1 from by kernel_rfl] at h0
    obtain ⟨y1, h1⟩ := hf 1 _ rfl
    change DataW.trod enc Tryz.prog w 0 sp hd k 3 (List.take (Tryz.prog.cellsOf 3) (List.drop 1 cs)) = some y1 at h1
    rw [show Tryz.prog.cellsOf 3 = 1 from by kernel_rfl] at h1
    obtain ⟨y2, h2⟩ := hf 2 _ rfl
    change DataW.trod enc Tryz.prog w 0 sp hd k 111 (List.take (Tryz.prog.cellsOf 111) (List.drop 2 cs)) = some y2 at h2
    rw [show Tryz.prog.cellsOf 111 = 1 from by kernel_rfl] at h2
    match cs, hl with
    | [c0, c1, c2], _ =>
      simp only [List.drop, List.take] at h0 h1 h2
      obtain ⟨a0, e0, g0⟩ := int_cells h0
      obtain ⟨a1, e1, g1⟩ := int_cells h1
      obtain ⟨f2, a2, e2, g2⟩ := slice_readF (α := ExprD) Tryz.underlying111 (by kernel_rfl) (fun m hm cs d h => ih m (by omega) cs d h) h2
      refine ⟨⟨a0, a1, a2⟩, expr_cells.2 ⟨f2, ?_, g0, g1, g2⟩⟩
      simp only [List.cons.injEq, and_true] at e0 e1 e2
      rw [e0, e1, e2]
      rfl
set_option maxRecDepth 100000 in
theorem func_cells {n : Nat} {cs : List Value} {d : DataW H × List MemPlace} (h : DataW.trod enc Tryz.prog w 0 sp hd n 115 cs = some d) : ∃ a : FunD, Dat.cells BM w cs a := by
  obtain ⟨k, hl, hf⟩ := trod_fields Tryz.underlying115 h
  rw [show Tryz.prog.cellsOf 115 = 5 from by kernel_rfl] at hl
  obtain ⟨y0, h0⟩ := hf 0 _ rfl
  change DataW.trod enc Tryz.prog w 0 sp hd k 68 (List.take (Tryz.prog.cellsOf 68) (List.drop 0 cs)) = some y0 at h0
  rw [show Tryz.prog.cellsOf 68 = 1 from by kernel_rfl] at h0
  obtain ⟨y1, h1⟩ := hf 1 _ rfl
  change DataW.trod enc Tryz.prog w 0 sp hd k 3 (List.take (Tryz.prog.cellsOf 3) (List.drop 1 cs)) = some y1 at h1
  rw [show Tryz.prog.cellsOf 3 = 1 from by kernel_rfl] at h1
  obtain ⟨y2, h2⟩ := hf 2 _ rfl
  change DataW.trod enc Tryz.prog w 0 sp hd k 113 (List.take (Tryz.prog.cellsOf 113) (List.drop 2 cs)) = some y2 at h2
  rw [show Tryz.prog.cellsOf 113 = 3 from by kernel_rfl] at h2
  match cs, hl with
  | [c0, c1, c2, c3, c4], _ =>
    simp only [List.drop, List.take] at h0 h1 h2
    obtain ⟨f0, a0, e0, g0⟩ := ints_read h0
    obtain ⟨a1, e1, g1⟩ := int_cells h1
    obtain ⟨b, hb⟩ := expr_ok _ _ _ h2
    obtain ⟨f2, e2, i2, i3, r2⟩ := expr_cells.1 hb
    refine ⟨⟨a0, a1, b⟩, f0, f2, ?_, g1, i2, i3, g0, r2⟩
    simp only [List.cons.injEq, and_true] at e0 e1 e2
    rw [e0, e1, e2.1, e2.2.1, e2.2.2]
theorem funcs_read {fuel : Nat} {cs : List Value} {x : DataW H × List MemPlace} (h : DataW.trod enc Tryz.prog w 0 sp hd fuel 23 cs = some x) : ∃ (y : Sl) (l : List FunD), cs = [y.val] ∧ ReadB BM w y l :=
  slice_read (α := FunD) Tryz.underlying23 (by kernel_rfl) (fun _ _ _ h => func_cells h) h
set_option maxRecDepth 100000 in
theorem pr_read {base : Nat} {v : Value} {d : DataW H} {ps : List MemPlace} (hv : Value.okWide Tryz.prog w .any base 25 v) (h : DataW.Trod enc Tryz.prog w 0 sp hd 25 v d ps) : ∃ (x y : Sl) (l : List DeclD) (m : List FunD), v = .agg #[x.val, y.val] ∧ ReadB BM w x l ∧ ReadB BM w y m := by
  obtain ⟨cs, rfl, _⟩ := okWide_struct Tryz.underlying25 hv
  obtain ⟨fuel, h⟩ := h
  obtain ⟨y0, y1, k, _, hl, h0, h1⟩ := trod_struct2 Tryz.underlying25 h
  rw [show Tryz.prog.cellsOf 25 = 2 from by kernel_rfl] at hl
  rw [show Tryz.prog.cellsOf 22 = 1 from by kernel_rfl] at h0
  rw [show Tryz.prog.cellsOf 23 = 1 from by kernel_rfl] at h1
  have hcs : (Value.agg cs).cells.toList = cs.toList := by simp [Value.cells]
  rw [hcs] at hl h0 h1
  have : ∃ c0 c1, cs.toList = [c0, c1] := by
    match h : cs.toList, hl with
    | [c0, c1], _ => exact ⟨c0, c1, rfl⟩
  obtain ⟨c0, c1, e⟩ := this
  rw [e] at h0 h1
  simp only [List.drop, List.take] at h0 h1
  obtain ⟨x, l, e0, hx⟩ := decls_read h0
  obtain ⟨y, m, e1, hy⟩ := funcs_read h1
  refine ⟨x, y, l, m, ?_, hx, hy⟩
  simp only [List.cons.injEq, and_true] at e0 e1
  rw [e0, e1] at e
  congr 1
  exact Array.ext' (by simpa using e)
end
end Go.Proofs.YtelgbndeeccblaaGreatDoor
