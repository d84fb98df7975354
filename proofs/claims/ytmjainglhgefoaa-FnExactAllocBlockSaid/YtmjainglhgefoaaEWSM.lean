/- Part of the proofs about the heaps and memories: a law is joined in the text whose name ends in W and the law. -/
import Derived.Test.YtmjainglhgefoaaEWC
import Derived.Test.YtmjainglhgefoaaEK6
import Derived.Deep.Slices
import Derived.Deep.Strs
namespace Go.Proofs.Ytmjainglhgefoaa
open Go.ChangeShapes Go.WideShapes Go.ChangeAt Go.RowKit Go.Vc
set_option linter.all false

section
variable {H : Type} {enc : TypeId × Value → H} {w : World} {sp : Nat → Bool} {hd : Bool}

theorem slice_read {α : Type} [Dat α] {t e : TypeId} {fuel : Nat} {cs : List Value} {x : DataW H × List MemPlace} (ht : Try.prog.underlying t = some (.slice e)) (hc : Try.prog.cellsOf e = Dat.sz α)
    (el : ∀ (n : Nat) (cs : List Value) (d : DataW H × List MemPlace), DataW.trod enc Try.prog w 0 sp hd n e cs = some d → ∃ a : α, Dat.cells BM w cs a) (h : DataW.trod enc Try.prog w 0 sp hd fuel t cs = some x) :
    ∃ (y : Sl) (l : List α), cs = [y.val] ∧ ReadB BM w y l := by
  rcases Go.Deep.open_slice ht h with ⟨rfl, _⟩ | ⟨a, len, cap, m, n, D, Pl, rfl, _, hl, hm, hmm, _, hel⟩
  · exact ⟨⟨none, 0, 0⟩, [], rfl, ReadB.nil⟩
  have hlm : len ≤ m := by rw [hmm]; split <;> omega
  have each : ∀ i : Fin len, ∃ p : List Value × α, Dat.cells BM w p.1 p.2 ∧ ∀ (j : Nat) (u : Value), p.1[j]? = some u → w.cell? ((elA ⟨some a, len, cap⟩ ((i.val : Nat) : Int) (Dat.sz α)).add j) = some u := by
    rintro ⟨i, hi⟩
    obtain ⟨cs', h1, h2⟩ := hel i (by omega)
    obtain ⟨b, hb⟩ := el _ _ _ h2
    obtain ⟨_, hlen, hcell⟩ := World.cells?_some h1
    refine ⟨(cs', b), hb, fun j u hu => ?_⟩
    have hj : j < cs'.length := (List.getElem?_eq_some_iff.1 hu).1
    have := hcell j (by omega)
    rw [hc] at this
    simp only [elA, Option.getD_some, Int.toNat_natCast]
    rw [this]; exact hu
  obtain ⟨f, hf⟩ := Classical.axiomOfChoice each
  refine ⟨⟨some a, len, cap⟩, List.ofFn fun i => (f i).2, rfl, List.ofFn fun i => (f i).1, ⟨by simp, hl, fun i r hr => ⟨rfl, fun j u hu => ?_⟩⟩, ⟨by simp, fun i r b hr hb => ?_⟩, ?_⟩
  · rw [List.getElem?_ofFn] at hr
    split at hr
    · rename_i hi
      simp only [Option.some.injEq] at hr
      subst hr
      exact (hf ⟨i, hi⟩).2 j u hu
    · cases hr
  · rw [List.getElem?_ofFn] at hr hb
    split at hr
    · rename_i hi
      rw [dif_pos hi] at hb
      simp only [Option.some.injEq] at hr hb
      subst hr
      subst hb
      exact (hf ⟨i, hi⟩).1
    · cases hr
  · have : maxLen = 9223372036854775807 := rfl
    show (List.ofFn _).length ≤ 9223372036854775807
    simp; omega

theorem int_cells {n : Nat} {cs : List Value} {d : DataW H × List MemPlace} (h : DataW.trod enc Try.prog w 0 sp hd n 3 cs = some d) : ∃ a : Int, Dat.cells BM w cs a := by
  obtain ⟨a, rfl, _, hw⟩ := DataW.trod_int Try.underlying3 h
  have hb : -9223372036854775808 ≤ a ∧ a ≤ 9223372036854775807 := by simpa [Lit.wf, IntKind.min, IntKind.max, IntKind.signed, IntKind.bits] using hw
  exact ⟨a, rfl, hb⟩
theorem ints_read {fuel : Nat} {cs : List Value} {x : DataW H × List MemPlace} (h : DataW.trod enc Try.prog w 0 sp hd fuel 24 cs = some x) : ∃ (y : Sl) (l : List Int), cs = [y.val] ∧ ReadB BM w y l :=
  slice_read (α := Int) Try.underlying24 (by kernel_rfl) (fun _ _ _ h => int_cells h) h
set_option maxRecDepth 100000 in
theorem mem_read {base : Nat} {v : Value} {d : DataW H} {ps : List MemPlace} (hv : Value.okWide Try.prog w .any base 46 v) (h : DataW.Trod enc Try.prog w 0 sp hd 46 v d ps) : ∃ (x y : Sl) (z : MemD), v = .agg #[x.val, y.val] ∧ ReadB BM w x z.words ∧ ReadB BM w y z.free := by
  obtain ⟨cs, rfl, _⟩ := okWide_struct Try.underlying46 hv
  obtain ⟨fuel, h⟩ := h
  obtain ⟨y0, y1, k, _, hl, h0, h1⟩ := trod_struct2 Try.underlying46 h
  rw [show Try.prog.cellsOf 46 = 2 from by kernel_rfl] at hl
  rw [show Try.prog.cellsOf 24 = 1 from by kernel_rfl] at h0
  rw [show Try.prog.cellsOf 24 = 1 from by kernel_rfl] at h1
  have hcs : (Value.agg cs).cells.toList = cs.toList := by simp [Value.cells]
  rw [hcs] at hl h0 h1
  have : ∃ c0 c1, cs.toList = [c0, c1] := by
    match h : cs.toList, hl with
    | [c0, c1], _ => exact ⟨c0, c1, rfl⟩
  obtain ⟨c0, c1, e⟩ := this
  rw [e] at h0 h1
  simp only [List.drop, List.take] at h0 h1
  obtain ⟨x, l, e0, hx⟩ := ints_read h0
  obtain ⟨y, m, e1, hy⟩ := ints_read h1
  refine ⟨x, y, ⟨l, m⟩, ?_, hx, hy⟩
  simp only [List.cons.injEq, and_true] at e0 e1
  rw [e0, e1] at e
  congr 1
  exact Array.ext' (by simpa using e)
end
end Go.Proofs.Ytmjainglhgefoaa
