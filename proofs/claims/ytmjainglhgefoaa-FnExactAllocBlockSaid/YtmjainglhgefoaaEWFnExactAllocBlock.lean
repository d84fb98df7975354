/- Part of the proofs about the heaps and memories: a law is joined in the text whose name ends in W and the law. -/
import Derived.Test.YtmjainglhgefoaaEWC
import Derived.Test.YtmjainglhgefoaaEWSM
/- What is proved: whatever memory of words, tag and fields the law FnExactAllocBlock of the given program is called with, in whatever memory and on every schedule, it returns true, does not panic, and leaves its arguments as they were. Conditions: none beside those of the given statement. -/
namespace Go.Proofs.Ytmjainglhgefoaa
open Go.ChangeShapes Go.WideShapes Go.ChangeAt Go.RowKit Go.Vc
set_option linter.all false

set_option maxRecDepth 100000 in
theorem fnExactAllocBlock_lifted (os : Os) (started : os.Started) (H : Type) (enc : TypeId × Value → H) :
    ReturnsInHanded {} Try.checked os 8 .any (Rows.fnExactAllocBlockSpec.pre6 enc Try.prog Try.f8 Rows.fnExactAllocBlockRow.domain false) (Rows.fnExactAllocBlockSpec.post enc Try.prog Try.f8 false true false false) := by
  refine returnsInHanded_of_change (C := Try.checked) Try.own started (by kernel_rfl) Try.func8
    (ChangeSpec.witness6 (enc := enc) (C := Try.checked) false ⟨#[], #[.agg #[.slice none 0 0, .slice none 0 0], .int .i64 0, .slice none 0 0], []⟩ 8 (by kernel_rfl) (by kernel_rfl) (by kernel_rfl) (by kernel_rfl)) ?_
  intro W base args ds gs before hval0 hW hcnd _
  have hval : ∀ (j : Nat) t v, Try.f8.params[j]? = some t → args[j]? = some v → Value.okWide Try.prog W .any base t v := hval0
  have hW' := hW
  obtain ⟨p, q, hA0, hV, rfl, hfz, hnd⟩ := hW
  have hA : DataW.TrodAll enc Try.prog W 0 (fun _ => true) true Try.f8.params.toList args.toList ds p := hA0
  rw [Try.params8] at hA hval
  obtain ⟨v0, v1, v2, d0, d1, d2, p0, p1, p2, rfl, rfl, rfl, h0, h1, h2⟩ := trodAll_three hA
  obtain ⟨rfl, rfl⟩ := trodVars_none hV
  obtain ⟨x, y, z, rfl, hx, hy⟩ := mem_read (hval 0 46 v0 rfl rfl) h0
  obtain ⟨n, rfl⟩ := okWide_int Try.underlying3 (hval 1 3 v1 rfl rfl)
  have hn : InI n := by
    obtain ⟨fuel, h1⟩ := h1
    obtain ⟨a, e, g⟩ := int_cells h1
    have e2 : n = a := by simpa [Value.cells, intV] using e
    rw [e2]; exact g
  obtain ⟨a0, len, cap, rfl⟩ := okWide_slice Try.underlying24 (hval 2 24 v2 rfl rfl)
  have h2k := h2
  obtain ⟨fuel2, h2k⟩ := h2k
  obtain ⟨xf, fs, e2, hf⟩ := ints_read h2k
  have e3 : Value.slice a0 len cap = xf.val := by simpa [Value.cells] using e2
  rw [e3] at hW' h2 ⊢
  refine ((l_ExactAllocBlock hx hy hn hf).2 W (.refl W)).mono fun e W' ⟨r, v', he, hfr, hr, hsub⟩ => ?_
  subst he; subst hr
  have hb := below_of_fr hfr hsub
  have hlt : ∀ y ∈ p0 ++ p1 ++ p2, y.block < W.heap.size := fun y hy => hW'.lt y (by simpa using hy)
  have st : ∀ {t : TypeId} {v : Value} {d : DataW H} {p : List MemPlace} (hr : Try.prog.readableRec t = true) (hrow : t < Try.prog.types.size), (∀ x ∈ p, x ∈ p0 ++ p1 ++ p2) → DataW.Trod enc Try.prog W 0 (fun _ => true) true t v d p →
      ∀ sp : Nat → Bool, (∀ x ∈ p0 ++ p1 ++ p2, sp x.block = true) → DataW.Trod enc Try.prog W' 0 sp true t v d p :=
    fun hr hrow hsub h sp hsp => WideElems.Trod_stays Try.laidOut hr hrow h (fun x hx => hb.same (hlt x (hsub x hx))) (fun x hx => hsp x (hsub x hx))
  exact ⟨_, rfl, post_below (pa := p0 ++ p1 ++ p2) (pv := []) hW' (fun _ _ _ => trodAll_mk1 (shut_bool Try.underlying4 true))
    (fun sp hsp => by
      have h := trodAll_mk3 (st (by kernel_rfl) (of_decide_eq_true (by kernel_rfl)) (fun x hx => by simp [hx]) h0 sp (fun x hx => hsp x (by simpa using hx)))
        (st (by kernel_rfl) (of_decide_eq_true (by kernel_rfl)) (fun x hx => by simp [hx]) h1 sp (fun x hx => hsp x (by simpa using hx)))
        (st (by kernel_rfl) (of_decide_eq_true (by kernel_rfl)) (fun x hx => by simp [hx]) h2 sp (fun x hx => hsp x (by simpa using hx)))
      rw [← List.append_assoc] at h
      exact h)
    (fun _ _ => rfl) (by simp) hb (ok_one (by kernel_rfl) rfl (okWide_bool_mk Try.underlying4 true))⟩

theorem FnExactAllocBlock_holds : Rows.FnExactAllocBlockSaid :=
  OpenClaim.holds_of_wide 8 Try.f8 rfl rfl rfl rfl rfl rfl rfl ⟨rfl, rfl, rfl, rfl, rfl⟩ rfl rfl rfl rfl rfl (by kernel_rfl) Try.func8 (by kernel_rfl)
    (of_decide_eq_true (by kernel_rfl)) (by unfold Func.isWrapper; first | (rw [if_pos (by decide +kernel)]; kernel_rfl) | (rw [if_neg (by decide +kernel)]; exact ⟨rfl, rfl⟩))
    (fun os started H enc _ => fnExactAllocBlock_lifted os started H enc)
end Go.Proofs.Ytmjainglhgefoaa
