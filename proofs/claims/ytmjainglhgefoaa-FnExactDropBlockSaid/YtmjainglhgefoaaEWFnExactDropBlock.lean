/- Part of the proofs about the heaps and memories: a law is joined in the text whose name ends in W and the law. -/
import Derived.Test.YtmjainglhgefoaaEWC
import Derived.Test.YtmjainglhgefoaaEWSM
/- What is proved: whatever memory of words and word the law FnExactDropBlock of the given program is called with, in whatever memory and on every schedule, it returns true, does not panic, and leaves its arguments as they were. Conditions: none beside those of the given statement. -/
namespace Go.Proofs.Ytmjainglhgefoaa
open Go.ChangeShapes Go.WideShapes Go.ChangeAt Go.RowKit Go.Vc
set_option linter.all false

set_option maxRecDepth 100000 in
theorem fnExactDropBlock_lifted (os : Os) (started : os.Started) (H : Type) (enc : TypeId × Value → H) :
    ReturnsInHanded {} Try.checked os 9 .any (Rows.fnExactDropBlockSpec.pre6 enc Try.prog Try.f9 Rows.fnExactDropBlockRow.domain false) (Rows.fnExactDropBlockSpec.post enc Try.prog Try.f9 false true false false) := by
  refine returnsInHanded_of_change (C := Try.checked) Try.own started (by kernel_rfl) Try.func9
    (ChangeSpec.witness6 (enc := enc) (C := Try.checked) false ⟨#[], #[.agg #[.slice none 0 0, .slice none 0 0], .int .i64 0], []⟩ 8 (by kernel_rfl) (by kernel_rfl) (by kernel_rfl) (by kernel_rfl)) ?_
  intro W base args ds gs before hval0 hW hcnd _
  have hval : ∀ (j : Nat) t v, Try.f9.params[j]? = some t → args[j]? = some v → Value.okWide Try.prog W .any base t v := hval0
  have hW' := hW
  obtain ⟨p, q, hA0, hV, rfl, hfz, hnd⟩ := hW
  have hA : DataW.TrodAll enc Try.prog W 0 (fun _ => true) true Try.f9.params.toList args.toList ds p := hA0
  rw [Try.params9] at hA hval
  obtain ⟨v0, v1, d0, d1, p0, p1, rfl, rfl, rfl, h0, h1⟩ := trodAll_two hA
  obtain ⟨rfl, rfl⟩ := trodVars_none hV
  obtain ⟨x, y, z, rfl, hx, hy⟩ := mem_read (hval 0 46 v0 rfl rfl) h0
  obtain ⟨n, rfl⟩ := okWide_int Try.underlying3 (hval 1 3 v1 rfl rfl)
  have hn : InI n := by
    obtain ⟨fuel, h1⟩ := h1
    obtain ⟨a, e, g⟩ := int_cells h1
    have e2 : n = a := by simpa [Value.cells, intV] using e
    rw [e2]; exact g
  refine ((l_ExactDropBlock hx hy hn).2 W (.refl W)).mono fun e W' ⟨r, v', he, hfr, hr, hsub⟩ => ?_
  subst he; subst hr
  have hb := below_of_fr hfr hsub
  have hlt : ∀ y ∈ p0 ++ p1, y.block < W.heap.size := fun y hy => hW'.lt y (by simpa using hy)
  exact ⟨_, rfl, post_below (pa := p0 ++ p1) (pv := []) hW' (fun _ _ _ => trodAll_mk1 (shut_bool Try.underlying4 true))
    (fun sp hsp => trodAll_mk2 (WideElems.Trod_stays Try.laidOut (by kernel_rfl) (of_decide_eq_true (by kernel_rfl)) h0 (fun x hx => hb.same (hlt x (List.mem_append_left _ hx))) (fun x hx => hsp x (by simp [hx])))
      (WideElems.Trod_stays Try.laidOut (by kernel_rfl) (of_decide_eq_true (by kernel_rfl)) h1 (fun x hx => hb.same (hlt x (List.mem_append_right _ hx))) (fun x hx => hsp x (by simp [hx]))))
    (fun _ _ => rfl) (by simp) hb (ok_one (by kernel_rfl) rfl (okWide_bool_mk Try.underlying4 true))⟩

theorem FnExactDropBlock_holds : Rows.FnExactDropBlockSaid :=
  OpenClaim.holds_of_wide 9 Try.f9 rfl rfl rfl rfl rfl rfl rfl ⟨rfl, rfl, rfl, rfl, rfl⟩ rfl rfl rfl rfl rfl (by kernel_rfl) Try.func9 (by kernel_rfl)
    (of_decide_eq_true (by kernel_rfl)) (by unfold Func.isWrapper; first | (rw [if_pos (by decide +kernel)]; kernel_rfl) | (rw [if_neg (by decide +kernel)]; exact ⟨rfl, rfl⟩))
    (fun os started H enc _ => fnExactDropBlock_lifted os started H enc)
end Go.Proofs.Ytmjainglhgefoaa
