/- Part of the proofs about the heaps and memories: a law is joined in the text whose name ends in W and the law. -/
import Derived.Test.YtjdgknhdphmgiaaEWC
import Derived.Test.YtjdgknhdphmgiaaEWSI
/- What is proved: whatever list of numbers the law FnExactDecodeImage of the given program is called with, in whatever memory and on every schedule, it returns true, does not panic, and leaves its argument as it was. Conditions: none beside those of the given statement. -/
namespace Go.Proofs.Ytjdgknhdphmgiaa
open Go.ChangeShapes Go.WideShapes Go.ChangeAt Go.RowKit Go.Vc
set_option linter.all false

set_option maxRecDepth 100000 in
theorem fnExactDecodeImage_lifted (os : Os) (started : os.Started) (H : Type) (enc : TypeId × Value → H) :
    ReturnsInHanded {} Try.checked os 5 .any (Rows.fnExactDecodeImageSpec.pre6 enc Try.prog Try.f5 Rows.fnExactDecodeImageRow.domain false) (Rows.fnExactDecodeImageSpec.post enc Try.prog Try.f5 false true false false) := by
  refine returnsInHanded_of_change (C := Try.checked) Try.own started (by kernel_rfl) Try.func5
    (ChangeSpec.witness6 (enc := enc) (C := Try.checked) false ⟨#[], #[.slice none 0 0], []⟩ 8 (by kernel_rfl) (by kernel_rfl) (by kernel_rfl) (by kernel_rfl)) ?_
  intro W base args ds gs before hval0 hW hcnd _
  have hval : ∀ (j : Nat) t v, Try.f5.params[j]? = some t → args[j]? = some v → Value.okWide Try.prog W .any base t v := hval0
  have hW' := hW
  obtain ⟨p, q, hA0, hV, rfl, hfz, hnd⟩ := hW
  have hA : DataW.TrodAll enc Try.prog W 0 (fun _ => true) true Try.f5.params.toList args.toList ds p := hA0
  rw [Try.params5] at hA hval
  obtain ⟨v0, d0, rfl, rfl, h0⟩ := trodAll_one hA
  obtain ⟨rfl, rfl⟩ := trodVars_none hV
  obtain ⟨a0, len, cap, rfl⟩ := okWide_slice Try.underlying35 (hval 0 35 v0 rfl rfl)
  have h2k := h0
  obtain ⟨fuel2, h2k⟩ := h2k
  obtain ⟨xf, fs, e2, hf⟩ := ints_read h2k
  have e3 : Value.slice a0 len cap = xf.val := by simpa [Value.cells] using e2
  rw [e3] at hW' h0 ⊢
  refine ((l_ExactDecodeImage hf).2 W (.refl W)).mono fun e W' ⟨r, v', he, hfr, hr, hsub⟩ => ?_
  subst he; subst hr
  have hb := below_of_fr hfr hsub
  have hlt : ∀ y ∈ p, y.block < W.heap.size := fun y hy => hW'.lt y (by simpa using hy)
  exact ⟨_, rfl, post_below (pa := p) (pv := []) hW' (fun _ _ _ => trodAll_mk1 (shut_bool Try.underlying4 true))
    (fun sp hsp => trodAll_mk1 (WideElems.Trod_stays Try.laidOut (by kernel_rfl) (of_decide_eq_true (by kernel_rfl)) h0 (fun x hx => hb.same (hlt x hx)) (fun x hx => hsp x (by simpa using hx))))
    (fun _ _ => rfl) (by simp) hb (ok_one (by kernel_rfl) rfl (okWide_bool_mk Try.underlying4 true))⟩

theorem FnExactDecodeImage_holds : Rows.FnExactDecodeImageSaid :=
  OpenClaim.holds_of_wide 5 Try.f5 rfl rfl rfl rfl rfl rfl rfl ⟨rfl, rfl, rfl, rfl, rfl⟩ rfl rfl rfl rfl rfl (by kernel_rfl) Try.func5 (by kernel_rfl)
    (of_decide_eq_true (by kernel_rfl)) (by unfold Func.isWrapper; first | (rw [if_pos (by decide +kernel)]; kernel_rfl) | (rw [if_neg (by decide +kernel)]; exact ⟨rfl, rfl⟩))
    (fun os started H enc _ => fnExactDecodeImage_lifted os started H enc)
end Go.Proofs.Ytjdgknhdphmgiaa
