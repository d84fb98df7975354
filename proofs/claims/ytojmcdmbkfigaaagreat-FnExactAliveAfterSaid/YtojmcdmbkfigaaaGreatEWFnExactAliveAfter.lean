/- Part of the proofs about the heaps and memories: a law is joined in the text whose name ends in W and the law. -/
import Derived.Test.YtojmcdmbkfigaaaGreatEWC
import Derived.Test.YtojmcdmbkfigaaaGreatEWSN
/- What is proved: whatever normal form and words the law FnExactAliveAfter of the given program is called with, in whatever memory and on every schedule, it returns true, does not panic, and leaves its arguments as they were. Conditions: none beside those of the given statement. -/
namespace Go.Proofs.YtojmcdmbkfigaaaGreat
open Go.ChangeShapes Go.WideShapes Go.ChangeAt Go.RowKit Go.Vc
set_option linter.all false

set_option maxRecDepth 100000 in
theorem fnExactAliveAfter_lifted (os : Os) (started : os.Started) (H : Type) (enc : TypeId × Value → H) :
    ReturnsInHanded {} Tryz.checked os 7 .any (Rows.fnExactAliveAfterSpec.pre6 enc Tryz.prog Tryz.f7 Rows.fnExactAliveAfterRow.domain false) (Rows.fnExactAliveAfterSpec.post enc Tryz.prog Tryz.f7 false true false false) := by
  refine returnsInHanded_of_change (C := Tryz.checked) Tryz.own started (by kernel_rfl) Tryz.func7
    (ChangeSpec.witness6 (enc := enc) (C := Tryz.checked) false ⟨#[], #[.agg #[.slice none 0 0, .slice none 0 0], .int .i64 0, .int .i64 0], []⟩ 8 (by kernel_rfl) (by kernel_rfl) (by kernel_rfl) (by kernel_rfl)) ?_
  intro W base args ds gs before hval0 hW hcnd _
  have hval : ∀ (j : Nat) t v, Tryz.f7.params[j]? = some t → args[j]? = some v → Value.okWide Tryz.prog W .any base t v := hval0
  have hW' := hW
  obtain ⟨p, q, hA0, hV, rfl, hfz, hnd⟩ := hW
  have hA : DataW.TrodAll enc Tryz.prog W 0 (fun _ => true) true Tryz.f7.params.toList args.toList ds p := hA0
  rw [Tryz.params7] at hA hval
  obtain ⟨v0, v1, v2, d0, d1, d2, p0, p1, p2, rfl, rfl, rfl, h0, h1, h2⟩ := trodAll_three hA
  obtain ⟨rfl, rfl⟩ := trodVars_none hV
  obtain ⟨x, y, l, m, rfl, hx, hy⟩ := nm_read (hval 0 25 v0 rfl rfl) h0
  obtain ⟨n, rfl⟩ := okWide_int Tryz.underlying3 (hval 1 3 v1 rfl rfl)
  obtain ⟨n2, rfl⟩ := okWide_int Tryz.underlying3 (hval 2 3 v2 rfl rfl)
  refine ((l_ExactAliveAfter (m := ⟨l, m⟩) (f := n) (k := n2) hx hy).2 W (.refl W)).mono fun e W' ⟨r, v', he, hfr, hr, hsub⟩ => ?_
  subst he; subst hr
  have hb := below_of_fr hfr hsub
  have hlt : ∀ y ∈ p0 ++ p1 ++ p2, y.block < W.heap.size := fun y hy => hW'.lt y (by simpa using hy)
  have st : ∀ {t : TypeId} {v : Value} {d : DataW H} {p : List MemPlace} (hr : Tryz.prog.readableRec t = true) (hrow : t < Tryz.prog.types.size), (∀ x ∈ p, x ∈ p0 ++ p1 ++ p2) → DataW.Trod enc Tryz.prog W 0 (fun _ => true) true t v d p →
      ∀ sp : Nat → Bool, (∀ x ∈ p0 ++ p1 ++ p2, sp x.block = true) → DataW.Trod enc Tryz.prog W' 0 sp true t v d p :=
    fun hr hrow hsub h sp hsp => WideElems.Trod_stays Tryz.laidOut hr hrow h (fun x hx => hb.same (hlt x (hsub x hx))) (fun x hx => hsp x (hsub x hx))
  exact ⟨_, rfl, post_below (pa := p0 ++ p1 ++ p2) (pv := []) hW' (fun _ _ _ => trodAll_mk1 (shut_bool Tryz.underlying4 true))
    (fun sp hsp => by
      have h := trodAll_mk3 (st (by kernel_rfl) (of_decide_eq_true (by kernel_rfl)) (fun x hx => by simp [hx]) h0 sp (fun x hx => hsp x (by simpa using hx)))
        (st (by kernel_rfl) (of_decide_eq_true (by kernel_rfl)) (fun x hx => by simp [hx]) h1 sp (fun x hx => hsp x (by simpa using hx)))
        (st (by kernel_rfl) (of_decide_eq_true (by kernel_rfl)) (fun x hx => by simp [hx]) h2 sp (fun x hx => hsp x (by simpa using hx)))
      rw [← List.append_assoc] at h
      exact h)
    (fun _ _ => rfl) (by simp) hb (ok_one (by kernel_rfl) rfl (okWide_bool_mk Tryz.underlying4 true))⟩

theorem FnExactAliveAfter_holds : Rows.FnExactAliveAfterSaid :=
  OpenClaim.holds_of_wide 7 Tryz.f7 rfl rfl rfl rfl rfl rfl rfl ⟨rfl, rfl, rfl, rfl, rfl⟩ rfl rfl rfl rfl rfl (by kernel_rfl) Tryz.func7 (by kernel_rfl)
    (of_decide_eq_true (by kernel_rfl)) (by unfold Func.isWrapper; first | (rw [if_pos (by decide +kernel)]; kernel_rfl) | (rw [if_neg (by decide +kernel)]; exact ⟨rfl, rfl⟩))
    (fun os started H enc _ => fnExactAliveAfter_lifted os started H enc)
end Go.Proofs.YtojmcdmbkfigaaaGreat
