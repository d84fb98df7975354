/- Part of the proofs about the heaps and memories: a law is joined in the text whose name ends in W and the law. -/
import Derived.Test.YtelgbndeeccblaaDoorEWC
import Derived.Test.YtelgbndeeccblaaDoorEWSE
import Derived.Test.YtelgbndeeccblaaDoorCards
import Derived.Test.YtelgbndeeccblaaDoorTie
import Derived.SevenTiedAt
import Derived.Stop.LaidErr
import Derived.Stop.Joined
/- What is proved: whatever expression the law FnExactFormatExpr of the given program is called with, in whatever memory and on every schedule, it returns true, does not panic, and leaves its argument as it was. Conditions: none beside those of the given statement (the library's tables that it lists hold what the program's text lays, and the card ties them to it). -/
namespace Go.Proofs.YtelgbndeeccblaaDoor
open Go.ChangeShapes Go.WideShapes Go.ChangeAt Go.RowKit Go.Vc
set_option linter.all false

theorem door_met (os : Os) (args : Array Value) : laidMetH Tryd.prog Rows.fnExactFormatExprRow.laid ((World.doorLaid Tryd.prog 72 os).forCall (fun _ _ => 0) ⟨#[], args, []⟩).memory :=
  laidMetH_of_parts3 (fuel := 8) (laidMet_of_run' 8 (by kernel_rfl) (by kernel_rfl)) (by kernel_rfl) (by kernel_rfl)
/-- what the condition gives: the table of powers -/
theorem tab_of_laid {W : World} (h : laidMetH Tryd.prog Rows.fnExactFormatExprRow.laid W) : Tab W := by
  rw [MakeChecks.laidMetH_plain _ _ _ (by kernel_rfl)] at h
  have h3 : laidMet Tryd.prog (("math/bits.deBruijn32tab", Rows.laid_math_bits_deBruijn32tab) :: ("math/bits.deBruijn64tab", Rows.laid_math_bits_deBruijn64tab) :: ("internal/strconv.uint64pow10", Lib.tabData .u64 Lib.pow10Tab) :: Rows.fnExactFormatExprRow.laid.drop 3) W := h
  exact Lib.tabIs_of_head (g := 2) (t := 153) (e := 125) (n := 20) (by kernel_rfl) (by kernel_rfl) (by kernel_rfl) (by kernel_rfl) (by kernel_rfl) (by kernel_rfl) h3.tail.tail

set_option maxRecDepth 100000 in
theorem fnExactFormatExpr_lifted (os : Os) (started : os.Started) (H : Type) (enc : TypeId × Value → H) :
    ReturnsInHanded {} Tryd.checked os 3 .any (fun w args => (Rows.fnExactFormatExprSpec.pre enc Tryd.prog Tryd.f3 [] false w args ∧ laidMetH Tryd.prog Rows.fnExactFormatExprRow.laid w) ∧ sizedMet enc Tryd.prog Tryd.f3 (OpenSpec.ofChange Rows.fnExactFormatExprSpec) false w args)
      (Rows.fnExactFormatExprSpec.post enc Tryd.prog Tryd.f3 false true false false) := by
  refine returnsInHanded_of_change_and (C := Tryd.checked) (X := fun w _ => laidMetH Tryd.prog Rows.fnExactFormatExprRow.laid w) (fun _ _ _ hh h => h.of_heap hh) Tryd.own started (by kernel_rfl) Tryd.func3
    (ChangeSpec.witness_shaped (enc := enc) (C := Tryd.checked) (os := os) (X := fun w _ => laidMetH Tryd.prog Rows.fnExactFormatExprRow.laid w) false (World.doorLaid Tryd.prog 72 os) #[.agg #[.int .i64 0, .int .i64 0, .slice none 0 0]] 8 rfl (World.shaped_of_RefB (by kernel_rfl) (by kernel_rfl)) (by kernel_rfl) (by kernel_rfl) (by kernel_rfl) (door_met os _)) ?_
  intro W base args ds gs before hval0 hW _ _ hL _
  have hval : ∀ (j : Nat) t v, Tryd.f3.params[j]? = some t → args[j]? = some v → Value.okWide Tryd.prog W .any base t v := hval0
  have hW' := hW
  obtain ⟨p, q, hA0, hV, rfl, hfz, hnd⟩ := hW
  have hA : DataW.TrodAll enc Tryd.prog W 0 (fun _ => true) true Tryd.f3.params.toList args.toList ds p := hA0
  rw [Tryd.params3] at hA hval
  obtain ⟨v0, d0, rfl, rfl, h0⟩ := trodAll_one hA
  obtain ⟨rfl, rfl⟩ := trodVars_none hV
  obtain ⟨e, x, rfl, h1, h2, hx⟩ := ex_read (hval 0 24 v0 rfl rfl) h0
  refine ((l_ExactFormatExpr (tab_of_laid hL) h1 h2 hx).2 W (.refl W)).mono fun e W' ⟨r, v', he, hfr, hr, hsub⟩ => ?_
  subst he; subst hr
  have hb := below_of_fr hfr hsub
  have hlt : ∀ y ∈ p, y.block < W.heap.size := fun y hy => hW'.lt y (by simpa using hy)
  exact ⟨_, rfl, post_below (pa := p) (pv := []) hW' (fun _ _ _ => trodAll_mk1 (shut_bool Tryd.underlying4 true))
    (fun sp hsp => trodAll_mk1 (WideElems.Trod_stays Tryd.laidOut (by kernel_rfl) (of_decide_eq_true (by kernel_rfl)) h0 (fun x hx => hb.same (hlt x hx)) (fun x hx => hsp x (by simpa using hx))))
    (fun _ _ => rfl) (by simp) hb (ok_one (by kernel_rfl) rfl (okWide_bool_mk Tryd.underlying4 true))⟩

theorem FnExactFormatExpr_row : Rows.FnExactFormatExprSaid :=
  OpenClaim.holds_of_wide 3 Tryd.f3 rfl rfl rfl rfl rfl rfl rfl ⟨rfl, rfl, rfl, rfl, rfl⟩ rfl rfl rfl rfl rfl (by kernel_rfl) Tryd.func3 (by kernel_rfl)
    (of_decide_eq_true (by kernel_rfl)) (by unfold Func.isWrapper; first | (rw [if_pos (by decide +kernel)]; kernel_rfl) | (rw [if_neg (by decide +kernel)]; exact ⟨rfl, rfl⟩))
    (fun os started H enc _ => fnExactFormatExpr_lifted os started H enc)
theorem fnExactFormatExpr_plain (f : FuncId) (fn : Func) (hf : Tryd.pinned.checked.prog.funcNamed "loop.example/refcountml/laws.FnExactFormatExpr" = some f) (hfn : Tryd.pinned.checked.prog.funcs[f]? = some fn) :
    true = Tryd.pinned.checked.prog.looks [] ∧ ∀ (j : Nat) t, fn.params[j]? = some t → Tryd.pinned.checked.prog.wantsStandIn t = false := by
  obtain rfl : f = 3 := Option.some.inj ((show Tryd.prog.funcNamed "loop.example/refcountml/laws.FnExactFormatExpr" = some 3 by kernel_rfl).symm.trans hf) |>.symm
  obtain rfl : fn = Tryd.f3 := (Option.some.inj (Tryd.func3.symm.trans hfn)).symm
  refine ⟨by kernel_rfl, fun j t ht => ?_⟩
  rw [Tryd.params3] at ht
  obtain rfl : t = 24 := by simpa using Array.mem_of_getElem? ht
  exact (show Tryd.prog.wantsStandIn 24 = false by kernel_rfl)
theorem FnExactFormatExpr_holds : Rows.FnExactFormatExprCardSaid :=
  Claim7.holds_tied_plain_at .later [] _ _ _ _ FnExactFormatExpr_row (fun _ h => by cases h) (by kernel_rfl) (fun _ h => by cases h) fnExactFormatExpr_row_tie rfl ⟨rfl, rfl⟩ (by kernel_rfl) rfl fnExactFormatExpr_plain (by kernel_rfl)
end Go.Proofs.YtelgbndeeccblaaDoor
