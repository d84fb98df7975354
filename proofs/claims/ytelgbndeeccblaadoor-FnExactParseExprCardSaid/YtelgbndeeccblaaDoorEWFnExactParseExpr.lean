/- Part of the proofs about the heaps and memories: a law is joined in the text whose name ends in W and the law. -/
import Derived.Test.YtelgbndeeccblaaDoorEWC
import Derived.Test.YtelgbndeeccblaaDoorEU3
import Derived.LaidMore
import Derived.Lay
import Derived.Lib.LaidTab
import Derived.Test.YtelgbndeeccblaaDoorCards
import Derived.Test.YtelgbndeeccblaaDoorTie
import Derived.SevenTiedAt
import Derived.Stop.LaidErr
import Derived.Stop.Joined
/- What is proved: whatever text the law FnExactParseExpr of the given program is called with, in whatever memory and on every schedule, it returns true, does not panic, and leaves its argument as it was. Conditions: none beside those of the given statement (the library's tables that it lists hold what the program's text lays, and the card ties them to it). -/
namespace Go.Proofs.YtelgbndeeccblaaDoor
open Go.ChangeShapes Go.WideShapes Go.ChangeAt Go.RowKit Go.Vc
set_option linter.all false

theorem err_star : "*" ++ "errors.errorString" = "*errors.errorString" := by decide
theorem err_row (u : TypeId) (h : Tryd.prog.typeName? 3 u = some "*errors.errorString") : u = 158 :=
 typeName_ptr_named (nm := "errors.errorString") (by rw [err_star]; kernel_rfl) (by kernel_rfl) (by decide) u (by rw [err_star]; exact h)
/-- what the condition gives: the table of powers, and two errors of strconv -/
theorem tab_of_laid {W : World} (h : laidMetH Tryd.prog Rows.fnExactParseExprRow.laid W) : Tab2 W := by
 rw [MakeChecks.laidMetH_plain _ _ _ (by kernel_rfl)] at h
 have h3 : laidMet Tryd.prog (("math/bits.deBruijn32tab", Rows.laid_math_bits_deBruijn32tab) :: ("math/bits.deBruijn64tab", Rows.laid_math_bits_deBruijn64tab) :: ("internal/strconv.uint64pow10", Lib.tabData .u64 Lib.pow10Tab) ::
  ("unicode/utf8.acceptRanges", Rows.laid_unicode_utf8_acceptRanges) :: ("strconv.ErrRange", Rows.laid_strconv_ErrRange) :: ("strconv.ErrSyntax", Rows.laid_strconv_ErrSyntax) :: Rows.fnExactParseExprRow.laid.drop 6) W := h
 refine ⟨Lib.tabIs_of_head (g := 2) (t := 153) (e := 125) (n := 20) (by kernel_rfl) (by kernel_rfl) (by kernel_rfl) (by kernel_rfl) (by kernel_rfl) (by kernel_rfl) h3.tail.tail, ?_, ?_⟩
 ·obtain ⟨a0, s0, hv0, _⟩ := laid_sentinel (g := 0) (ti := 68) (tp := 158) (te := 160) (ts := 9) h3.tail.tail.tail.tail.tail (by kernel_rfl) (by kernel_rfl) Tryd.underlying68 err_row Tryd.underlying158 Tryd.underlying160 rfl rfl (by kernel_rfl) (by kernel_rfl) (by kernel_rfl)
  exact ⟨_, _, hv0⟩
 ·obtain ⟨a0, s0, hv0, _⟩ := laid_sentinel (g := 1) (ti := 68) (tp := 158) (te := 160) (ts := 9) h3.tail.tail.tail.tail (by kernel_rfl) (by kernel_rfl) Tryd.underlying68 err_row Tryd.underlying158 Tryd.underlying160 rfl rfl (by kernel_rfl) (by kernel_rfl) (by kernel_rfl)
  exact ⟨_, _, hv0⟩

section
variable {H : Type} {enc : TypeId × Value → H}
/-- the wrap, with the world's shape -/
theorem returns_shaped {a : Assume} {C : Checked} {os : Os} {f : FuncId} {fn : Func} {s : ChangeSpec} {conds : List PathCond} {apart fresh handsOn again : Bool} {X : World → Array Value → Prop}
  (hX : ∀ (w w' : World) (args : Array Value), w.heap = w'.heap → X w args → X w' args)
  (own : ownKnob C.prog.godebug = none) (started : os.Started) (noInit : C.prog.inits.idxOf? f = none) (hfn : C.prog.funcs[f]? = some fn)
  (witness : ∃ (w : World) (tape : Tape) (i : Input), w.os = os ∧ (w.forCall tape i).Shaped C.prog ∧ i.vars = [] ∧ Input.okWide C.prog (w.forCall tape i) .any w.heap.size f i ∧
   ((s.pre enc C.prog fn conds apart (w.forCall tape i).memory i.args ∧ X (w.forCall tape i).memory i.args) ∧ sizedMet enc C.prog fn (OpenSpec.ofChange s) apart (w.forCall tape i).memory i.args) ∧ a.holds C.prog (lone (Frame.enter C.prog f i.args .normal) [] (w.forCall tape i)))
  (contract : ∀ (W : World) (base : Nat) (args : Array Value) (ds gs : List (DataW H)) (before : List MemPlace),
   (∀ (j : Nat) t v, fn.params[j]? = some t → args[j]? = some v → Value.okWide C.prog W .any base t v) →
   DataW.Whole enc C.prog fn.params.toList s.vars apart W args.toList ds gs before →
   X W args → W.ShapedOpen C.prog →
   Calls C.prog f args W fun e W' => ∃ v, e = .returned v ∧ s.post enc C.prog fn apart fresh handsOn again W args v W') :
  ReturnsInHanded a C os f .any (fun w args => (s.pre enc C.prog fn conds apart w args ∧ X w args) ∧ sizedMet enc C.prog fn (OpenSpec.ofChange s) apart w args) (s.post enc C.prog fn apart fresh handsOn again) := by
 refine returnsInHanded_of_calls own started noInit witness ?_
 intro w tape i _ hsh _ hok hpre _
 obtain ⟨_, _, _, fn', hfn', _, _, _, _, hval⟩ := hok
 have e : fn' = fn := Option.some.inj (hfn'.symm.trans hfn)
 subst e
 obtain ⟨⟨⟨ds, gs, before, hw, hc⟩, hx⟩, hz⟩ := hpre
 have hw' := DataW.Whole.of_heap (w' := w.forCall tape i) (by rfl) hw
 refine (contract (w.forCall tape i) w.heap.size i.args ds gs before hval hw' (hX _ _ _ (by rfl) hx) hsh).mono fun e W' ⟨v, he, hp⟩ => ?_
 subst he
 exact ChangeSpec.post_blind hp
end
set_option maxRecDepth 100000 in
theorem fnExactParseExpr_lifted (os : Os) (started : os.Started) (H : Type) (enc : TypeId × Value → H) :
  ReturnsInHanded {} Tryd.checked os 4 .any (fun w args => (Rows.fnExactParseExprSpec.pre enc Tryd.prog Tryd.f4 [] false w args ∧ laidMetH Tryd.prog Rows.fnExactParseExprRow.laid w) ∧ sizedMet enc Tryd.prog Tryd.f4 (OpenSpec.ofChange Rows.fnExactParseExprSpec) false w args)
   (Rows.fnExactParseExprSpec.post enc Tryd.prog Tryd.f4 false true false false) := by
 refine returns_shaped (C := Tryd.checked) (X := fun w _ => laidMetH Tryd.prog Rows.fnExactParseExprRow.laid w) (fun _ _ _ hh h => h.of_heap hh) Tryd.own started (by kernel_rfl) Tryd.func4
  (ChangeSpec.witness_shaped (enc := enc) (C := Tryd.checked) (os := os) (X := fun w _ => laidMetH Tryd.prog Rows.fnExactParseExprRow.laid w) false (World.laidAll Tryd.prog os Rows.fnExactParseExprRow.laid) #[.string ByteArray.empty] 8 (World.laidAll_os _ _ _)
   (World.shaped_of_ZipB (by kernel_rfl) (by kernel_rfl)) (by kernel_rfl) (by kernel_rfl) (by kernel_rfl)
   (by rw [MakeChecks.laidMetH_plain _ _ _ (by kernel_rfl)]; exact laidMet_laidAll _ (by kernel_rfl) (by kernel_rfl))) ?_
 intro W base args ds gs before hval0 hW hL hSh
 have hval : ∀ (j : Nat) t v, Tryd.f4.params[j]? = some t → args[j]? = some v → Value.okWide Tryd.prog W .any base t v := hval0
 have hW' := hW
 obtain ⟨p, q, hA0, hV, rfl, hfz, hnd⟩ := hW
 have hA : DataW.TrodAll enc Tryd.prog W 0 (fun _ => true) true Tryd.f4.params.toList args.toList ds p := hA0
 rw [Tryd.params4] at hA hval
 obtain ⟨v0, d0, rfl, rfl, h0⟩ := trodAll_one hA
 obtain ⟨rfl, rfl⟩ := trodVars_none hV
 obtain ⟨s0, rfl⟩ := okWide_string Tryd.underlying9 (hval 0 9 v0 rfl rfl)
 have h0k := h0
 refine ((l_ExactParseExpr (s := s0.data.toList) (tab_of_laid hL)).2 W (.refl W)).mono fun e W' ⟨r, v', he, hfr, hr, hsub⟩ => ?_
 subst he; subst hr
 have hb := below_of_fr hfr hsub
 have hlt : ∀ y ∈ p, y.block < W.heap.size := fun y hy => hW'.lt y (by simpa using hy)
 exact ⟨_, rfl, post_below (pa := p) (pv := []) hW' (fun _ _ _ => trodAll_mk1 (shut_bool Tryd.underlying4 true))
  (fun sp hsp => trodAll_mk1 (WideElems.Trod_stays Tryd.laidOut (by kernel_rfl) (of_decide_eq_true (by kernel_rfl)) h0k (fun x hx => hb.same (hlt x hx)) (fun x hx => hsp x (by simpa using hx))))
  (fun _ _ => rfl) (by simp) hb (ok_one (by kernel_rfl) rfl (okWide_bool_mk Tryd.underlying4 true))⟩

theorem fnExactParseExpr_closed : joinedFacts Tryd.pinned.checked.prog 4 Tryd.f4 Rows.fnExactParseExprSpec Rows.fnExactParseExprRow = true := by kernel_rfl
theorem fnExactParseExpr_named : Tryd.pinned.checked.prog.funcNamed Rows.fnExactParseExprRow.func = some 4 := by kernel_rfl
theorem fnExactParseExpr_inst : Tryd.f4.isInstance Tryd.pinned.checked.prog Rows.fnExactParseExprRow.origin Rows.fnExactParseExprRow.targs := of_decide_eq_true (by kernel_rfl)
theorem fnExactParseExpr_wrap : Tryd.f4.isWrapper Tryd.pinned.checked.prog Rows.fnExactParseExprRow.wrapper Rows.fnExactParseExprRow.mainSum := by unfold Func.isWrapper; first | (rw [if_pos (by decide +kernel)]; kernel_rfl) | (rw [if_neg (by decide +kernel)]; exact ⟨rfl, rfl⟩)
theorem FnExactParseExpr_row : Rows.FnExactParseExprSaid :=
 OpenClaim.holds_of_wide 4 Tryd.f4 rfl rfl rfl rfl rfl rfl rfl ⟨rfl, rfl, rfl, rfl, rfl⟩ rfl rfl rfl rfl rfl fnExactParseExpr_named Tryd.func4 fnExactParseExpr_closed fnExactParseExpr_inst fnExactParseExpr_wrap
  (fun os started H enc _ => fnExactParseExpr_lifted os started H enc)
theorem fnExactParseExpr_plain (f : FuncId) (fn : Func) (hf : Tryd.pinned.checked.prog.funcNamed "loop.example/refcountml/laws.FnExactParseExpr" = some f) (hfn : Tryd.pinned.checked.prog.funcs[f]? = some fn) :
  true = Tryd.pinned.checked.prog.looks [] ∧ ∀ (j : Nat) t, fn.params[j]? = some t → Tryd.pinned.checked.prog.wantsStandIn t = false := by
 obtain rfl : f = 4 := Option.some.inj ((show Tryd.prog.funcNamed "loop.example/refcountml/laws.FnExactParseExpr" = some 4 by kernel_rfl).symm.trans hf) |>.symm
 obtain rfl : fn = Tryd.f4 := (Option.some.inj (Tryd.func4.symm.trans hfn)).symm
 refine ⟨by kernel_rfl, fun j t ht => ?_⟩
 rw [Tryd.params4] at ht
 obtain rfl : t = 9 := by simpa using Array.mem_of_getElem? ht
 exact (show Tryd.prog.wantsStandIn 9 = false by kernel_rfl)
theorem FnExactParseExpr_holds : Rows.FnExactParseExprCardSaid :=
 Claim7.holds_tied_plain_at .later [] _ _ _ _ FnExactParseExpr_row (fun _ h => by cases h) (by kernel_rfl) (fun _ h => by cases h) fnExactParseExpr_row_tie rfl ⟨rfl, rfl⟩ (by kernel_rfl) rfl fnExactParseExpr_plain (by kernel_rfl)
end Go.Proofs.YtelgbndeeccblaaDoor
