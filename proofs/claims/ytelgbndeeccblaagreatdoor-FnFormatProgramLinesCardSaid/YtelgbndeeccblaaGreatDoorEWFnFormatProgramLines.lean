/- Part of the proofs about the heaps and memories: a law is joined in the text whose name ends in W and the law. -/
import Derived.Test.YtelgbndeeccblaaGreatDoorEWC
import Derived.Test.YtelgbndeeccblaaGreatDoorEG6
import Derived.LaidMore
import Derived.Lib.LaidTab
import Derived.Test.YtelgbndeeccblaaGreatDoorCards
import Derived.Test.YtelgbndeeccblaaGreatDoorTie
import Derived.SevenTiedAt
import Derived.Stop.LaidErr
import Derived.Stop.Joined
/- What is proved: whatever bytes the law FnFormatProgramLines of the given program is called with, in whatever memory and on every schedule, it returns true, does not panic, and leaves its argument as it was. Conditions: none beside those of the given statement (the library's tables that it lists hold what the program's text lays, and the card ties them to it). -/
namespace Go.Proofs.YtelgbndeeccblaaGreatDoor
open Go.ChangeShapes Go.WideShapes Go.ChangeAt Go.RowKit Go.Vc
set_option linter.all false

theorem door_met (os : Os) (args : Array Value) : laidMetH Tryz.prog Rows.fnFormatProgramLinesRow.laid ((World.doorLaid Tryz.prog 72 os).forCall (fun _ _ => 0) ⟨#[], args, []⟩).memory :=
 laidMetH_of_parts3 (fuel := 8) (laidMet_of_run' 8 (by kernel_rfl) (by kernel_rfl)) (by kernel_rfl) (by kernel_rfl)
/-- what the condition gives: the table of powers -/
theorem tab_of_laid {W : World} (h : laidMetH Tryz.prog Rows.fnFormatProgramLinesRow.laid W) : Tab W := by
 rw [MakeChecks.laidMetH_plain _ _ _ (by kernel_rfl)] at h
 have h3 : laidMet Tryz.prog (("math/bits.deBruijn32tab", Rows.laid_math_bits_deBruijn32tab) :: ("math/bits.deBruijn64tab", Rows.laid_math_bits_deBruijn64tab) :: ("internal/strconv.uint64pow10", Lib.tabData .u64 Lib.pow10Tab) :: Rows.fnFormatProgramLinesRow.laid.drop 3) W := h
 exact Lib.tabIs_of_head (g := 0) (t := 233) (e := 199) (n := 20) (by kernel_rfl) (by kernel_rfl) (by kernel_rfl) (by kernel_rfl) (by kernel_rfl) (by kernel_rfl) h3.tail.tail

set_option maxRecDepth 100000 in
theorem fnFormatProgramLines_lifted (os : Os) (started : os.Started) (H : Type) (enc : TypeId × Value → H) :
  ReturnsInHanded {} Tryz.checked os 7 .any (fun w args => (Rows.fnFormatProgramLinesSpec.pre enc Tryz.prog Tryz.f7 [] false w args ∧ laidMetH Tryz.prog Rows.fnFormatProgramLinesRow.laid w) ∧ sizedMet enc Tryz.prog Tryz.f7 (OpenSpec.ofChange Rows.fnFormatProgramLinesSpec) false w args)
   (Rows.fnFormatProgramLinesSpec.post enc Tryz.prog Tryz.f7 false true false false) := by
 refine returnsInHanded_of_change_and (C := Tryz.checked) (X := fun w _ => laidMetH Tryz.prog Rows.fnFormatProgramLinesRow.laid w) (fun _ _ _ hh h => h.of_heap hh) Tryz.own started (by kernel_rfl) Tryz.func7
  (ChangeSpec.witness_shaped (enc := enc) (C := Tryz.checked) (os := os) (X := fun w _ => laidMetH Tryz.prog Rows.fnFormatProgramLinesRow.laid w) false (World.doorLaid Tryz.prog 72 os) #[.slice none 0 0] 8 rfl (World.shaped_of_RefB (by kernel_rfl) (by kernel_rfl)) (by kernel_rfl) (by kernel_rfl) (by kernel_rfl) (door_met os _)) ?_
 intro W base args ds gs before hval0 hW _ _ hL _
 have hval : ∀ (j : Nat) t v, Tryz.f7.params[j]? = some t → args[j]? = some v → Value.okWide Tryz.prog W .any base t v := hval0
 have hW' := hW
 obtain ⟨p, q, hA0, hV, rfl, hfz, hnd⟩ := hW
 have hA : DataW.TrodAll enc Tryz.prog W 0 (fun _ => true) true Tryz.f7.params.toList args.toList ds p := hA0
 rw [Tryz.params7] at hA hval
 obtain ⟨v0, d0, rfl, rfl, h0⟩ := trodAll_one hA
 obtain ⟨rfl, rfl⟩ := trodVars_none hV
 obtain ⟨a0, len, cap, rfl⟩ := okWide_slice Tryz.underlying39 (hval 0 39 v0 rfl rfl)
 have h0k := h0
 obtain ⟨fuel, hf⟩ := h0
 have hbs : ∃ bs : List UInt8, Bytes W ⟨a0, len, cap⟩ bs := by
  rcases open_ints Tryz.underlying39 Tryz.underlying5 Tryz.cells5 hf with ⟨hcs, _⟩ | ⟨ad, len', cap', zs, hcs, _, hl, _, hz, _, hcell, hwz⟩
  ·simp [Value.cells] at hcs
   obtain ⟨rfl, rfl, rfl⟩ := hcs
   exact ⟨[], Rows.nil_ W 1⟩
  ·simp [Value.cells] at hcs
   obtain ⟨rfl, rfl, rfl⟩ := hcs
   simp only [if_true] at hz
   refine ⟨(zs.take len).map fun n => UInt8.ofNat n.toNat, by simp; omega, hl, fun i r hr => ⟨rfl, fun j u hu => ?_⟩⟩
   simp only [List.map_map, List.getElem?_map, Option.map_eq_some_iff] at hr
   obtain ⟨n, hn, rfl⟩ := hr
   have hj : j = 0 := by
    rcases Nat.eq_zero_or_pos j with h | h
    ·exact h
    ·rw [List.getElem?_eq_none (by simp; omega)] at hu; cases hu
   subst hj
   simp only [Function.comp, List.getElem?_cons_zero, Option.some.injEq] at hu
   subst hu
   have hi : i < len := by
    rcases Nat.lt_or_ge i len with h | h
    ·exact h
    ·rw [List.getElem?_eq_none (by simp; omega)] at hn; cases hn
   rw [List.getElem?_take, if_pos hi] at hn
   have hc := hcell i (by omega)
   have hg : zs.getD i 0 = n := by simp [List.getD, hn]
   rw [hg] at hc
   have hwf := hwz n (List.mem_of_getElem? hn)
   have hb : 0 ≤ n ∧ n ≤ 255 := by simpa [Lit.wf, IntKind.min, IntKind.max, IntKind.signed, IntKind.bits] using hwf
   have e : ((UInt8.ofNat n.toNat).toNat : Int) = n := by simp; omega
   show W.cell? ((elA ⟨some ad, len, cap⟩ i 1).add 0) = some (.int .u8 ((UInt8.ofNat n.toNat).toNat : Int))
   rw [e]
   simpa [elA, Addr.add] using hc
 obtain ⟨bs, hbs⟩ := hbs
 refine ((l_FormatProgramLines (tab_of_laid hL) hbs).2 W (.refl W)).mono fun e W' ⟨r, v', he, hfr, hr, hsub⟩ => ?_
 subst he; subst hr
 have hb := below_of_fr hfr hsub
 have hlt : ∀ y ∈ p, y.block < W.heap.size := fun y hy => hW'.lt y (by simpa using hy)
 exact ⟨_, rfl, post_below (pa := p) (pv := []) hW' (fun _ _ _ => trodAll_mk1 (shut_bool Tryz.underlying4 true))
  (fun sp hsp => trodAll_mk1 (WideElems.Trod_stays Tryz.laidOut (by kernel_rfl) (of_decide_eq_true (by kernel_rfl)) h0k (fun x hx => hb.same (hlt x hx)) (fun x hx => hsp x (by simpa using hx))))
  (fun _ _ => rfl) (by simp) hb (ok_one (by kernel_rfl) rfl (okWide_bool_mk Tryz.underlying4 true))⟩

theorem FnFormatProgramLines_row : Rows.FnFormatProgramLinesSaid :=
 OpenClaim.holds_of_wide 7 Tryz.f7 rfl rfl rfl rfl rfl rfl rfl ⟨rfl, rfl, rfl, rfl, rfl⟩ rfl rfl rfl rfl rfl (by kernel_rfl) Tryz.func7 (by kernel_rfl)
  (of_decide_eq_true (by kernel_rfl)) (by unfold Func.isWrapper; first | (rw [if_pos (by decide +kernel)]; kernel_rfl) | (rw [if_neg (by decide +kernel)]; exact ⟨rfl, rfl⟩))
  (fun os started H enc _ => fnFormatProgramLines_lifted os started H enc)
theorem fnFormatProgramLines_plain (f : FuncId) (fn : Func) (hf : Tryz.pinned.checked.prog.funcNamed "loop.example/refcountml/laws.FnFormatProgramLines" = some f) (hfn : Tryz.pinned.checked.prog.funcs[f]? = some fn) :
  true = Tryz.pinned.checked.prog.looks [] ∧ ∀ (j : Nat) t, fn.params[j]? = some t → Tryz.pinned.checked.prog.wantsStandIn t = false := by
 obtain rfl : f = 7 := Option.some.inj ((show Tryz.prog.funcNamed "loop.example/refcountml/laws.FnFormatProgramLines" = some 7 by kernel_rfl).symm.trans hf) |>.symm
 obtain rfl : fn = Tryz.f7 := (Option.some.inj (Tryz.func7.symm.trans hfn)).symm
 refine ⟨by kernel_rfl, fun j t ht => ?_⟩
 rw [Tryz.params7] at ht
 obtain rfl : t = 39 := by simpa using Array.mem_of_getElem? ht
 exact (show Tryz.prog.wantsStandIn 39 = false by kernel_rfl)
theorem FnFormatProgramLines_holds : Rows.FnFormatProgramLinesCardSaid :=
 Claim7.holds_tied_plain_at .later [] _ _ _ _ FnFormatProgramLines_row (fun _ h => by cases h) (by kernel_rfl) (fun _ h => by cases h) fnFormatProgramLines_row_tie rfl ⟨rfl, rfl⟩ (by kernel_rfl) rfl fnFormatProgramLines_plain (by kernel_rfl)
end Go.Proofs.YtelgbndeeccblaaGreatDoor
