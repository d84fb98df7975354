/- Part of the proofs about the heaps and memories: a law is joined in the text whose name ends in W and the law. -/
import Derived.Test.YtelgbndeeccblaaGreatDoorEWC
import Derived.Test.YtelgbndeeccblaaGreatDoorEU4
import Derived.Shelf.Vars
import Derived.LaidMore
import Derived.Lay
import Derived.Lib.LaidTab
import Derived.Test.YtelgbndeeccblaaGreatDoorCards
import Derived.Test.YtelgbndeeccblaaGreatDoorTie
import Derived.SevenTiedAt
import Derived.Stop.LaidErr
import Derived.Stop.Joined
set_option linter.all false
namespace Go.Proofs.YtelgbndeeccblaaGreatDoor
open Go.ChangeShapes Go.WideShapes Go.ChangeAt Go.RowKit Go.Vc
theorem err_star: "*" ++ "errors.errorString" = "*errors.errorString" :=by decide
theorem err_row (u:TypeId) (h:Tryz.prog.typeName? 3 u=some "*errors.errorString"):u=261:=
 typeName_ptr_named (nm:= "errors.errorString") (by rw [err_star];kernel_rfl) (by kernel_rfl) (by decide) u (by rw [err_star];exact h)
theorem tab_of_laid {W:World} (h:laidMetH Tryz.prog Rows.fnFormatProgramRow.laid W):Tab2 W:=by
 rw [MakeChecks.laidMetH_plain _ _ _ (by kernel_rfl)] at h
 have h3:laidMet Tryz.prog (("math/bits.deBruijn32tab",Rows.laid_math_bits_deBruijn32tab) ::("math/bits.deBruijn64tab",Rows.laid_math_bits_deBruijn64tab) ::("internal/strconv.uint64pow10",Lib.tabData .u64 Lib.pow10Tab) ::
  ("unicode/utf8.acceptRanges",Rows.laid_unicode_utf8_acceptRanges) ::("strconv.ErrRange",Rows.laid_strconv_ErrRange) ::("strconv.ErrSyntax",Rows.laid_strconv_ErrSyntax) ::Rows.fnFormatProgramRow.laid.drop 6) W:=h
 refine ⟨Lib.tabIs_of_head (g:=0) (t:=233) (e:=199) (n:=20) (by kernel_rfl) (by kernel_rfl) (by kernel_rfl) (by kernel_rfl) (by kernel_rfl) (by kernel_rfl) h3.tail.tail,?_,?_⟩
 ·obtain ⟨a0,s0,hv0,_⟩:=laid_sentinel (g:=2) (ti:=64) (tp:=261) (te:=263) (ts:=9) h3.tail.tail.tail.tail.tail (by kernel_rfl) (by kernel_rfl) Tryz.underlying64 err_row Tryz.underlying261 Tryz.underlying263 rfl rfl (by kernel_rfl) (by kernel_rfl) (by kernel_rfl)
  exact ⟨_,_,hv0⟩
 ·obtain ⟨a0,s0,hv0,_⟩:=laid_sentinel (g:=3) (ti:=64) (tp:=261) (te:=263) (ts:=9) h3.tail.tail.tail.tail (by kernel_rfl) (by kernel_rfl) Tryz.underlying64 err_row Tryz.underlying261 Tryz.underlying263 rfl rfl (by kernel_rfl) (by kernel_rfl) (by kernel_rfl)
  exact ⟨_,_,hv0⟩
theorem tab3_of {W:World} (h:laidMetH Tryz.prog Rows.fnFormatProgramRow.laid W) (hs:W.ShapedOpen Tryz.prog):Tab3 W:=
 ⟨tab_of_laid h,cell_of_shapedOpen_int (zero:=#[.int .i64 0]) (t:=3) hs (of_decide_eq_true (by kernel_rfl)) (by kernel_rfl) rfl (by kernel_rfl) (by kernel_rfl) Tryz.underlying3⟩
section
variable {H:Type} {enc:TypeId×Value→H}
theorem returns_shaped {a:Assume} {C:Checked} {os:Os} {f:FuncId} {fn:Func} {s:ChangeSpec} {conds:List PathCond} {apart fresh handsOn again:Bool} {X:World→Array Value→Prop}
  (hX:∀ (w w':World) (args:Array Value),w.heap=w'.heap→X w args→X w' args)
  (own:ownKnob C.prog.godebug=none) (started:os.Started) (noInit:C.prog.inits.idxOf? f=none) (hfn:C.prog.funcs[f]?=some fn)
  (witness:∃ (w:World) (tape:Tape) (i:Input),w.os=os∧(w.forCall tape i).Shaped C.prog∧i.vars=[]∧Input.okWide C.prog (w.forCall tape i) .any w.heap.size f i∧
   ((s.pre enc C.prog fn conds apart (w.forCall tape i).memory i.args∧X (w.forCall tape i).memory i.args)∧sizedMet enc C.prog fn (OpenSpec.ofChange s) apart (w.forCall tape i).memory i.args)∧a.holds C.prog (lone (Frame.enter C.prog f i.args .normal) [] (w.forCall tape i)))
  (contract:∀ (W:World) (base:Nat) (args:Array Value) (ds gs:List (DataW H)) (before:List MemPlace),
   (∀ (j:Nat) t v,fn.params[j]?=some t→args[j]?=some v→Value.okWide C.prog W .any base t v)→
   DataW.Whole enc C.prog fn.params.toList s.vars apart W args.toList ds gs before→
   X W args→W.ShapedOpen C.prog→
   Calls C.prog f args W fun e W'=>∃ v,e=.returned v∧s.post enc C.prog fn apart fresh handsOn again W args v W'):
  ReturnsInHanded a C os f .any (fun w args=>(s.pre enc C.prog fn conds apart w args∧X w args)∧sizedMet enc C.prog fn (OpenSpec.ofChange s) apart w args) (s.post enc C.prog fn apart fresh handsOn again):=by
 refine returnsInHanded_of_calls own started noInit witness ?_
 intro w tape i _ hsh _ hok hpre _
 obtain ⟨_,_,_,fn',hfn',_,_,_,_,hval⟩:=hok
 have e:fn'=fn:=Option.some.inj (hfn'.symm.trans hfn)
 subst e
 obtain ⟨⟨⟨ds,gs,before,hw,hc⟩,hx⟩,hz⟩:=hpre
 have hw':=DataW.Whole.of_heap (w':=w.forCall tape i) (by rfl) hw
 refine (contract (w.forCall tape i) w.heap.size i.args ds gs before hval hw' (hX _ _ _ (by rfl) hx) hsh).mono fun e W' ⟨v,he,hp⟩=>?_
 subst he
 exact ChangeSpec.post_blind hp
end
set_option maxRecDepth 100000 in
theorem fnFormatProgram_lifted (os:Os) (started:os.Started) (H:Type) (enc:TypeId×Value→H):
  ReturnsInHanded {} Tryz.checked os 8 .any (fun w args=>(Rows.fnFormatProgramSpec.pre enc Tryz.prog Tryz.f8 [] false w args∧laidMetH Tryz.prog Rows.fnFormatProgramRow.laid w)∧sizedMet enc Tryz.prog Tryz.f8 (OpenSpec.ofChange Rows.fnFormatProgramSpec) false w args)
   (Rows.fnFormatProgramSpec.post enc Tryz.prog Tryz.f8 false true false false):=by
 refine returns_shaped (C:=Tryz.checked) (X:=fun w _=>laidMetH Tryz.prog Rows.fnFormatProgramRow.laid w) (fun _ _ _ hh h=>h.of_heap hh) Tryz.own started (by kernel_rfl) Tryz.func8
  (ChangeSpec.witness_shaped (enc:=enc) (C:=Tryz.checked) (os:=os) (X:=fun w _=>laidMetH Tryz.prog Rows.fnFormatProgramRow.laid w) false (World.laidAll Tryz.prog os Rows.fnFormatProgramRow.laid) #[.slice none 0 0] 8 (World.laidAll_os _ _ _)
   (World.shaped_of_ZipB (by kernel_rfl) (by kernel_rfl)) (by kernel_rfl) (by kernel_rfl) (by kernel_rfl)
   (by rw [MakeChecks.laidMetH_plain _ _ _ (by kernel_rfl)];exact laidMet_laidAll _ (by kernel_rfl) (by kernel_rfl))) ?_
 intro W base args ds gs before hval0 hW hL hSh
 have hval:∀ (j:Nat) t v,Tryz.f8.params[j]?=some t→args[j]?=some v→Value.okWide Tryz.prog W .any base t v:=hval0
 have hW':=hW
 obtain ⟨p,q,hA0,hV,rfl,hfz,hnd⟩:=hW
 have hA:DataW.TrodAll enc Tryz.prog W 0 (fun _=>true) true Tryz.f8.params.toList args.toList ds p:=hA0
 rw [Tryz.params8] at hA hval
 obtain ⟨v0,d0,rfl,rfl,h0⟩:=trodAll_one hA
 obtain ⟨rfl,rfl⟩:=trodVars_none hV
 obtain ⟨a0,len,cap,rfl⟩:=okWide_slice Tryz.underlying39 (hval 0 39 v0 rfl rfl)
 have h0k:=h0
 obtain ⟨fuel,hf⟩:=h0
 have hbs:∃ bs:List UInt8,Bytes W ⟨a0,len,cap⟩ bs:=by
  rcases open_ints Tryz.underlying39 Tryz.underlying5 Tryz.cells5 hf with ⟨hcs,_⟩|⟨ad,len',cap',zs,hcs,_,hl,_,hz,_,hcell,hwz⟩
  ·simp [Value.cells] at hcs
   obtain ⟨rfl,rfl,rfl⟩:=hcs
   exact ⟨[],Rows.nil_ W 1⟩
  ·simp [Value.cells] at hcs
   obtain ⟨rfl,rfl,rfl⟩:=hcs
   simp only [if_true] at hz
   refine ⟨(zs.take len).map fun n=>UInt8.ofNat n.toNat,by simp;omega,hl,fun i r hr=>⟨rfl,fun j u hu=>?_⟩⟩
   simp only [List.map_map,List.getElem?_map,Option.map_eq_some_iff] at hr
   obtain ⟨n,hn,rfl⟩:=hr
   have hj:j=0:=by
    rcases Nat.eq_zero_or_pos j with h|h
    ·exact h
    ·rw [List.getElem?_eq_none (by simp;omega)] at hu;cases hu
   subst hj
   simp only [Function.comp,List.getElem?_cons_zero,Option.some.injEq] at hu
   subst hu
   have hi:i < len:=by
    rcases Nat.lt_or_ge i len with h|h
    ·exact h
    ·rw [List.getElem?_eq_none (by simp;omega)] at hn;cases hn
   rw [List.getElem?_take,if_pos hi] at hn
   have hc:=hcell i (by omega)
   have hg:zs.getD i 0=n:=by simp [List.getD,hn]
   rw [hg] at hc
   have hwf:=hwz n (List.mem_of_getElem? hn)
   have hb:0≤n∧n≤255:=by simpa [Lit.wf,IntKind.min,IntKind.max,IntKind.signed,IntKind.bits] using hwf
   have e:((UInt8.ofNat n.toNat).toNat:Int)=n:=by simp;omega
   show W.cell? ((elA ⟨some ad,len,cap⟩ i 1).add 0)=some (.int .u8 ((UInt8.ofNat n.toNat).toNat:Int))
   rw [e]
   simpa [elA,Addr.add] using hc
 obtain ⟨bs,hbs⟩:=hbs
 refine ((l_FormatProgram (tab3_of hL hSh) hbs).2 W (.refl W)).mono fun e W' ⟨r,v',he,hfr,hr,hsub⟩=>?_
 subst he;subst hr
 have hb:=below_of_fr hfr hsub
 have hlt:∀ y∈p,y.block < W.heap.size:=fun y hy=>hW'.lt y (by simpa using hy)
 exact ⟨_,rfl,post_below (pa:=p) (pv:=[]) hW' (fun _ _ _=>trodAll_mk1 (shut_bool Tryz.underlying4 true))
  (fun sp hsp=>trodAll_mk1 (WideElems.Trod_stays Tryz.laidOut (by kernel_rfl) (of_decide_eq_true (by kernel_rfl)) h0k (fun x hx=>hb.same (hlt x hx)) (fun x hx=>hsp x (by simpa using hx))))
  (fun _ _=>rfl) (by simp) hb (ok_one (by kernel_rfl) rfl (okWide_bool_mk Tryz.underlying4 true))⟩
theorem fnFormatProgram_closed:joinedFacts Tryz.pinned.checked.prog 8 Tryz.f8 Rows.fnFormatProgramSpec Rows.fnFormatProgramRow=true:=by kernel_rfl
theorem fnFormatProgram_named:Tryz.pinned.checked.prog.funcNamed Rows.fnFormatProgramRow.func=some 8:=by kernel_rfl
theorem fnFormatProgram_inst:Tryz.f8.isInstance Tryz.pinned.checked.prog Rows.fnFormatProgramRow.origin Rows.fnFormatProgramRow.targs:=of_decide_eq_true (by kernel_rfl)
theorem fnFormatProgram_wrap:Tryz.f8.isWrapper Tryz.pinned.checked.prog Rows.fnFormatProgramRow.wrapper Rows.fnFormatProgramRow.mainSum:=by unfold Func.isWrapper;first|(rw [if_pos (by decide +kernel)];kernel_rfl)|(rw [if_neg (by decide +kernel)];exact ⟨rfl,rfl⟩)
theorem FnFormatProgram_row:Rows.FnFormatProgramSaid:=
 OpenClaim.holds_of_wide 8 Tryz.f8 rfl rfl rfl rfl rfl rfl rfl ⟨rfl,rfl,rfl,rfl,rfl⟩ rfl rfl rfl rfl rfl fnFormatProgram_named Tryz.func8 fnFormatProgram_closed fnFormatProgram_inst fnFormatProgram_wrap
  (fun os started H enc _=>fnFormatProgram_lifted os started H enc)
theorem fnFormatProgram_plain (f:FuncId) (fn:Func) (hf:Tryz.pinned.checked.prog.funcNamed "loop.example/refcountml/laws.FnFormatProgram" = some f) (hfn:Tryz.pinned.checked.prog.funcs[f]?=some fn):
  true=Tryz.pinned.checked.prog.looks []∧∀ (j:Nat) t,fn.params[j]?=some t→Tryz.pinned.checked.prog.wantsStandIn t=false:=by
 obtain rfl:f=8:=Option.some.inj ((show Tryz.prog.funcNamed "loop.example/refcountml/laws.FnFormatProgram" = some 8 by kernel_rfl).symm.trans hf) |>.symm
 obtain rfl:fn=Tryz.f8:=(Option.some.inj (Tryz.func8.symm.trans hfn)).symm
 refine ⟨by kernel_rfl,fun j t ht=>?_⟩
 rw [Tryz.params8] at ht
 obtain rfl:t=39:=by simpa using Array.mem_of_getElem? ht
 exact (show Tryz.prog.wantsStandIn 39=false by kernel_rfl)
theorem FnFormatProgram_holds:Rows.FnFormatProgramCardSaid:=
 Claim7.holds_tied_plain_at .later [] _ _ _ _ FnFormatProgram_row (fun _ h=>by cases h) (by kernel_rfl) (fun _ h=>by cases h) fnFormatProgram_row_tie rfl ⟨rfl,rfl⟩ (by kernel_rfl) rfl fnFormatProgram_plain (by kernel_rfl)
end Go.Proofs.YtelgbndeeccblaaGreatDoor
