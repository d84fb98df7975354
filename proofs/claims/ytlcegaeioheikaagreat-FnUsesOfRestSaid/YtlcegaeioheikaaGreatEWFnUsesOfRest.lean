/- Part of the proofs about the heaps and memories: a law is joined in the text whose name ends in W and the law. -/
import Derived.Test.YtlcegaeioheikaaGreatEWC
import Derived.Test.YtlcegaeioheikaaGreatEK7
set_option linter.all false
namespace Go.Proofs.YtlcegaeioheikaaGreat
open Go.ChangeShapes Go.WideShapes Go.ChangeAt Go.RowKit Go.Vc
set_option maxRecDepth 100000 in
theorem fnUsesOfRest_lifted (main:LawTrue Tryz.prog 4) (os:Os) (started:os.Started) (H:Type) (enc:TypeId×Value→H):
  ReturnsInHanded {} Tryz.checked os 4 .any (Rows.fnUsesOfRestSpec.pre6 enc Tryz.prog Tryz.f4 Rows.fnUsesOfRestRow.domain false) (Rows.fnUsesOfRestSpec.post enc Tryz.prog Tryz.f4 false true false false):=by
 refine returnsInHanded_of_change (C:=Tryz.checked) Tryz.own started (by kernel_rfl) Tryz.func4
  (ChangeSpec.witness6 (enc:=enc) (C:=Tryz.checked) false ⟨#[],#[.slice none 0 0],[]⟩ 8 (by kernel_rfl) (by kernel_rfl) (by kernel_rfl) (by kernel_rfl)) ?_
 intro W base args ds gs before hval0 hW hcnd _
 have hval:∀ (j:Nat) t v,Tryz.f4.params[j]?=some t→args[j]?=some v→Value.okWide Tryz.prog W .any base t v:=hval0
 have hW':=hW
 obtain ⟨p,q,hA0,hV,rfl,hfz,hnd⟩:=hW
 have hA:DataW.TrodAll enc Tryz.prog W 0 (fun _=>true) true Tryz.f4.params.toList args.toList ds p:=hA0
 rw [Tryz.params4] at hA hval
 obtain ⟨v0,d0,rfl,rfl,h0⟩:=trodAll_one hA
 obtain ⟨rfl,rfl⟩:=trodVars_none hV
 obtain ⟨a0,len,cap,rfl⟩:=okWide_slice Tryz.underlying22 (hval 0 22 v0 rfl rfl)
 have h0k:=h0
 obtain ⟨fuel,hf⟩:=h0
 have hbs:∃ bs:List UInt8,Bytes W ⟨a0,len,cap⟩ bs:=by
  rcases open_ints Tryz.underlying22 Tryz.underlying5 Tryz.cells5 hf with ⟨hcs,_⟩|⟨ad,len',cap',zs,hcs,_,hl,_,hz,_,hcell,hwz⟩
  ·simp [Value.cells] at hcs
   obtain ⟨rfl,rfl,rfl⟩:=hcs
   exact ⟨[],Rows.nil_ W 1⟩
  ·simp [Value.cells] at hcs
   obtain ⟨rfl,rfl,rfl⟩:=hcs
   simp only [if_true] at hz
   refine ⟨(zs.take len).map fun n=>UInt8.ofNat n.toNat,by simp;omega,hl,fun i r hr=>⟨rfl,fun j u hu=>?_⟩⟩
   simp only [List.map_map,List.getElem?_map,Option.map_eq_some_iff] at hr
   obtain ⟨n,hn,rfl⟩:=hr
   have hj:j=0:=by
    rcases Nat.eq_zero_or_pos j with h|h
    ·exact h
    ·rw [List.getElem?_eq_none (by simp;omega)] at hu;cases hu
   subst hj
   simp only [Function.comp,List.getElem?_cons_zero,Option.some.injEq] at hu
   subst hu
   have hi:i < len:=by
    rcases Nat.lt_or_ge i len with h|h
    ·exact h
    ·rw [List.getElem?_eq_none (by simp;omega)] at hn;cases hn
   rw [List.getElem?_take,if_pos hi] at hn
   have hc:=hcell i (by omega)
   have hg:zs.getD i 0=n:=by simp [List.getD,hn]
   rw [hg] at hc
   have hwf:=hwz n (List.mem_of_getElem? hn)
   have hb:0≤n∧n≤255:=by simpa [Lit.wf,IntKind.min,IntKind.max,IntKind.signed,IntKind.bits] using hwf
   have e:((UInt8.ofNat n.toNat).toNat:Int)=n:=by simp;omega
   show W.cell? ((elA ⟨some ad,len,cap⟩ i 1).add 0)=some (.int .u8 ((UInt8.ofNat n.toNat).toNat:Int))
   rw [e]
   simpa [elA,Addr.add] using hc
 obtain ⟨bs,hbs⟩:=hbs
 refine ((main W ⟨a0,len,cap⟩ bs hbs).2 W (.refl W)).mono fun e W' ⟨r,v',he,hfr,hr,hsub⟩=>?_
 subst he;subst hr
 have hb:=below_of_fr hfr hsub
 have hlt:∀ y∈p,y.block < W.heap.size:=fun y hy=>hW'.lt y (by simpa using hy)
 exact ⟨_,rfl,post_below (pa:=p) (pv:=[]) hW' (fun _ _ _=>trodAll_mk1 (shut_bool Tryz.underlying4 true))
  (fun sp hsp=>trodAll_mk1 (WideElems.Trod_stays Tryz.laidOut (by kernel_rfl) (of_decide_eq_true (by kernel_rfl)) h0k (fun x hx=>hb.same (hlt x hx)) (fun x hx=>hsp x (by simpa using hx))))
  (fun _ _=>rfl) (by simp) hb (ok_one (by kernel_rfl) rfl (okWide_bool_mk Tryz.underlying4 true))⟩
theorem FnUsesOfRest_holds:Rows.FnUsesOfRestSaid:=
 OpenClaim.holds_of_wide 4 Tryz.f4 rfl rfl rfl rfl rfl rfl rfl ⟨rfl,rfl,rfl,rfl,rfl⟩ rfl rfl rfl rfl rfl (by kernel_rfl) Tryz.func4 (by kernel_rfl)
  (of_decide_eq_true (by kernel_rfl)) (by unfold Func.isWrapper;first|(rw [if_pos (by decide +kernel)];kernel_rfl)|(rw [if_neg (by decide +kernel)];exact ⟨rfl,rfl⟩))
  (fun os started H enc _=>fnUsesOfRest_lifted l_UsesOfRest os started H enc)
end Go.Proofs.YtlcegaeioheikaaGreat
