/- Part of the proofs about the heaps and memories: a law is joined in the text whose name ends in W and the law. -/
import Derived.Test.YtelgbndeeccblaaGreatDoorEU2
import Derived.Test.YtelgbndeeccblaaGreatDoorEU3
import Derived.Test.YtelgbndeeccblaaGreatDoorES5
set_option linter.all false
namespace Go.Vc
open Go Go.Proofs Go.RowKit
section
variable {u v w:World} {x y z t:Sl} {l m:List DeclD} {ds ds':List DeclD} {fs fs':List FunD} {i:Int}
theorem con_ext {c d:ConD} (h:c.fields=d.fields):c=d:=by cases c;cases d;simp only at h;rw [h]
theorem c_equalDecls (hx:Read v x l) (hy:Read v y m):Fn Tryz.prog 66 #[x.val,y.val] v (.bool (decide (l=m))):=by
 refine of66 _ _ _ _ ?_
 unfold vc66
 have hn:=hx.n
 have hm:=hy.n
 have hl:=hx.le
 refine ⟨fun hc=>⟨?_,.refl v⟩,fun hc=>?_⟩
 ·rw [decide_eq_false (fun h=>by rw [h] at hn;simp at hc;omega)]
 have hlen:l.length=m.length:=by simp at hc;omega
 refine ⟨fun i w=>v=w∧0≤i∧i≤l.length∧l.take i.toNat=m.take i.toNat,fun i _=>(l.length - i).toNat,⟨rfl,by omega,by omega,by simp⟩,?_⟩
 rintro i _ ⟨rfl,h0,h1,h2⟩
 dsimp only
 refine ⟨fun hi=>?_,fun hi=>?_⟩
 ·simp only [bls] at hi
  have hil:i < l.length:=by omega
  have him:i < m.length:=by omega
  obtain ⟨f,⟨a0,a1,a2⟩,rf⟩:=rowDeclD hx h0 hil
  obtain ⟨g,⟨b0,b1,b2⟩,rg⟩:=rowDeclD hy h0 him
  have ix:=hx.ix h0 hil
  have iy:=hy.ix h0 him
  have hfn:=rf.n
  have hgn:=rg.n
  have hfl:(nth l i).cons.length≤1099511627776:=rf.le
  refine ⟨ix,_,a0,iy,_,b0,fun _=>ix,_,fun _=>a1,fun _=>iy,_,fun _=>b1,fun _=>ix,f,fun _=>a2,fun _=>iy,g,fun _=>b2,fun hq=>?_,fun hq=>?_⟩
  ·refine ⟨?_,.refl v⟩
   rw [decide_eq_false]
   intro he
   have e1:nth l i=nth m i:=by rw [he]
   rw [e1] at hq hfn
   rw [hfn,hgn] at hq
   simp at hq
  ·simp only [bls] at hq
   obtain ⟨⟨e1,e2⟩,e3⟩:=hq
   have hcl:(nth l i).cons.length=(nth m i).cons.length:=by omega
   refine ⟨fun k w=>v=w∧0≤k∧k≤(nth l i).cons.length∧(nth l i).cons.take k.toNat=(nth m i).cons.take k.toNat,fun k _=>((nth l i).cons.length - k).toNat,⟨rfl,by omega,by omega,by simp⟩,?_⟩
   rintro k _ ⟨rfl,k0,k1,k2⟩
   dsimp only
   refine ⟨ix,f,a2,fun hk=>?_,fun hk=>?_⟩
   ·simp only [bls] at hk
    have hkl:k < (nth l i).cons.length:=by omega
    have hkm:k < (nth m i).cons.length:=by omega
    obtain ⟨p,c0,rp⟩:=(rf.src (.refl v)).ofConD k0 hkl
    obtain ⟨q,d0,rq⟩:=(rg.src (.refl v)).ofConD k0 hkm
    refine ⟨ix,f,a2,rf.ix k0 hkl,p,c0,iy,g,b2,rg.ix k0 hkm,q,d0,_,c_equalInts rp rq,fun hq=>?_,fun hq=>?_⟩
    ·refine ⟨?_,.refl v⟩
     rw [decide_eq_false]
     intro he
     have e4:(nth l i)=(nth m i):=by rw [he]
     rw [e4] at hq
     simp at hq
    ·have he:(nth (nth l i).cons k).fields=(nth (nth m i).cons k).fields:=by simpa using hq
     refine go_wr (by omega) (by omega) ⟨⟨rfl,by omega,by omega,?_⟩,by omega⟩
     rw [take_nth k0 hkl,take_nth k0 hkm,k2,con_ext he]
   ·simp only [bls] at hk
    rw [take_all (by omega),take_all (by omega)] at k2
    have he:nth l i=nth m i:=by
     generalize nth l i=c at e1 e2 k2
     generalize nth m i=d at e1 e2 k2
     obtain ⟨c1,c2,c3⟩:=c
     obtain ⟨d1,d2,d3⟩:=d
     simp only at e1 e2 k2
     rw [e1,e2,k2]
    refine go_wr (by omega) (by omega) ⟨⟨rfl,by omega,by omega,?_⟩,by omega⟩
    rw [take_nth h0 hil,take_nth h0 him,h2,he]
 ·simp only [bls] at hi
  rw [take_all (by omega),take_all (by omega)] at h2
  exact ⟨by rw [decide_eq_true h2],.refl v⟩
theorem c_equalProgram (hx:Read v x ds) (hy:Read v y fs) (hz:Read v z ds') (ht:Read v t fs'):Fn Tryz.prog 28 #[.agg #[x.val,y.val],.agg #[z.val,t.val]] v (.bool (decide (ds=ds') && decide (fs=fs'))):=by
 refine of28 _ _ _ _ _ _ ?_
 unfold vc28
 have hn:=hy.n
 have hm:=ht.n
 have hl:=hy.le
 refine ⟨_,c_equalDecls hx hz,fun hc=>?_,fun hc=>?_⟩
 ·refine ⟨?_,.refl v⟩
  by_cases hd:ds=ds'
  ·rw [decide_eq_true hd] at hc
   simp only [bls] at hc
   rw [decide_eq_false (p:=fs=fs') (fun h=>by rw [h] at hn;omega),Bool.and_false]
  ·rw [decide_eq_false hd,Bool.false_and]
 simp only [bls] at hc
 obtain ⟨hd,hlen'⟩:=hc
 have hlen:fs.length=fs'.length:=by omega
 rw [decide_eq_true hd,Bool.true_and]
 refine ⟨fun i w=>v=w∧0≤i∧i≤fs.length∧fs.take i.toNat=fs'.take i.toNat,fun i _=>(fs.length - i).toNat,⟨rfl,by omega,by omega,by simp⟩,?_⟩
 rintro i _ ⟨rfl,h0,h1,h2⟩
 dsimp only
 refine ⟨fun hi=>?_,fun hi=>?_⟩
 ·simp only [bls] at hi
  have hil:i < fs.length:=by omega
  have him:i < fs'.length:=by omega
  obtain ⟨f,k,⟨a0,a1,a2,a3,a4⟩,rf,rk⟩:=rowFunD hy h0 hil
  obtain ⟨g,h,⟨b0,b1,b2,b3,b4⟩,rg,rh⟩:=rowFunD ht h0 him
  have ix:=hy.ix h0 hil
  have iy:=ht.ix h0 him
  refine ⟨ix,f,a0,iy,g,b0,_,c_equalInts rf rg,fun _=>ix,_,fun _=>a1,fun _=>iy,_,fun _=>b1,fun _=>ix,_,_,k,fun _=>⟨a2,a3,a4⟩,fun _=>iy,_,_,h,fun _=>⟨b2,b3,b4⟩,_,fun _=>c_equalExpr (nth fs i).body v (nth fs' i).body k h rk rh,fun hq=>?_,fun hq=>?_⟩
  ·refine ⟨?_,.refl v⟩
   rw [decide_eq_false]
   intro he
   have e1:nth fs i=nth fs' i:=by rw [he]
   rw [e1] at hq
   simp at hq
  ·simp only [bls] at hq
   obtain ⟨⟨e1,e2⟩,e3⟩:=hq
   have he:nth fs i=nth fs' i:=by
    generalize nth fs i=c at e1 e2 e3
    generalize nth fs' i=d at e1 e2 e3
    obtain ⟨c1,c2,c3⟩:=c
    obtain ⟨d1,d2,d3⟩:=d
    simp only at e1 e2 e3
    rw [e1,e2,e3]
   refine go_wr (by omega) (by omega) ⟨rfl,rfl,rfl,rfl,⟨rfl,by omega,by omega,?_⟩,by omega⟩
   rw [take_nth h0 hil,take_nth h0 him,h2,he]
 ·simp only [bls] at hi
  rw [take_all (by omega),take_all (by omega)] at h2
  exact ⟨by rw [decide_eq_true h2],.refl v⟩
theorem shP_len (hp:prgOk ds fs):(shP ds fs).length≤10000:=by
 have h1:=flatU_len (l:=ds) (f:=shD) (N:=300) fun d hm=>shD_len (sm_decl hp.1.1 d hm)
 have h2:=flatU_len (l:=fs) (f:=shF) (N:=600) fun d hm=>shF_len (sm_fun hp d hm)
 have h3:=hp.1.1.1
 have h4:=hp.1.2.2.1
 rw [List.length_map] at h4
 unfold shP
 rw [List.length_append]
 omega
theorem l_FormatProgram {bs:List UInt8} (hT:Tab3 v) (hb:Bytes v x bs):Trip Tryz.prog 8 #[x.val] v fun r v'=>r=.bool true∧Sub v v':=by
 refine of8 _ _ _ ?_
 unfold vc8
 refine ⟨fun hc=>⟨rfl,.refl v⟩,fun hc=>?_⟩
 simp only [bls] at hc
 have hcode:=hb.read (by omega)
 refine (c_DrawFormatProgram hcode).mono' ?_
 rintro _ w1 ⟨px,py,rfl,a,mm,u2,ds,fs,hu2,h,hx,hy⟩
 refine ⟨px,py,rfl,?_⟩
 have hxw:=hx.mono h.sub
 have hyw:=hy.mono h.sub
 have hsub:Sub v w1:=hu2.trans h.sub
 have hG:=c_specFormatProgram hxw hyw
 refine ⟨_,c_implFormatProgram (hT.mono hsub).1.1 hxw hyw,_,hG,fun hc=>⟨_,hG,?_,hsub⟩,fun hc=>?_⟩
 ·rw [seq_self]
 rw [seq_self,str_eqB _ _ (m:=[]) rfl] at hc
 simp only [bls] at hc
 have hp:prgOk ds fs:=by
  apply Classical.byContradiction
  intro hn
  have:fmtP ds fs=[]:=by unfold fmtP;rw [if_neg (fun h=>hn (pB_iff.1 h))]
  rw [this] at hc
  simp at hc
 have he:fmtP ds fs=shP ds fs:=by unfold fmtP;rw [if_pos (pB_iff.2 hp)]
 rw [he]
 have hlen:=shP_len hp
 refine (c_ParseProgramI (hT.mono hsub) (by omega)).mono' ?_
 rintro _ w2 ⟨ds2,fs2,x2,y2,ok,J,K,G,rfl,hO1,hO2,hS2,hPP⟩
 obtain ⟨q1,q2,q3⟩:=hPP.ok hp rfl
 subst q1;subst q2;subst q3
 refine ⟨x2,y2,_,rfl,_,fun _=>c_equalProgram (hO1.read hS2) (hO2.read hS2) (hxw.mono hS2.sub) (hyw.mono hS2.sub),?_,hsub.trans hS2.sub⟩
 simp
end
end Go.Vc
namespace Go.Vc
open Go Go.Proofs Go.RowKit
section
variable {u v w:World} {x y z f:Sl} {ds:List DeclD} {fs:List FunD} {d:DeclD} {I L R:Items} {F:Items→Items}
end
section
variable {u v w:World} {x y z:Sl} {bs:List UInt8}
end
end Go.Vc
