/- Part of the proofs about the heaps and memories: a law is joined in the text whose name ends in W and the law. -/
import Derived.Test.YtelgbndeeccblaaGreatDoorEU2
import Derived.Test.YtelgbndeeccblaaGreatDoorEU3
import Derived.Test.YtelgbndeeccblaaGreatDoorES5
set_option linter.all false
namespace Go.Vc
open Go Go.Proofs Go.RowKit
section
variable {u v w:World} {x y z t:Sl} {l m:List DeclD} {ds ds':List DeclD} {fs fs':List FunD} {i:Int}
theorem con_ext {c d:ConD} (h:c.fields=d.fields):c=d:=by cases c;cases d;simp only at h;rw [h]
theorem c_equalDecls (hx:Read v x l) (hy:Read v y m):Fn Tryz.prog 66 #[x.val,y.val] v (.bool (decide (l=m))):=by
 refine of66 _ _ _ _ ?_
 unfold vc66
 have hn:=hx.n
 have hm:=hy.n
 have hl:=hx.le
 refine ⟨fun hc=>⟨?_,.refl v⟩,fun hc=>?_⟩
 ·rw [decide_eq_false (fun h=>by rw [h] at hn;simp at hc;omega)]
 have hlen:l.length=m.length:=by simp at hc;omega
 refine ⟨fun i w=>v=w∧0≤i∧i≤l.length∧l.take i.toNat=m.take i.toNat,fun i _=>(l.length - i).toNat,⟨rfl,by omega,by omega,by simp⟩,?_⟩
 rintro i _ ⟨rfl,h0,h1,h2⟩
 dsimp only
 refine ⟨fun hi=>?_,fun hi=>?_⟩
 ·simp only [bls] at hi
  have hil:i < l.length:=by omega
  have him:i < m.length:=by omega
  obtain ⟨f,⟨a0,a1,a2⟩,rf⟩:=rowDeclD hx h0 hil
  obtain ⟨g,⟨b0,b1,b2⟩,rg⟩:=rowDeclD hy h0 him
  have ix:=hx.ix h0 hil
  have iy:=hy.ix h0 him
  have hfn:=rf.n
  have hgn:=rg.n
  have hfl:(nth l i).cons.length≤1099511627776:=rf.le
  refine ⟨ix,_,a0,iy,_,b0,fun _=>ix,_,fun _=>a1,fun _=>iy,_,fun _=>b1,fun _=>ix,f,fun _=>a2,fun _=>iy,g,fun _=>b2,fun hq=>?_,fun hq=>?_⟩
  ·refine ⟨?_,.refl v⟩
   rw [decide_eq_false]
   intro he
   have e1:nth l i=nth m i:=by rw [he]
   rw [e1] at hq hfn
   rw [hfn,hgn] at hq
   simp at hq
  ·simp only [bls] at hq
   obtain ⟨⟨e1,e2⟩,e3⟩:=hq
   have hcl:(nth l i).cons.length=(nth m i).cons.length:=by omega
   refine ⟨fun k w=>v=w∧0≤k∧k≤(nth l i).cons.length∧(nth l i).cons.take k.toNat=(nth m i).cons.take k.toNat,fun k _=>((nth l i).cons.length - k).toNat,⟨rfl,by omega,by omega,by simp⟩,?_⟩
   rintro k _ ⟨rfl,k0,k1,k2⟩
   dsimp only
   refine ⟨ix,f,a2,fun hk=>?_,fun hk=>?_⟩
   ·simp only [bls] at hk
    have hkl:k < (nth l i).cons.length:=by omega
    have hkm:k < (nth m i).cons.length:=by omega
    obtain ⟨p,c0,rp⟩:=(rf.src (.refl v)).ofConD k0 hkl
    obtain ⟨q,d0,rq⟩:=(rg.src (.refl v)).ofConD k0 hkm
    refine ⟨ix,f,a2,rf.ix k0 hkl,p,c0,iy,g,b2,rg.ix k0 hkm,q,d0,_,c_equalInts rp rq,fun hq=>?_,fun hq=>?_⟩
    ·refine ⟨?_,.refl v⟩
     rw [decide_eq_false]
     intro he
     have e4:(nth l i)=(nth m i):=by rw [he]
     rw [e4] at hq
     simp at hq
    ·have he:(nth (nth l i).cons k).fields=(nth (nth m i).cons k).fields:=by simpa using hq
     refine go_wr (by omega) (by omega) ⟨⟨rfl,by omega,by omega,?_⟩,by omega⟩
     rw [take_nth k0 hkl,take_nth k0 hkm,k2,con_ext he]
   ·simp only [bls] at hk
    rw [take_all (by omega),take_all (by omega)] at k2
    have he:nth l i=nth m i:=by
     generalize nth l i=c at e1 e2 k2
     generalize nth m i=d at e1 e2 k2
     obtain ⟨c1,c2,c3⟩:=c
     obtain ⟨d1,d2,d3⟩:=d
     simp only at e1 e2 k2
     rw [e1,e2,k2]
    refine go_wr (by omega) (by omega) ⟨⟨rfl,by omega,by omega,?_⟩,by omega⟩
    rw [take_nth h0 hil,take_nth h0 him,h2,he]
 ·simp only [bls] at hi
  rw [take_all (by omega),take_all (by omega)] at h2
  exact ⟨by rw [decide_eq_true h2],.refl v⟩
theorem c_equalProgram (hx:Read v x ds) (hy:Read v y fs) (hz:Read v z ds') (ht:Read v t fs'):Fn Tryz.prog 28 #[.agg #[x.val,y.val],.agg #[z.val,t.val]] v (.bool (decide (ds=ds') && decide (fs=fs'))):=by
 refine of28 _ _ _ _ _ _ ?_
 unfold vc28
 have hn:=hy.n
 have hm:=ht.n
 have hl:=hy.le
 refine ⟨_,c_equalDecls hx hz,fun hc=>?_,fun hc=>?_⟩
 ·refine ⟨?_,.refl v⟩
  by_cases hd:ds=ds'
  ·rw [decide_eq_true hd] at hc
   simp only [bls] at hc
   rw [decide_eq_false (p:=fs=fs') (fun h=>by rw [h] at hn;omega),Bool.and_false]
  ·rw [decide_eq_false hd,Bool.false_and]
 simp only [bls] at hc
 obtain ⟨hd,hlen'⟩:=hc
 have hlen:fs.length=fs'.length:=by omega
 rw [decide_eq_true hd,Bool.true_and]
 refine ⟨fun i w=>v=w∧0≤i∧i≤fs.length∧fs.take i.toNat=fs'.take i.toNat,fun i _=>(fs.length - i).toNat,⟨rfl,by omega,by omega,by simp⟩,?_⟩
 rintro i _ ⟨rfl,h0,h1,h2⟩
 dsimp only
 refine ⟨fun hi=>?_,fun hi=>?_⟩
 ·simp only [bls] at hi
  have hil:i < fs.length:=by omega
  have him:i < fs'.length:=by omega
  obtain ⟨f,k,⟨a0,a1,a2,a3,a4⟩,rf,rk⟩:=rowFunD hy h0 hil
  obtain ⟨g,h,⟨b0,b1,b2,b3,b4⟩,rg,rh⟩:=rowFunD ht h0 him
  have ix:=hy.ix h0 hil
  have iy:=ht.ix h0 him
  refine ⟨ix,f,a0,iy,g,b0,_,c_equalInts rf rg,fun _=>ix,_,fun _=>a1,fun _=>iy,_,fun _=>b1,fun _=>ix,_,_,k,fun _=>⟨a2,a3,a4⟩,fun _=>iy,_,_,h,fun _=>⟨b2,b3,b4⟩,_,fun _=>c_equalExpr (nth fs i).body v (nth fs' i).body k h rk rh,fun hq=>?_,fun hq=>?_⟩
  ·refine ⟨?_,.refl v⟩
   rw [decide_eq_false]
   intro he
   have e1:nth fs i=nth fs' i:=by rw [he]
   rw [e1] at hq
   simp at hq
  ·simp only [bls] at hq
   obtain ⟨⟨e1,e2⟩,e3⟩:=hq
   have he:nth fs i=nth fs' i:=by
    generalize nth fs i=c at e1 e2 e3
    generalize nth fs' i=d at e1 e2 e3
    obtain ⟨c1,c2,c3⟩:=c
    obtain ⟨d1,d2,d3⟩:=d
    simp only at e1 e2 e3
    rw [e1,e2,e3]
   refine go_wr (by omega) (by omega) ⟨rfl,rfl,rfl,rfl,⟨rfl,by omega,by omega,?_⟩,by omega⟩
   rw [take_nth h0 hil,take_nth h0 him,h2,he]
 ·simp only [bls] at hi
  rw [take_all (by omega),take_all (by omega)] at h2
  exact ⟨by rw [decide_eq_true h2],.refl v⟩
end
end Go.Vc
namespace Go.Vc
open Go Go.Proofs Go.RowKit
def fSL (f:FunD):Prop:=f.params.length≤3∧nonneg f.params∧(0≤f.result∧f.result≤4)∧nodesE f.body≤5000∧canE f.body=true
theorem shF_lenL {f:FunD} (h:fSL f):(shF f).length≤70000:=by
 obtain ⟨h1,h2,h3,h4,h5⟩:=h
 have e1:=itoa_len (n:=f.result) ⟨by omega,by omega⟩
 have e2:=shN_len (nn_InI h2)
 have e3:=show_len _ h5
 unfold shF
 simp only [List.length_append,List.length_cons,List.length_nil]
 omega
section
variable {u v w:World} {x y z f:Sl} {ds:List DeclD} {fs:List FunD} {d:DeclD} {I L R:Items} {F:Items→Items}
theorem c_showProgramL (hx:Read v x ds) (hy:Read v y fs) (hd:∀ d∈ds,dSm d) (hf:∀ f∈fs,fSL f) (hdl:ds.length≤4) (hfl:fs.length≤4):Fn Tryz.prog 34 #[.agg #[x.val,y.val]] v (.string (str (shP ds fs))):=by
 refine of34 _ _ _ _ ?_
 unfold vc34
 have hxn:=hx.n
 have hyn:=hy.n
 have tlen:∀ i:Int,((ds.take i.toNat).map shD).flatten.length≤1200:=by
  intro i
  have h1:=flatU_len (l:=ds.take i.toNat) (f:=shD) (N:=300) fun d hm=>shD_len (hd d (List.mem_of_mem_take hm))
  have h2:(ds.take i.toNat).length≤4:=by rw [List.length_take];omega
  omega
 have glen:∀ i:Int,((fs.take i.toNat).map shF).flatten.length≤280000:=by
  intro i
  have h1:=flatU_len (l:=fs.take i.toNat) (f:=shF) (N:=70000) fun d hm=>shF_lenL (hf d (List.mem_of_mem_take hm))
  have h2:(fs.take i.toNat).length≤4:=by rw [List.length_take];omega
  omega
 refine ⟨fun s i w=>v=w∧0≤i∧i≤ds.length∧s=str ((ds.take i.toNat).map shD).flatten,fun _ i _=>(ds.length - i).toNat,⟨rfl,by omega,by omega,rfl⟩,?_⟩
 rintro s i _ ⟨rfl,i0,i1,rfl⟩
 dsimp only
 refine ⟨fun hi=>?_,fun hi=>?_⟩
 ·simp only [bls] at hi
  have hil:i < ds.length:=by omega
  have hm:=hd _ (nth_mem (l:=ds) i0 hil)
  obtain ⟨g,e1,e2,e3,j1,j2,r3⟩:=(hx.src (.refl v)).ofDeclD i0 hil
  refine go_ix hx i0 hil ?_
  refine ⟨_,_,g,⟨e1,e2,e3⟩,_,c_showDecl r3 hm,?_,?_⟩
  ·have h1:=tlen i
   have h2:=shD_len hm
   rw [str_size,str_size];omega
  refine go_wr (by omega) (by omega) ?_
  refine ⟨rfl,rfl,⟨rfl,by omega,by omega,?_⟩,by omega⟩
  rw [flatU_take i0 hil,←str_app]
 simp only [bls] at hi
 rw [take_all (by omega)]
 have hD:((ds.map shD).flatten).length≤1200:=by
  have:=tlen ds.length
  rwa [take_all (by omega)] at this
 refine ⟨fun s i w=>v=w∧0≤i∧i≤fs.length∧s=str ((ds.map shD).flatten++((fs.take i.toNat).map shF).flatten),fun _ i _=>(fs.length - i).toNat,⟨rfl,by omega,by omega,by simp⟩,?_⟩
 clear i0 i1 hi
 rintro s i _ ⟨rfl,i0,i1,rfl⟩
 dsimp only
 have hp:(str ((ds.map shD).flatten++((fs.take i.toNat).map shF).flatten)).size≤290000:=by
  have:=glen i
  rw [str_size,List.length_append];omega
 refine ⟨fun hi=>?_,fun hi=>?_⟩
 ·simp only [bls] at hi
  have hil:i < fs.length:=by omega
  obtain ⟨s1,s2,⟨s3,s4⟩,s5,s6⟩:=hf _ (nth_mem (l:=fs) i0 hil)
  obtain ⟨f1,k1,e1,e2,e3,e4,e5,j1,j2,j3,r1,r2⟩:=(hy.src (.refl v)).ofFunD i0 hil
  have q1:=shN_len (nn_InI s2)
  have q2:=itoa_sz j1
  have q3:=show_len _ s6
  refine go_ix hy i0 hil ?_
  refine ⟨f1,_,_,_,k1,⟨e1,e2,e3,e4,e5⟩,?_,_,c_showNumbers r1 (by omega) (fun n hn=>by have:=s2 n hn;omega),?_,?_,_,c_decimal (by omega) (by omega),?_,?_,_,c_showExpr _ v k1 r2 s6 (by omega),?_,?_,?_⟩
  ·show ((_+4:Nat):Int)≤_;omega
  ·rw [ByteArray.size_append,str_size (shN _)];show ((_+4+_:Nat):Int)≤_;omega
  ·rw [ByteArray.size_append,ByteArray.size_append,str_size (shN _)];show ((_+4+_+1:Nat):Int)≤_;omega
  ·rw [ByteArray.size_append,ByteArray.size_append,ByteArray.size_append,str_size (shN _)];show ((_+4+_+1+_:Nat):Int)≤_;omega
  ·rw [ByteArray.size_append,ByteArray.size_append,ByteArray.size_append,ByteArray.size_append,str_size (shN _)];show ((_+4+_+1+_+1:Nat):Int)≤_;omega
  ·rw [ByteArray.size_append,ByteArray.size_append,ByteArray.size_append,ByteArray.size_append,ByteArray.size_append,str_size (shN _),str_size (showE _)];show ((_+4+_+1+_+1+_:Nat):Int)≤_;omega
  ·rw [ByteArray.size_append,ByteArray.size_append,ByteArray.size_append,ByteArray.size_append,ByteArray.size_append,ByteArray.size_append,str_size (shN _),str_size (showE _)];show ((_+4+_+1+_+1+_+1:Nat):Int)≤_;omega
  refine go_wr (by omega) (by omega) ?_
  refine ⟨rfl,rfl,⟨rfl,by omega,by omega,?_⟩,by omega⟩
  rw [flatU_take i0 hil,str_eq (l:=[102,117,110,32]) rfl,str_eq (l:=[32]) rfl,str_eq (l:=[10]) rfl]
  simp only [←str_app]
  congr 1
  unfold shF
  simp [List.append_assoc]
 ·simp only [bls] at hi
  rw [take_all (by omega)]
  exact ⟨rfl,.refl v⟩
end
section
variable {u v w:World} {x y z:Sl} {bs:List UInt8}
theorem fok_sl {f:FunD} (h:FOk f):fSL f:=by
 obtain ⟨h1,h2,h3⟩:=h
 obtain ⟨k1,k2,k3,k4,_⟩:=sig_facts h1
 exact ⟨k1,fun t ht=>by have:=k2 t ht;omega,⟨k3,by omega⟩,h3,h2⟩
theorem c_DrawParseProgram (hx:Read v x bs):Trip Tryz.prog 29 #[x.val] v fun r w=>∃ l:List UInt8,r=.string (str l)∧l.length≤1000000∧Sub v w:=by
 refine of29 _ _ _ ?_
 unfold vc29
 refine GS.start hx fun a w1 h=>?_
 refine (c_goodProgram (by omega) h).mono' ?_
 rintro _ w2 ⟨px,py,rfl,u2,ds,fs,J,hu2,h,hx2,hO,hgd,hl1,hl4,hok⟩
 have hdm:=sm_decl hgd.types
 have hdl:=hgd.len
 obtain ⟨I1,hR1,hS1⟩:=h
 have hyr:Read w2 py fs:=(hO.src hS1).rd hS1.sub
 have hxr:Read w2 px ds:=hx2.mono hS1.sub
 have h:GS u2 a (J++[]) (0+1000000) w2:=⟨I1,hR1,hS1⟩
 have hlen:(shP ds fs).length≤300000:=by
  have h1:=flatU_len (l:=ds) (f:=shD) (N:=300) fun d hm=>shD_len (hdm d hm)
  have h2:=flatU_len (l:=fs) (f:=shF) (N:=70000) fun d hm=>shF_lenL (fok_sl (hok d hm))
  unfold shP
  rw [List.length_append]
  omega
 refine ⟨px,py,rfl,_,c_showProgramL hxr hyr hdm (fun f hf=>fok_sl (hok f hf)) hdl.2 hl4,?_⟩
 clear hR1 hS1
 refine gs_pick h (by omega) (by omega) (by omega) fun j w3 h3 _ _ _=>⟨fun hc=>?_,fun hc=>?_⟩
 ·refine (c_mutate (by omega) (by omega) h3).mono' ?_
  rintro _ w4 ⟨l',rfl,hl',u4,hu4,h4⟩
  exact ⟨_,rfl,l',rfl,by omega,hu2.trans (hu4.trans h4.sub)⟩
 ·exact ⟨_,rfl,by omega,hu2.trans h3.sub⟩
theorem l_ParseProgram (hT:Tab3 v) (hb:Bytes v x bs):Trip Tryz.prog 9 #[x.val] v fun r v'=>r=.bool true∧Sub v v':=by
 refine of9 _ _ _ ?_
 unfold vc9
 refine ⟨fun hc=>⟨rfl,.refl v⟩,fun hc=>?_⟩
 simp only [bls] at hc
 have hcode:=hb.read (by omega)
 refine (c_DrawParseProgram hcode).mono' ?_
 rintro _ w1 ⟨l,rfl,hl,hs1⟩
 refine ⟨_,rfl,?_⟩
 refine (c_ParseProgramI (hT.mono hs1) (by omega)).mono' ?_
 rintro _ w2 ⟨ds,fs,x2,y2,ok,J2,K2,G2,rfl,hA2,hB2,hS2,hP2⟩
 refine ⟨x2,y2,ok,rfl,?_⟩
 refine (c_ParseProgramS (v:=w2) (by omega)).mono' ?_
 rintro _ w3 ⟨ds3,fs3,x3,y3,ok3,J3,K3,G3,rfl,hA3,hB3,hS3,hP3⟩
 obtain ⟨q1,q2,q3⟩:=hP2.same hP3
 subst q1;subst q2;subst q3
 have hS3':St w2 w3 (J3++(K3++G3)):=hS3.perm (by
  classical
  exact List.perm_iff_count.2 fun a=>by simp only [List.count_append];omega)
 have rx:=(hA2.read hS2).mono hS3.sub
 have ry:=(hB2.read hS2).mono hS3.sub
 have hE:=c_equalProgram rx ry (hA3.read hS3') (hB3.read hS3')
 have hs3:Sub v w3:=hs1.trans (hS2.sub.trans hS3.sub)
 refine ⟨x3,y3,ok,rfl,_,hE,fun hc=>?_,fun hc=>?_⟩
 ·refine ⟨_,hE,?_,hs3⟩
  simp
 ·have hok:ok=true:=by
   cases ok
   ·simp at hc
   ·rfl
  rcases hP2 with ⟨_,hp,hm,_⟩|⟨h1,_,_,_⟩
  ·have hF:=c_implFormatProgram (hT.mono hs3).1.1 rx ry
   have hf:fmtP ds fs=l:=by unfold fmtP;rw [if_pos (pB_iff.2 hp)];exact hm
   rw [hf] at hF
   refine ⟨_,c_ValidProgramI rx ry,_,fun _=>hF,?_,hs3⟩
   rw [seq_self,pB_iff.2 hp]
   rfl
  ·rw [hok] at h1;cases h1
end
end Go.Vc
