/- Part of the proofs about the heaps and memories: a law is joined in the text whose name ends in W and the law. -/
import Derived.Test.YtelgbndeeccblaaGreatDoorEU1
import Derived.Test.YtelgbndeeccblaaGreatDoorEG6
set_option linter.all false
namespace Go.Vc
open Go Go.Proofs Go.RowKit
theorem cut3 {a b c:List UInt8} (d:List UInt8) (ha:(32:UInt8)∉a) (hb:(32:UInt8)∉b) (hc:(32:UInt8)∉c):Lib.splitK [32] 0 3 (a++32 ::(b++32 ::(c++32 ::d)))=[a,b,c,d]:=by
 rw [cutK0_hit _ ha,cutK0_hit _ hb,cutK0_hit _ hc]
 rfl
theorem line_data {d:DeclD} {l:List UInt8} (h:0 < d.cons.length) (hl:l++[10]=shD d):l=[100,97,116,97]++(((d.cons.map fun c=>shN c.fields)).map fun b=>32 ::b).flatten:=by
 have h2:=shD_data h []
 rw [List.append_nil,List.append_nil] at h2
 rw [h2,←List.append_assoc] at hl
 have:=List.append_inj_left' hl rfl
 rw [this,List.map_map]
 rfl
theorem line_arrow {d:DeclD} {l:List UInt8} (h:d.cons.length=0) (hl:l++[10]=shD d):l=[97,114,114,111,119]++([Lib.itoa d.frm,Lib.itoa d.to_].map fun b=>32 ::b).flatten:=by
 have h2:=shD_arrow h []
 rw [List.append_nil,List.append_nil] at h2
 rw [h2] at hl
 have:l++[10]=([97,114,114,111,119]++([Lib.itoa d.frm,Lib.itoa d.to_].map fun b=>32 ::b).flatten)++[10]:=by rw [hl];simp
 exact List.append_inj_left' this rfl
theorem line_fun {f:FunD} {l:List UInt8} (hl:l++[10]=shF f):l=[102,117,110]++32 ::(shN f.params++32 ::(Lib.itoa f.result++32 ::showE f.body)):=by
 have h2:=shF_app f []
 rw [List.append_nil,List.append_nil] at h2
 rw [h2] at hl
 have:l++[10]=([102,117,110]++32 ::(shN f.params++32 ::(Lib.itoa f.result++32 ::showE f.body)))++[10]:=by rw [hl];simp
 exact List.append_inj_left' this rfl
theorem min3 {n:Nat} (h:3≤n):min 4 (n+1) - 1=3:=by omega
section
variable {u v w:World} {l m:List UInt8} {a:Addr} {L I J K R:Items} {n:Int} {b:Bool} {x y z:Sl} {c:UInt8} {ds:List DeclD} {fs:List FunD}
theorem small_cons {d:DeclD} (h:dPr d):∀ b∈d.cons.map (fun c=>shN c.fields),(32:UInt8)∉b:=by
 intro b hb
 obtain ⟨c,hc,rfl⟩:=List.mem_map.1 hb
 exact (shN_no (nn_small (h.1.2.2.2 c hc).2)).1
theorem words_data {d:DeclD} (hp:dPr d) (h:0 < d.cons.length) (hl:l++[10]=shD d):Lib.splitK [32] 0 (min 4 (l.length+1) - 1) l=[100,97,116,97] ::d.cons.map (fun c=>shN c.fields)∧Lib.splitK [32] 0 (l.count 32) l=[100,97,116,97] ::d.cons.map (fun c=>shN c.fields):=by
 have e:=line_data h hl
 have h1:(32:UInt8)∉([100,97,116,97]:List UInt8):=by decide
 have h2:=small_cons hp
 have h3:3≤l.length:=by rw [e,List.length_append];simp<;>omega
 have h4:=hp.1.2.2.1
 constructor
 ·rw [min3 h3]
  conv=>lhs;rw [e]
  exact cutK_words _ _ _ h1 h2 (by rw [List.length_map];omega)
 ·conv=>lhs;rw [e]
  rw [count_words _ _ h1 h2]
  exact cutK_words _ _ _ h1 h2 (Nat.le_refl _)
theorem words_arrow {d:DeclD} (hp:dPr d) (h:d.cons.length=0) (hl:l++[10]=shD d):Lib.splitK [32] 0 (min 4 (l.length+1) - 1) l=[[97,114,114,111,119],Lib.itoa d.frm,Lib.itoa d.to_]:=by
 have e:=line_arrow h hl
 have h1:(32:UInt8)∉([97,114,114,111,119]:List UInt8):=by decide
 obtain ⟨⟨⟨f0,f1⟩,⟨t0,t1⟩,_⟩,_⟩:=hp
 have h2:∀ b∈[Lib.itoa d.frm,Lib.itoa d.to_],(32:UInt8)∉b:=by
  intro b hb
  simp only [List.mem_cons,List.not_mem_nil,or_false] at hb
  rcases hb with rfl|rfl
  ·exact (itoa_no f0 (by omega)).2.1
  ·exact (itoa_no t0 (by omega)).2.1
 have h3:3≤l.length:=by rw [e,List.length_append];simp<;>omega
 rw [min3 h3]
 conv=>lhs;rw [e]
 exact cutK_words _ _ _ h1 h2 (by show 2≤3;omega)
theorem words_fun {f:FunD} (hp:fSm f) (hl:l++[10]=shF f):Lib.splitK [32] 0 (min 4 (l.length+1) - 1) l=[[102,117,110],shN f.params,Lib.itoa f.result,showE f.body]:=by
 have e:=line_fun hl
 obtain ⟨s1,s2,⟨s3,s4⟩,s5,s6⟩:=hp
 have h3:3≤l.length:=by rw [e,List.length_append];simp<;>omega
 rw [min3 h3]
 conv=>lhs;rw [e]
 exact cut3 _ (by decide) (shN_no (nn_small s2)).1 (itoa_no s3 (by omega)).2.1
def GhLn (l:List UInt8) (ds ds':List DeclD) (fs fs':List FunD) (q:Bool):Prop:=
 (∀ d0,dPr d0→l++[10]=shD d0→q=true∧ds'=ds++[d0]∧fs'=fs)∧(∀ f0,fSm f0→l++[10]=shF f0→q=true∧ds'=ds∧fs'=fs++[f0])
theorem c_readLine (hT:Tab3 u) (hl:l.length≤1900000) (hdl:ds.length≤4000000) (hfl:fs.length≤4000000) (h:PrS u a L ds fs w):Trip Tryz.prog 47 #[.pointer (some (a.add 0)),.string (str l)] w fun r w'=>
  ∃ (q:Bool) (ds':List DeclD) (fs':List FunD),r=.bool q∧PrS u a L ds' fs' w'∧ds'.length≤ds.length+1∧fs'.length≤fs.length+1∧GhLn l ds ds' fs fs' q:=by
 refine of47 _ _ _ _ ?_
 unfold vc47
 rw [str_eq (l:=[32]) rfl]
 refine (c_SplitN (v:=w) 4 (hT.mono h.sub) (by omega) (by omega) (by omega)).mono' ?_
 rintro _ w2 ⟨x3,I3,rfl,hO3,hS3⟩
 have hwl:=splitK_len [32] 0 (min 4 (l.length+1) - 1) l
 have hwle:=splitK_le 32 0 (min 4 (l.length+1) - 1) l
 have gD:∀ d0,dPr d0→0 < d0.cons.length→l++[10]=shD d0→_:=fun d0 hp hc hm=>(words_data hp hc hm).1
 have gA:∀ d0,dPr d0→d0.cons.length=0→l++[10]=shD d0→_:=fun d0 hp hc hm=>words_arrow hp hc hm
 have gF:∀ f0,fSm f0→l++[10]=shF f0→_:=fun f0 hp hm=>words_fun hp hm
 generalize Lib.splitK [32] 0 (min 4 (l.length+1) - 1) l=W at hO3 hwl hwle gD gA gF
 have hx3:=hO3.n
 rw [List.length_map] at hx3
 have hP2:=h.join hS3
 have hrd:Read w2 x3 (W.map str):=hO3.read1 hS3
 have h0:(0:Int) < (W.map str).length:=by rw [List.length_map];omega
 have hT2:=hT.mono hP2.sub
 have c0:=hrd.str (Int.le_refl 0) h0
 rw [nth_str W (Int.le_refl 0) (by omega)] at c0
 refine ⟨x3,rfl,hrd.ix (Int.le_refl 0) h0,_,c0,fun hq=>?_,fun hq=>⟨hrd.ix (Int.le_refl 0) h0,_,c0,fun hq2=>?_,fun hq2=>⟨hrd.ix (Int.le_refl 0) h0,_,c0,fun hq3=>?_,fun hq3=>?_⟩⟩⟩
 ·rw [str_eqB _ _ (m:=[100,97,116,97]) rfl,decide_eq_true_eq] at hq
  refine (c_Split (v:=w2) hT2 (by omega)).mono' ?_
  rintro _ w6 ⟨z,Iz,rfl,hOz,hSz⟩
  have hpn:=splitK_len [32] 0 (l.count 32) l
  have hple:=splitK_le 32 0 (l.count 32) l
  have gD2:∀ d0,dPr d0→0 < d0.cons.length→l++[10]=shD d0→_:=fun d0 hp hc hm=>(words_data hp hc hm).2
  generalize Lib.splitK [32] 0 (l.count 32) l=P at hOz hpn hple gD2
  have hcnt:l.count 32≤l.length:=List.count_le_length
  have hzn:=hOz.n
  rw [List.length_map] at hzn
  refine ⟨z,rfl,⟨by omega,by omega⟩,?_⟩
  have hcut:=hOz.cut (lo:=1) (hi:=(z.n:Int)) (by omega) (by omega) (by rw [List.length_map];omega)
  have hdrop:(((P.map str).take (z.n:Int).toNat).drop (1:Int).toNat)=(P.drop 1).map str:=by
   rw [Int.toNat_natCast,hzn,List.take_of_length_le (by rw [List.length_map];exact Nat.le_refl _),List.map_drop]
   rfl
  rw [hdrop] at hcut
  refine (c_readData (u:=u) (L:=I3++L) hT (fun p hp=>by have:=hple p (List.mem_of_mem_drop hp);omega) (by rw [List.length_drop];omega) hdl hcut (hP2.join hSz)).mono' ?_
  rintro _ w9 ⟨q,ds',rfl,hP9,hlen9,hG9⟩
  refine ⟨q,rfl,q,ds',fs,rfl,hP9.drop.drop,hlen9,by omega,fun d0 hp hm=>?_,fun f0 hp hm=>?_⟩
  ·by_cases hc:d0.cons.length=0
   ·have:=gA d0 hp hc hm
    rw [this] at hq
    exact absurd hq (by show ¬ (([97,114,114,111,119]:List UInt8)=_);decide)
   ·obtain ⟨k1,k2⟩:=hG9 d0.cons (fun c hcm=>nn_small (hp.1.2.2.2 c hcm).2) (by rw [gD2 d0 hp (by omega) hm];rfl)
    refine ⟨k1,?_,rfl⟩
    obtain ⟨e1,e2⟩:=hp.2 (by omega)
    rw [k2]
    congr 2
    obtain ⟨p1,p2,p3⟩:=d0
    simp only at e1 e2
    rw [e1,e2]
  ·have:=gF f0 hp hm
   rw [this] at hq
   exact absurd hq (by show ¬ (([102,117,110]:List UInt8)=_);decide)
 ·rw [str_eqB _ _ (m:=[97,114,114,111,119]) rfl] at hq2
  simp only [bls] at hq2
  obtain ⟨ha,hn3⟩:=hq2
  have h1:(1:Int) < (W.map str).length:=by rw [List.length_map];omega
  have h2:(2:Int) < (W.map str).length:=by rw [List.length_map];omega
  have c1:=hrd.str (by omega) h1
  rw [nth_str W (by omega) (by omega)] at c1
  have c2:=hrd.str (by omega) h2
  rw [nth_str W (by omega) (by omega)] at c2
  refine ⟨hrd.ix (by omega) h1,_,c1,?_⟩
  refine (c_Atoi2 hT2.1 (by have:=hwle _ (nth_mem (l:=W) (i:=1) (by omega) (by omega));omega)).mono' ?_
  rintro _ _ ⟨y1,rfl,hy1,_,rfl⟩
  refine ⟨_,y1,rfl,hrd.ix (by omega) h2,_,c2,?_⟩
  refine (c_Atoi2 hT2.1 (by have:=hwle _ (nth_mem (l:=W) (i:=2) (by omega) (by omega));omega)).mono' ?_
  rintro _ _ ⟨y2,rfl,hy2,_,rfl⟩
  obtain ⟨x1,yy,I1,J1,K1,hC1,hD1,hF1,hS1⟩:=hP2
  refine ⟨_,y2,rfl,x1,hC1.load hS1 rfl,?_⟩
  refine OwnD.add (a:=(⟨(atoiV (nth W 1)).1,(atoiV (nth W 2)).1,[]⟩:DeclD)) (J:=[]) (R:=I1++(K1++(I3++L))) hD1 (hS1.perm (by
   classical
   exact List.perm_iff_count.2 fun a=>by simp only [List.count_append,List.count_nil];omega)) rfl ⟨⟨none,0,0⟩,[],rfl,atoiV_in _,atoiV_in _,OwnD.nil,rfl⟩ (by decide) (by omega) (by decide) ?_
  intro x7 w7 J7 hO7 hS7
  have hS8:St u w7 (I1++(J7++(K1++(I3++L)))):=hS7.perm (by
   classical
   exact List.perm_iff_count.2 fun a=>by simp only [List.count_append];omega)
  refine hC1.store hS8 (by simp) fun w8 I8 hC8 hS9=>?_
  refine ⟨_,hy1 _ _,_,fun _=>hy2 _ _,(atoiV (nth W 1)).2 && (atoiV (nth W 2)).2,ds++[⟨(atoiV (nth W 1)).1,(atoiV (nth W 2)).1,[]⟩],fs,rfl,PrS.drop (M:=I3) ⟨x7,yy,I8,J7,K1,hC8,hO7,hF1,hS9⟩,by rw [List.length_append,List.length_singleton];omega,by omega,fun d0 hp hm=>?_,fun f0 hp hm=>?_⟩
  ·by_cases hc:d0.cons.length=0
   ·have hW:=gA d0 hp hc hm
    obtain ⟨⟨⟨f0,f1⟩,⟨t0,t1⟩,_⟩,_⟩:=hp
    have e1:nth W 1=Lib.itoa d0.frm:=by rw [hW];rfl
    have e2:nth W 2=Lib.itoa d0.to_:=by rw [hW];rfl
    rw [e1,e2,atoiV_itoa (by omega) (by omega),atoiV_itoa (by omega) (by omega)]
    refine ⟨rfl,?_,rfl⟩
    congr 2
    obtain ⟨p1,p2,p3⟩:=d0
    simp only at hc
    rw [List.eq_nil_of_length_eq_zero hc]
   ·have:=gD d0 hp (by omega) hm
    rw [this] at ha
    exact absurd ha (by show ¬ (([100,97,116,97]:List UInt8)=_);decide)
  ·have:=gF f0 hp hm
   rw [this] at ha
   exact absurd ha (by show ¬ (([102,117,110]:List UInt8)=_);decide)
 ·rw [str_eqB _ _ (m:=[102,117,110]) rfl] at hq3
  simp only [bls] at hq3
  obtain ⟨ha,hn4⟩:=hq3
  have h1:(1:Int) < (W.map str).length:=by rw [List.length_map];omega
  have h2:(2:Int) < (W.map str).length:=by rw [List.length_map];omega
  have h3:(3:Int) < (W.map str).length:=by rw [List.length_map];omega
  have c1:=hrd.str (by omega) h1
  rw [nth_str W (by omega) (by omega)] at c1
  refine ⟨hrd.ix (by omega) h1,_,c1,?_⟩
  refine (c_readList hT2 (by have:=hwle _ (nth_mem (l:=W) (i:=1) (by omega) (by omega));omega)).mono' ?_
  rintro _ w3 ⟨t,ns,ok1,J3,G3,rfl,hOt,hS3b,hG3⟩
  have hrd3:Read w3 x3 (W.map str):=hrd.mono hS3b.sub
  have c2:=hrd3.str (by omega) h2
  rw [nth_str W (by omega) (by omega)] at c2
  refine ⟨t,ok1,rfl,hrd3.ix (by omega) h2,_,c2,?_⟩
  have hT3:=hT2.mono hS3b.sub
  refine (c_Atoi2 hT3.1 (by have:=hwle _ (nth_mem (l:=W) (i:=2) (by omega) (by omega));omega)).mono' ?_
  rintro _ _ ⟨y2,rfl,hy2,_,rfl⟩
  have c3:=hrd3.str (by omega) h3
  rw [nth_str W (by omega) (by omega)] at c3
  refine ⟨_,y2,rfl,hrd3.ix (by omega) h3,_,c3,?_⟩
  refine (c_ParseExprI hT3.1 (by have:=hwle _ (nth_mem (l:=W) (i:=3) (by omega) (by omega));omega)).mono' ?_
  rintro _ w5 ⟨e,xk,ok3,J5,G5,rfl,hOk,i1,i2,hS5,hPE⟩
  have hP5:=(hP2.join hS3b).join hS5
  obtain ⟨x1,yy,I1,J1,K1,hC1,hD1,hF1,hS1⟩:=hP5
  refine ⟨_,_,xk,ok3,rfl,yy,hC1.load hS1 rfl,?_⟩
  refine OwnD.addS (a:=(⟨ns,(atoiV (nth W 2)).1,e⟩:FunD)) (J:=J3++J5) (R:=I1++(J1++((G3++G5)++(I3++L)))) hF1 (hS1.perm (by
   classical
   exact List.perm_iff_count.2 fun a=>by simp only [List.count_append];omega)) rfl ⟨t,xk,J3,J5,rfl,atoiV_in _,hOt.toAll,expr_own.2 ⟨xk,rfl,i1,i2,hOk⟩,rfl⟩ (by decide) (by omega) (by decide) ?_
  intro x7 w7 J7 hO7 hS7
  have hS8:St u w7 (I1++(J1++(J7++((G3++G5)++(I3++L))))):=hS7.perm (by
   classical
   exact List.perm_iff_count.2 fun a=>by simp only [List.count_append];omega)
  refine hC1.store hS8 (by simp) fun w8 I8 hC8 hS9=>?_
  refine ⟨_,fun _=>hy2 _ _,_,ds,fs++[⟨ns,(atoiV (nth W 2)).1,e⟩],rfl,PrS.drop (M:=I3) (PrS.drop (M:=G3++G5) ⟨x1,x7,I8,J1,J7,hC8,hD1,hO7,hS9⟩),by omega,by rw [List.length_append,List.length_singleton];omega,fun d0 hp hm=>?_,fun f0 hp hm=>?_⟩
  ·by_cases hc:d0.cons.length=0
   ·have:=gA d0 hp hc hm
    rw [this] at ha
    exact absurd ha (by show ¬ (([97,114,114,111,119]:List UInt8)=_);decide)
   ·have:=gD d0 hp (by omega) hm
    rw [this] at ha
    exact absurd ha (by show ¬ (([100,97,116,97]:List UInt8)=_);decide)
  ·have hW:=gF f0 hp hm
   obtain ⟨s1,s2,⟨s3,s4⟩,s5,s6⟩:=hp
   have e1:nth W 1=shN f0.params:=by rw [hW];rfl
   have e2:nth W 2=Lib.itoa f0.result:=by rw [hW];rfl
   have e3:nth W 3=showE f0.body:=by rw [hW];rfl
   obtain ⟨k1,k2⟩:=hG3 f0.params (nn_small s2) e1
   obtain ⟨k3,k4⟩:=hPE.ok s6 s5 e3.symm
   rw [e2,atoiV_itoa (by omega) (by omega),k1,k2,k3,k4]
   exact ⟨rfl,rfl,rfl⟩
 ·rw [str_eqB _ _ (m:=[100,97,116,97]) rfl,decide_eq_false_iff_not] at hq
  rw [str_eqB _ _ (m:=[97,114,114,111,119]) rfl] at hq2
  rw [str_eqB _ _ (m:=[102,117,110]) rfl] at hq3
  refine ⟨false,ds,fs,rfl,hP2.drop,by omega,by omega,fun d0 hp hm=>?_,fun f0 hp hm=>?_⟩
  ·exfalso
   by_cases hc:d0.cons.length=0
   ·have hW:=gA d0 hp hc hm
    rw [hx3,hW] at hq2
    exact absurd (show true=false from hq2) (by decide)
   ·have hW:=gD d0 hp (by omega) hm
    rw [hW] at hq
    exact hq rfl
  ·exfalso
   have hW:=gF f0 hp hm
   rw [hx3,hW] at hq3
   exact absurd (show true=false from hq3) (by decide)
end
end Go.Vc
namespace Go.Vc
open Go Go.Proofs Go.RowKit
theorem line_body {s:List UInt8} (h:s.count 10=1) (he:∃ b,s=b++[10]):∃ b:List UInt8,s=b++[10]∧(10:UInt8)∉b:=by
 obtain ⟨b,rfl⟩:=he
 refine ⟨b,rfl,fun hm=>?_⟩
 rw [List.count_append] at h
 have:=List.count_pos_iff.2 hm
 simp at h
 omega
theorem shD_end (d:DeclD):∃ b,shD d=b++[10]:=by
 unfold shD
 split
 ·exact ⟨_,rfl⟩
 ·exact ⟨_,rfl⟩
theorem shF_end (f:FunD):∃ b,shF f=b++[10]:=⟨_,rfl⟩
theorem lines_exist:∀ ss:List (List UInt8),(∀ s∈ss,s.count 10=1∧∃ b,s=b++[10])→∃ bs:List (List UInt8),ss=bs.map (fun a=>a++[10])∧∀ a∈bs,(10:UInt8)∉a
 | [],_=>⟨[],rfl,fun a ha=>by cases ha⟩
 | s ::r,h=>by
  obtain ⟨bs,h1,h2⟩:=lines_exist r fun x hx=>h x (by simp [hx])
  obtain ⟨b,h3,h4⟩:=line_body (h s (by simp)).1 (h s (by simp)).2
  refine ⟨b ::bs,by rw [List.map_cons,←h1,←h3],fun a ha=>?_⟩
  rcases List.mem_cons.1 ha with rfl|ha
  ·exact h4
  ·exact h2 a ha
theorem cut_program {ds:List DeclD} {fs:List FunD} (k:Nat) (hk:ds.length+fs.length≤k):Lib.splitK [10] 1 k (shP ds fs)=(ds.map shD++fs.map shF)++[[]]:=by
 obtain ⟨bs,h1,h2⟩:=lines_exist (ds.map shD++fs.map shF) (by
  intro s hs
  rcases List.mem_append.1 hs with hs|hs
  ·obtain ⟨d,_,rfl⟩:=List.mem_map.1 hs
   exact ⟨shD_cnt d,shD_end d⟩
  ·obtain ⟨f,_,rfl⟩:=List.mem_map.1 hs
   exact ⟨shF_cnt f,shF_end f⟩)
 have e:shP ds fs=(ds.map shD++fs.map shF).flatten:=by unfold shP;rw [List.flatten_append]
 rw [e,h1]
 refine cutK_lines bs k h2 ?_
 have:=congrArg List.length h1
 simp only [List.length_append,List.length_map] at this
 omega
theorem trim_nl (b:List UInt8):Lib.trimSuffix (b++[10]) [10]=b:=by
 unfold Lib.trimSuffix Lib.hasSuffix
 rw [if_pos (by simp)]
 simp
theorem trim_le (l m:List UInt8):(Lib.trimSuffix l m).length≤l.length:=by
 unfold Lib.trimSuffix
 split
 ·rw [List.length_take];omega
 ·exact Nat.le_refl _
section
variable {u v w:World} {l m:List UInt8} {a:Addr} {L I J K R:Items} {n:Int} {b:Bool} {x y z:Sl} {c:UInt8} {ds:List DeclD} {fs:List FunD}
theorem take_line {ds0:List DeclD} {fs0:List FunD} {i:Nat} (hi:i < ds0.length+fs0.length) {p:List UInt8} (hp:((ds0.map shD++fs0.map shF)++[[]])[i]?=some p):
  (∃ d,d∈ds0∧p=shD d∧ds0.take (i+1)=ds0.take i++[d]∧fs0.take (i+1 - ds0.length)=fs0.take (i - ds0.length))∨(∃ f,f∈fs0∧p=shF f∧ds0.take (i+1)=ds0.take i∧fs0.take (i+1 - ds0.length)=fs0.take (i - ds0.length)++[f]):=by
 rw [List.getElem?_append_left (by simp;omega)] at hp
 by_cases h:i < ds0.length
 ·refine .inl ⟨ds0[i],List.getElem_mem h,?_,?_,?_⟩
  ·rw [List.getElem?_append_left (by simpa using h),List.getElem?_map,List.getElem?_eq_getElem h] at hp
   exact (Option.some.inj hp).symm
  ·rw [List.take_succ,List.getElem?_eq_getElem h];rfl
  ·rw [show i+1 - ds0.length=0 by omega,show i - ds0.length=0 by omega]
 ·have h2:i - ds0.length < fs0.length:=by omega
  refine .inr ⟨fs0[i - ds0.length],List.getElem_mem h2,?_,?_,?_⟩
  ·rw [List.getElem?_append_right (by simp;omega),List.length_map,List.getElem?_map,List.getElem?_eq_getElem h2] at hp
   exact (Option.some.inj hp).symm
  ·rw [List.take_of_length_le (by omega),List.take_of_length_le (by omega)]
  ·rw [show i+1 - ds0.length=(i - ds0.length)+1 by omega,List.take_succ,List.getElem?_eq_getElem h2];rfl
theorem c_ParseProgramI (hT:Tab3 v) (hl:l.length≤1900000):Trip Tryz.prog 16 #[.string (str l)] v fun r w=>∃ (ds:List DeclD) (fs:List FunD) (x y:Sl) (ok:Bool) (J K G:Items),r=.tuple #[.agg #[x.val,y.val],.bool ok]∧OwnD x ds J∧OwnD y fs K∧St v w (J++(K++G))∧PP l ds fs ok:=by
 refine of16 _ _ _ ?_
 unfold vc16
 rw [str_eq (l:=[10]) rfl]
 refine (c_SplitAfterN 10 hT (by omega) (by omega) (by omega)).mono' ?_
 rintro _ w1 ⟨z,Iz,rfl,hOz,hSz⟩
 refine ⟨z,rfl,?_⟩
 have hwl:=splitK_len [10] 1 (min 10 (l.length+1) - 1) l
 have hwle:=splitK_le 10 1 (min 10 (l.length+1) - 1) l
 have hgp:∀ ds0 fs0,prgOk ds0 fs0→shP ds0 fs0=l→Lib.splitK [10] 1 (min 10 (l.length+1) - 1) l=(ds0.map shD++fs0.map shF)++[[]]∧ds0.length+fs0.length≤8:=by
  intro ds0 fs0 hp hm
  have h1:=hp.1.1.1
  have h2:=hp.1.2.2.1
  rw [List.length_map] at h2
  have h3:=shP_cnt ds0 fs0
  rw [hm] at h3
  have h4:l.count 10≤l.length:=List.count_le_length
  have h5:(shP ds0 fs0).length=l.length:=by rw [hm]
  refine ⟨?_,by omega⟩
  conv=>lhs;rw [←hm]
  exact cut_program _ (by omega)
 generalize Lib.splitK [10] 1 (min 10 (l.length+1) - 1) l=W at hOz hwl hwle hgp
 have hzn:=hOz.n
 rw [List.length_map] at hzn
 refine St.box (vals:=[(Sl.mk none 0 0).val,(Sl.mk none 0 0).val]) hSz fun a w2 I2 hC hS2 _=>?_
 refine ⟨fun i w=>∃ (ds:List DeclD) (fs:List FunD),PrS v a (Iz++[]) ds fs w∧0≤i∧i≤W.length∧ds.length≤i∧fs.length≤i∧(∀ ds0 fs0,prgOk ds0 fs0→shP ds0 fs0=l→ds=ds0.take i.toNat∧fs=fs0.take (i.toNat - ds0.length)),fun i _=>(W.length - i).toNat,⟨[],[],⟨⟨none,0,0⟩,⟨none,0,0⟩,I2,[],[],hC,OwnD.nil,OwnD.nil,by simpa using hS2⟩,by omega,by omega,by simp,by simp,fun ds0 fs0 _ _=>by simp⟩,?_⟩
 clear hC hS2
 rintro i w ⟨ds,fs,hP,i0,i1,hdl,hfl,hG⟩
 dsimp only
 refine ⟨fun hi=>?_,fun hi=>?_⟩
 ·simp only [bls] at hi
  have hil:i < W.length:=by omega
  have hrd:Read w z (W.map str):=(hOz.anyS v).read (hP.items:St v w (Iz++[]))
  have hil2:i < (W.map str).length:=by rw [List.length_map];exact hil
  have hpl:=hwle _ (nth_mem i0 hil)
  have hget:W[i.toNat]?=some (nth W i):=nth_get i0 hil
  refine ⟨hrd.ix i0 hil2,_,hrd.str i0 hil2,?_⟩
  rw [nth_str W i0 hil]
  generalize nth W i=p at hpl hget ⊢
  refine ⟨_,fun _=>c_TrimSuffix [10] (by omega),fun hq=>?_,fun hq=>?_⟩
  ·rw [str_eqB _ _ (m:=[]) rfl] at hq
   simp only [bls] at hq
   have htl:=trim_le p [10]
   refine (c_readLine (L:=Iz++[]) hT (by omega) (by omega) (by omega) hP).mono' ?_
   rintro _ w4 ⟨q,ds',fs',rfl,hP4,hd4,hf4,hG4⟩
   have gh:∀ ds0 fs0,prgOk ds0 fs0→shP ds0 fs0=l→q=true∧ds'=ds0.take (i+1).toNat∧fs'=fs0.take ((i+1).toNat - ds0.length):=by
    intro ds0 fs0 hp hm
    obtain ⟨g1,g2⟩:=hG ds0 fs0 hp hm
    have hW:=(hgp ds0 fs0 hp hm).1
    have hit:i.toNat < ds0.length+fs0.length:=by
     apply Classical.byContradiction
     intro hn
     have hWl:=congrArg List.length hW
     simp only [List.length_append,List.length_map,List.length_cons,List.length_nil] at hWl
     rw [hW,List.getElem?_append_right (by simp;omega)] at hget
     simp only [List.length_append,List.length_map] at hget
     rw [show i.toNat - (ds0.length+fs0.length)=0 by omega] at hget
     exact hq (Option.some.inj hget).symm
    rw [hW] at hget
    rw [show (i+1).toNat=i.toNat+1 by omega]
    rcases take_line hit hget with ⟨d,hd,hpd,t1,t2⟩|⟨f,hf,hpf,t1,t2⟩
    ·obtain ⟨bb,hbb⟩:=shD_end d
     obtain ⟨k1,k2,k3⟩:=hG4.1 d (dpr_decl hp.1.1 d hd) (by rw [hpd,hbb,trim_nl])
     exact ⟨k1,by rw [k2,g1,t1],by rw [k3,g2,t2]⟩
    ·obtain ⟨bb,hbb⟩:=shF_end f
     obtain ⟨k1,k2,k3⟩:=hG4.2 f (sm_fun hp f hf) (by rw [hpf,hbb,trim_nl])
     exact ⟨k1,by rw [k2,g1,t1],by rw [k3,g2,t2]⟩
   refine ⟨q,rfl,fun hb=>?_,fun hb=>?_⟩
   ·have hb:q=false:=by simpa using hb
    obtain ⟨x1,y1,I1,J1,K1,hC1,hD1,hF1,hS1⟩:=hP4
    refine ⟨[],[],⟨none,0,0⟩,⟨none,0,0⟩,false,[],[],I1++(J1++(K1++(Iz++[]))),rfl,OwnD.nil,OwnD.nil,by simpa using hS1,.inr ⟨rfl,rfl,rfl,fun ds0 fs0 hp hm=>?_⟩⟩
    have:=(gh ds0 fs0 hp hm).1
    rw [hb] at this;cases this
   ·refine go_wr (by omega) (by omega) ?_
    exact ⟨rfl,rfl,⟨ds',fs',hP4,by omega,by omega,by omega,by omega,fun ds0 fs0 hp hm=>(gh ds0 fs0 hp hm).2⟩,by omega⟩
  ·rw [str_eqB _ _ (m:=[]) rfl] at hq
   simp only [bls] at hq
   refine go_wr (by omega) (by omega) ?_
   refine ⟨rfl,rfl,⟨ds,fs,hP,by omega,by omega,by omega,by omega,fun ds0 fs0 hp hm=>?_⟩,by omega⟩
   obtain ⟨g1,g2⟩:=hG ds0 fs0 hp hm
   have hW:=(hgp ds0 fs0 hp hm).1
   have hit:¬ i.toNat < ds0.length+fs0.length:=by
    intro hit
    rw [hW] at hget
    rcases take_line hit hget with ⟨d,hd,hpd,t1,t2⟩|⟨f,hf,hpf,t1,t2⟩
    ·obtain ⟨bb,hbb⟩:=shD_end d
     rw [hpd,hbb] at hq
     exact absurd hq (by simp)
    ·obtain ⟨bb,hbb⟩:=shF_end f
     rw [hpf,hbb] at hq
     exact absurd hq (by simp)
   rw [g1,g2,List.take_of_length_le (by omega),List.take_of_length_le (by omega),List.take_of_length_le (by omega),List.take_of_length_le (by omega)]
   exact ⟨rfl,rfl⟩
 ·simp only [bls] at hi
  obtain ⟨x1,y1,I1,J1,K1,hC1,hD1,hF1,hS1⟩:=hP
  have hSt:St v w (J1++(K1++(I1++(Iz++[])))):=hS1.perm (by
   classical
   exact List.perm_iff_count.2 fun a=>by simp only [List.count_append];omega)
  have hgo:∀ ds0 fs0,prgOk ds0 fs0→shP ds0 fs0=l→ds0=ds∧fs0=fs:=by
   intro ds0 fs0 hp hm
   obtain ⟨g1,g2⟩:=hG ds0 fs0 hp hm
   have hWl:=congrArg List.length (hgp ds0 fs0 hp hm).1
   simp only [List.length_append,List.length_map,List.length_cons,List.length_nil] at hWl
   rw [g1,g2,List.take_of_length_le (by omega),List.take_of_length_le (by omega)]
   exact ⟨rfl,rfl⟩
  refine ⟨x1,y1,⟨hC1.load hS1 rfl,hC1.load hS1 rfl⟩,_,c_implFormatProgram (hT.1.1.mono hS1.sub) (hD1.read hSt) (hF1.read hSt),?_⟩
  rw [str_eqB _ _ (m:=[]) rfl,str_eqB _ _ (m:=l) (str_data _)]
  have hne:∀ ds0 fs0,prgOk ds0 fs0→shP ds0 fs0≠[]:=by
   intro ds0 fs0 hp hm
   have h1:=hp.1.2.1
   rw [List.length_map] at h1
   have h3:=shP_cnt ds0 fs0
   rw [hm] at h3
   simp at h3
   omega
  refine ⟨fun hq=>?_,fun hq=>⟨x1,y1,⟨hC1.load hS1 rfl,hC1.load hS1 rfl⟩,?_⟩⟩
  ·refine ⟨[],[],⟨none,0,0⟩,⟨none,0,0⟩,false,[],[],J1++(K1++(I1++(Iz++[]))),rfl,OwnD.nil,OwnD.nil,by simpa using hSt,.inr ⟨rfl,rfl,rfl,fun ds0 fs0 hp hm=>?_⟩⟩
   obtain ⟨k1,k2⟩:=hgo ds0 fs0 hp hm
   subst k1;subst k2
   have hf:fmtP ds0 fs0=l:=by unfold fmtP;rw [if_pos (pB_iff.2 hp)];exact hm
   rw [hf] at hq
   simp only [bls] at hq
   rcases hq with hq|hq
   ·exact hne _ _ hp (hm.trans hq)
   ·exact hq (by trivial)
  ·simp only [bls] at hq
   obtain ⟨q1,q2⟩:=hq
   have hp:prgOk ds fs:=by
    apply Classical.byContradiction
    intro hn
    apply q1
    unfold fmtP
    rw [if_neg (fun h=>hn (pB_iff.1 h))]
   have hf:fmtP ds fs=shP ds fs:=by unfold fmtP;rw [if_pos (pB_iff.2 hp)]
   rw [hf] at q2
   exact ⟨ds,fs,x1,y1,true,J1,K1,I1++(Iz++[]),rfl,hD1,hF1,hSt,.inl ⟨rfl,hp,q2,fun ds0 fs0 hp0 hm0=>hgo ds0 fs0 hp0 hm0⟩⟩
end
end Go.Vc
