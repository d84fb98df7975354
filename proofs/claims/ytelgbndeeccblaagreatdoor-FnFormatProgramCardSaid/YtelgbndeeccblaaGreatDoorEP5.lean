/- Part of the proofs about the heaps and memories: a law is joined in the text whose name ends in W and the law. -/
import Derived.Test.YtelgbndeeccblaaGreatDoorEP2
import Derived.Test.YtelgbndeeccblaaGreatDoorEP4
set_option linter.all false
namespace Go.Vc
open Go Go.Proofs Go.RowKit
def shN (l:List Int):List UInt8:=40 ::(Lib.join (l.map Lib.itoa) [44]++[41])
def shD (d:DeclD):List UInt8:=if d.cons.length=0 then [97,114,114,111,119,32]++Lib.itoa d.frm++[32]++Lib.itoa d.to_++[10] else [100,97,116,97]++(d.cons.map fun c=>32 ::shN c.fields).flatten++[10]
def shF (f:FunD):List UInt8:=[102,117,110,32]++shN f.params++[32]++Lib.itoa f.result++[32]++showE f.body++[10]
def shP (ds:List DeclD) (fs:List FunD):List UInt8:=(ds.map shD).flatten++(fs.map shF).flatten
noncomputable def fmtP (ds:List DeclD) (fs:List FunD):List UInt8:=if pB (prgOk ds fs)=true then shP ds fs else []
theorem join_snoc {l:List (List UInt8)} (h:l≠[]) (y s:List UInt8):Lib.join (l++[y]) s=Lib.join l s++s++y:=by
 cases l with
 | nil=>exact absurd rfl h
 | cons x r=>
  rw [List.cons_append,Lib.join_cons,Lib.join_cons]
  simp [Lib.joinTail]
theorem lens_le {l:List Int} (h:∀ n∈l,InI n):Lib.lens (l.map Lib.itoa)≤20 * l.length:=by
 induction l with
 | nil=>simp [Lib.lens]
 | cons a r ih=>
  have h1:=itoa_len (h a (by simp))
  have h2:=ih fun n hn=>h n (by simp [hn])
  simp only [Lib.lens,List.map_cons,List.sum_cons,List.length_cons] at h2 ⊢
  omega
theorem joinI_len {l:List Int} (h:∀ n∈l,InI n):(Lib.join (l.map Lib.itoa) [44]).length≤21 * l.length:=by
 cases l with
 | nil=>simp [Lib.join_nil]
 | cons a r=>
  have h1:=lens_le h
  rw [List.map_cons,Lib.join_length,←List.map_cons]
  simp only [List.length_cons,List.length_map,List.length_nil] at h1 ⊢
  omega
theorem shN_len {l:List Int} (h:∀ n∈l,InI n):(shN l).length≤21 * l.length+2:=by
 have:=joinI_len h
 unfold shN
 simp only [List.length_cons,List.length_append,List.length_nil]
 omega
theorem join_take {l:List Int} {i:Int} (h0:0≤i) (h1:i < l.length):Lib.join ((l.take (i+1).toNat).map Lib.itoa) [44]=(if 0 < i then Lib.join ((l.take i.toNat).map Lib.itoa) [44]++[44] else [])++Lib.itoa (nth l i):=by
 rw [take_nth h0 h1,List.map_append]
 by_cases hi:0 < i
 ·rw [if_pos hi,List.map_cons,List.map_nil,join_snoc]
  intro h
  have:=congrArg List.length h
  rw [List.length_map,List.length_take,List.length_nil] at this
  omega
 ·have e:i=0:=by omega
  subst e
  simp [Lib.join_one]
theorem fr_below {v W W':World} (hs:Sub v W) (hb:Below W.heap.size W W'):Fr v W v W':=by
 refine ⟨⟨Nat.le_trans hs.size hb.size,fun b o ho hne=>?_⟩,hb.size,hb.os,hb.tape,hb.output,fun b hlt hO=>⟨hO,hb.block b hlt⟩⟩
 have h1:=hs.at_ b o ho hne
 rw [hb.block b (getElem?_lt h1)]
 exact h1
section
variable {u v w:World} {x y z f:Sl} {l:List Int} {ds:List DeclD} {fs:List FunD} {I L R:Items} {F:Items→Items}
theorem c_Join {xs:List ByteArray} (hO:Own u x xs I) (hS:St u w L) [p:Pos I L R F] (hlen:(Lib.join (xs.map (·.data.toList)) [44]).length≤1000000):
  Fn Tryz.prog 82 #[x.val,.string (ByteArray.mk #[44])] w (.string (str (Lib.join (xs.map (·.data.toList)) [44]))):=by
 have hA:AtAll w I:=hS.items
 obtain ⟨rows,h1,h2,h3⟩:=hO
 refine ⟨fun W=>callFunc_enter Tryz.func82 (by kernel_rfl) rfl _ _,fun W hs=>?_⟩
 cases h1 with
 | nil=>
  have hxs:xs=[]:=List.eq_nil_of_length_eq_zero (by have:=h2.1;simp at this;omega)
  subst hxs
  refine (Tryz.strings_Join_none none 0 (ByteArray.mk #[44]) W).mono ?_
  rintro e W' ⟨rfl,rfl⟩
  exact ⟨_,w,rfl,.refl hs,rfl,.refl w⟩
 | blk g o n c cur e _ hn hc hm hcs hr=>
  have hl:rows.length=xs.length:=h2.1
  have hb:W.heap[g]?=some (.cells cur e (0,0)):=hs.at_ _ _ (hA _ (List.mem_singleton.2 rfl)).1 (by simp [absent])
  have hlt:=getElem?_lt hb
  have e1:n=xs.length:=by omega
  subst e1
  refine (Tryz.strings_Join g o c xs (ByteArray.mk #[44]) W (fun j s hj=>?_) hlt (by unfold BB at h3;omega) hc (by show (Lib.join _ [44]).length≤_;omega)).mono ?_
  ·have hjl:j < rows.length:=by
    have:=(List.getElem?_eq_some_iff.1 hj).1
    omega
   have hrow:=List.getElem?_eq_getElem hjl
   have hcell:rows[j]=[Value.string s]:=h2.2 j _ s hrow hj
   have h5:=(hr j _ hrow).2 0 (.string s) (by rw [hcell];rfl)
   rw [Lib.cell_of_heap hb]
   rw [←h5]
   congr 1
   show o+j=o+j * 1+0
   omega
  ·rintro e W' ⟨rfl,hbw⟩
   exact ⟨_,w,rfl,fr_below hs hbw,rfl,.refl w⟩
theorem c_showNumbers (hx:Read v x l) (hl:l.length≤100) (hr:∀ n∈l,-1000000 < n∧n < 1000000):Fn Tryz.prog 76 #[x.val] v (.string (str (shN l))):=by
 refine of76 _ _ _ ?_
 unfold vc76
 have hxn:=hx.n
 have hmI:∀ n∈l,InI n:=hx.int_mem
 refine ⟨fun s i w=>v=w∧0≤i∧i≤l.length∧s=str (40 ::Lib.join ((l.take i.toNat).map Lib.itoa) [44]),fun _ i _=>(l.length - i).toNat,⟨rfl,by omega,by omega,rfl⟩,?_⟩
 rintro s i _ ⟨rfl,i0,i1,rfl⟩
 dsimp only
 have hj:(Lib.join ((l.take i.toNat).map Lib.itoa) [44]).length≤2100:=by
  have:=joinI_len (l:=l.take i.toNat) fun n hn=>hmI n (List.mem_of_mem_take hn)
  have h2:(l.take i.toNat).length≤l.length:=by rw [List.length_take];omega
  omega
 have hp:(str (40 ::Lib.join ((l.take i.toNat).map Lib.itoa) [44])).size≤2101:=by rw [str_size,List.length_cons];omega
 refine ⟨fun hi=>?_,fun hi=>?_⟩
 ·simp only [bls] at hi
  have hil:i < l.length:=by omega
  have hm:=nth_mem (l:=l) i0 hil
  have hI:=hmI _ hm
  have hlen:=itoa_sz hI
  have hj2:=join_take (l:=l) i0 hil
  refine ⟨fun hc=>?_,fun hc=>?_⟩
  ·simp only [bls] at hc
   refine ⟨by show ((_+1:Nat):Int)≤_;omega,?_⟩
   refine go_ix hx i0 hil ?_
   refine ⟨_,(hx.int i0 hil).1,_,c_decimal (hr _ hm).1 (hr _ hm).2,by rw [ByteArray.size_append];show ((_+1+_:Nat):Int)≤_;omega,?_⟩
   refine go_wr (by omega) (by omega) ?_
   refine ⟨⟨rfl,by omega,by omega,?_⟩,by omega⟩
   rw [hj2,if_pos (by omega),str_eq (l:=[44]) rfl,←str_app,←str_app]
   simp
  ·simp only [bls] at hc
   refine go_ix hx i0 hil ?_
   refine ⟨_,(hx.int i0 hil).1,_,c_decimal (hr _ hm).1 (hr _ hm).2,by omega,?_⟩
   refine go_wr (by omega) (by omega) ?_
   refine ⟨⟨rfl,by omega,by omega,?_⟩,by omega⟩
   have e:i=0:=by omega
   subst e
   rw [hj2,if_neg (by omega),←str_app]
   simp [Lib.join_nil]
 ·simp only [bls] at hi
  rw [take_all (by omega)] at hp ⊢
  refine ⟨by show ((_+1:Nat):Int)≤_;omega,?_,.refl v⟩
  rw [str_eq (l:=[41]) rfl,←str_app]
  rfl
theorem c_listText (hT:Tab v) (hx:Read v x l) (hl:l.length≤100):Fn Tryz.prog 39 #[x.val] v (.string (str (shN l))):=by
 refine of39 _ _ _ ?_
 unfold vc39
 have hxn:=hx.n
 have hmI:∀ n∈l,InI n:=hx.int_mem
 refine St.make0 (α:=ByteArray) (St.refl v) (by omega) (by omega) (by decide) ?_
 intro z0 w0 I0 hO0 hS0 hs0
 refine ⟨_,rfl,?_⟩
 refine ⟨fun z i w=>∃ I,Own v z ((l.take i.toNat).map fun n=>str (Lib.itoa n)) I∧St v w (I++[])∧0≤i∧i≤l.length,fun _ i _=>(l.length - i).toNat,⟨I0,by simpa using hO0,hS0,by omega,by omega⟩,?_⟩
 clear hO0 hS0 hs0
 rintro z i w ⟨I,hO,hS,i0,i1⟩
 dsimp only
 refine ⟨fun hi=>?_,fun hi=>?_⟩
 ·simp only [bls] at hi
  have hil:i < l.length:=by omega
  have hm:=nth_mem (l:=l) i0 hil
  refine go_ix hx i0 hil ?_
  refine ⟨_,((hx.mono hS.sub).int i0 hil).1,_,c_Itoa (hT.mono hS.sub) (hmI _ hm),?_⟩
  refine St.build (α:=ByteArray) (l:=[str (Lib.itoa (nth l i))]) hS (VsOf.cons VOf.str VsOf.nil) rfl (by decide) ?_
  intro x4 w4 I4 hO4 hS hs
  refine ⟨_,rfl,?_⟩
  refine Own.append hO hS (Own.src hO4 hS) (by simp;omega) (by decide) ?_
  intro x5 w5 I5 hO5 hS
  refine ⟨_,rfl,?_⟩
  refine go_wr (by omega) (by omega) ?_
  refine ⟨⟨I5,?_,hS.to,by omega,by omega⟩,by omega⟩
  rw [take_nth i0 hil,List.map_append]
  exact hO5
 ·simp only [bls] at hi
  rw [take_all (by omega)] at hO
  have he:(l.map fun n=>str (Lib.itoa n)).map (·.data.toList)=l.map Lib.itoa:=by
   rw [List.map_map]
   exact List.map_congr_left fun n _=>str_data _
  have hjl:=joinI_len hmI
  refine (c_Join hO hS (by rw [he];omega)).mono' ?_
  rintro _ w2 ⟨rfl,hs2⟩
  rw [he]
  refine ⟨_,rfl,?_,?_,?_,hS.sub.trans hs2⟩
  ·rw [str_size];show ((1+_:Nat):Int)≤_;omega
  ·rw [ByteArray.size_append,str_size];show ((1+_+1:Nat):Int)≤_;omega
  ·rw [str_eq (l:=[40]) rfl,str_eq (l:=[41]) rfl,←str_app,←str_app]
   rfl
end
end Go.Vc
namespace Go.Vc
open Go Go.Proofs Go.RowKit
theorem canL_of {l:List ExprD} (h:∀ k∈l,canE k=true):canL l=true:=by
 induction l with
 | nil=>rw [canL_nil]
 | cons a r ih=>rw [canL_cons,h a (by simp),ih fun k hk=>h k (by simp [hk])];rfl
theorem arm_all {vars:List Int} {fs:List (List Int)} {ks:List (List Int→Option Int)} {t:Int} (h:same1 (armT vars fs ks)=some t) (hl:ks.length=fs.length):∀ k∈ks,∃ f∈fs,k (vars++f)=some t:=by
 intro k hk
 obtain ⟨i,hi,rfl⟩:=List.getElem_of_mem hk
 refine ⟨fs[i],List.getElem_mem _,?_⟩
 refine same1_some h _ ?_
 unfold armT
 have hz:i < (List.zipWith (fun f k=>k (vars++f)) fs ks).length:=by rw [List.length_zipWith];omega
 have:=List.getElem_mem hz
 rwa [List.getElem_zipWith] at this
theorem kid_cases {l:List ExprD} {k:ExprD} (h:k∈l):k=nth l 0∨k∈l.drop 1:=by
 cases l with
 | nil=>cases h
 | cons a r=>
  rcases List.mem_cons.1 h with rfl|h
  ·exact .inl rfl
  ·exact .inr (by simpa using h)
theorem conTyV_num {ds:List DeclD} {n:Int} (hd:typesOk ds) (h:0 < conTyV ds n):0≤n∧n < 13:=by
 have h1:0≤conI ds n:=by
  unfold conTyV at h
  split at h<;>omega
 have h2:=conI_iff.1 h1
 have h3:=firstC_le (ds:=ds) (fun d hdm=>by
  obtain ⟨i,hi,rfl⟩:=List.getElem_of_mem hdm
  have:=(declOk_easy (hd.2 i (by omega) (by omega))).2.2.1
  rwa [nth_of (a:=ds[i]) (by simp [List.getElem?_eq_getElem hi])] at this) ds.length
 have:=hd.1
 omega
theorem tyX_can {ds:List DeclD} {ss:List SigD} (h:sigSigs ds ss) (e:ExprD):∀ vars t,vars.length+3 * nodesE e≤102→tyX ds ss e vars=some t→canE e=true:=by
 refine ex_ind (P:=fun e=>∀ vars t,vars.length+3 * nodesE e≤102→tyX ds ss e vars=some t→canE e=true) (fun e ih vars t hn ht=>?_) e
 rw [nodesE_eq] at hn
 rw [tyX_eq] at ht
 unfold ndT at ht
 have hlen:(e.kids.map (tyX ds ss)).length=e.kids.length:=by simp
 rw [hlen] at ht
 have kid:∀ k∈e.kids,∀ vs t',vs.length≤vars.length+3→tyX ds ss k vs=some t'→canE k=true:=fun k hk vs t' hv ht'=>ih k hk vs t' (by have:=nodes_mem hk;omega) ht'
 have arms:∀ fs:List (List Int),(∀ f∈fs,f.length≤3)→e.kids.length=1+fs.length→same1 (armT vars fs ((e.kids.map (tyX ds ss)).drop 1))=some t→∀ k∈e.kids.drop 1,canE k=true:=by
  intro fs hfs hl hs k hk
  obtain ⟨f,hf,hk2⟩:=arm_all hs (by rw [List.length_drop,hlen];omega) (tyX ds ss k) (by rw [←List.map_drop];exact List.mem_map_of_mem hk)
  exact kid k (List.mem_of_mem_drop hk) _ _ (by rw [List.length_append];have:=hfs f hf;omega) hk2
 rw [canE_eq,Bool.and_eq_true,okN_iff]
 split at ht
 ·rename_i h12
  split at ht
  ·rename_i hc
   refine ⟨by omega,?_⟩
   rw [List.eq_nil_of_length_eq_zero hc.1,canL_nil]
  ·cases ht
 split at ht
 ·rename_i h12 h13
  split at ht
  ·rename_i hc
   have hl:e.kids.length=2:=by omega
   rw [kf_map (by omega),kf_map (by omega)] at ht
   obtain ⟨t0,h0,h1⟩:=Option.bind_eq_some_iff.1 ht
   refine ⟨by omega,canL_of fun k hk=>?_⟩
   obtain ⟨i,hi,rfl⟩:=List.getElem_of_mem hk
   have hi2:i=0∨i=1:=by omega
   rcases hi2 with rfl|rfl
   ·refine kid _ hk vars t0 (by omega) ?_
    rwa [nth_of (a:=e.kids[0]) (by simp [List.getElem?_eq_getElem hi])] at h0
   ·refine kid _ hk (vars++[t0]) t (by simp) ?_
    rwa [nth_of (a:=e.kids[1]) (by simp [List.getElem?_eq_getElem hi])] at h1
  ·cases ht
 split at ht
 ·rename_i h12 h13 h7
  split at ht
  ·rename_i hc
   refine ⟨by omega,canL_of fun k hk=>?_⟩
   rcases kid_cases hk with hk0|hk1
   ·have h0:=hc.2.2
    rw [kf_map (by omega)] at h0
    rw [hk0] at hk ⊢
    exact kid _ hk _ _ (by omega) h0
   ·exact arms [[],[]] (by intro f hf;simp at hf;subst hf;simp) (by simp;omega) ht k hk1
  ·cases ht
 split at ht
 ·rename_i h12 h13 h7 h8
  split at ht
  ·rename_i hc
   refine ⟨?_,canL_of fun k hk=>?_⟩
   ·have:0≤e.num∧e.num≤4:=by
     have h1:=hc.1
     have:=h.1.1
     unfold armF consL at h1
     split at h1
     ·omega
     ·simp at h1
    omega
   rcases kid_cases hk with hk0|hk1
   ·have h0:=hc.2.2
    rw [kf_map (by omega)] at h0
    rw [hk0] at hk ⊢
    exact kid _ hk _ _ (by omega) h0
   ·exact arms _ (fun f hf=>(armF_nnM h.1 hf).2) hc.2.1 ht k hk1
  ·cases ht
 ·rename_i h12 h13 h7 h8
  obtain ⟨T,hT,hs⟩:=Option.bind_eq_some_iff.1 ht
  have hA:=allT_some.1 hT
  refine ⟨?_,canL_of fun k hk=>?_⟩
  ·have hTl:T.length=e.kids.length:=by
    have:=congrArg List.length hA
    simpa using this.symm
   unfold simB at hs
   split at hs
   ·rename_i W n hw
    split at hs
    ·rename_i hTW
     have hsl:=h.2.2.1
     unfold wantB at hw
     split at hw
     ·split at hw
      ·cases hw
       rw [hTW] at hTl
       simp at hTl
       omega
      ·cases hw
     split at hw
     ·split at hw
      ·omega
      ·cases hw
     split at hw
     ·split at hw
      ·omega
      ·cases hw
     split at hw
     ·split at hw
      ·rename_i hc
       have:=conTyV_num h.1 hc
       omega
      ·cases hw
     split at hw
     ·split at hw
      ·omega
      ·cases hw
     split at hw
     ·split at hw
      ·omega
      ·cases hw
     split at hw
     ·split at hw
      ·omega
      ·cases hw
     ·cases hw
    ·cases hs
   ·cases hs
  ·have hm:tyX ds ss k vars∈T.map some:=by
    rw [←hA,List.map_map]
    exact List.mem_map_of_mem (f:=(fun k=>k vars) ∘ tyX ds ss) hk
   obtain ⟨t',_,ht'⟩:=List.mem_map.1 hm
   exact kid k hk vars t' (by omega) ht'.symm
def dSm (d:DeclD):Prop:=(0≤d.frm∧d.frm≤4)∧(0≤d.to_∧d.to_≤4)∧d.cons.length≤3∧∀ c∈d.cons,c.fields.length≤3∧nonneg c.fields
def fSm (f:FunD):Prop:=f.params.length≤3∧nonneg f.params∧(0≤f.result∧f.result≤4)∧nodesE f.body≤30∧canE f.body=true
theorem typeB_le {N:Nat} {t:Int} (h:typeB N t=true) (hN:N≤4):0≤t∧t≤4:=by
 unfold typeB at h
 simp only [Bool.and_eq_true,decide_eq_true_eq] at h
 omega
theorem sm_decl {ds:List DeclD} (h:typesOk ds):∀ d∈ds,dSm d:=by
 intro d hd
 obtain ⟨i,hi,rfl⟩:=List.getElem_of_mem hd
 have h1:=declOk_easy (h.2 i (by omega) (by omega))
 rw [nth_of (a:=ds[i]) (by simp [List.getElem?_eq_getElem hi])] at h1
 exact ⟨typeB_le h1.1 h.1,typeB_le h1.2.1 h.1,h1.2.2.1,fun c hc=>⟨(h1.2.2.2.2.1 c hc).1,all_nn h.1 (h1.2.2.2.2.1 c hc).2⟩⟩
theorem sm_fun {ds:List DeclD} {fs:List FunD} (h:prgOk ds fs):∀ f∈fs,fSm f:=by
 intro f hf
 obtain ⟨i,hi,rfl⟩:=List.getElem_of_mem hf
 have hp:=par_nn h.1 (i:=i) (by omega) (by omega)
 have h2:=h.2 i (by omega) (by omega)
 have hc:=tyX_can h.1 _ _ _ (by omega) h2.2
 rw [nth_of (a:=fs[i]) (by simp [List.getElem?_eq_getElem hi])] at hp h2 hc
 exact ⟨hp.2.1,hp.1,hp.2.2,h2.1,hc⟩
theorem nn_InI {l:List Int} (h:nonneg l):∀ n∈l,InI n:=fun n hn=>⟨by have:=h n hn;omega,by have:=h n hn;omega⟩
theorem conTx_len {l:List ConD} (h:∀ c∈l,c.fields.length≤3∧nonneg c.fields):((l.map fun c=>32 ::shN c.fields).flatten).length≤66 * l.length:=by
 induction l with
 | nil=>simp
 | cons a r ih=>
  have h1:=h a (by simp)
  have h2:=shN_len (nn_InI h1.2)
  have h3:=ih fun c hc=>h c (by simp [hc])
  simp only [List.map_cons,List.flatten_cons,List.length_append,List.length_cons] at h3 ⊢
  omega
theorem shD_len {d:DeclD} (h:dSm d):(shD d).length≤300:=by
 obtain ⟨h1,h2,h3,h4⟩:=h
 have e1:=itoa_len (n:=d.frm) ⟨by omega,by omega⟩
 have e2:=itoa_len (n:=d.to_) ⟨by omega,by omega⟩
 have e3:=conTx_len h4
 unfold shD
 split<;>simp only [List.length_append,List.length_cons,List.length_nil]<;>omega
theorem shF_len {f:FunD} (h:fSm f):(shF f).length≤600:=by
 obtain ⟨h1,h2,h3,h4,h5⟩:=h
 have e1:=itoa_len (n:=f.result) ⟨by omega,by omega⟩
 have e2:=shN_len (nn_InI h2)
 have e3:=show_len _ h5
 unfold shF
 simp only [List.length_append,List.length_cons,List.length_nil]
 omega
theorem flatU_len {α:Type} {l:List α} {f:α→List UInt8} {N:Nat} (h:∀ a∈l,(f a).length≤N):((l.map f).flatten).length≤N * l.length:=by
 induction l with
 | nil=>simp
 | cons a r ih=>
  have h1:=h a (by simp)
  have h3:=ih fun c hc=>h c (by simp [hc])
  simp only [List.map_cons,List.flatten_cons,List.length_append,List.length_cons] at h3 ⊢
  rw [Nat.mul_succ]
  omega
theorem flatU_take {α:Type} [Inhabited α] {l:List α} {f:α→List UInt8} {i:Int} (h0:0≤i) (h1:i < l.length):((l.take (i+1).toNat).map f).flatten=((l.take i.toNat).map f).flatten++f (nth l i):=by
 rw [take_nth h0 h1,List.map_append,List.flatten_append]
 simp
end Go.Vc
namespace Go.Vc
open Go Go.Proofs Go.RowKit
section
variable {u v w:World} {x y z f:Sl} {ds:List DeclD} {fs:List FunD} {d:DeclD} {I L R:Items} {F:Items→Items}
theorem c_showDecl (hf:Read v f d.cons) (hd:dSm d):Fn Tryz.prog 75 #[.agg #[.int .i64 d.frm,.int .i64 d.to_,f.val]] v (.string (str (shD d))):=by
 refine of75 _ _ _ _ _ ?_
 unfold vc75
 have hn:=hf.n
 obtain ⟨⟨a1,a2⟩,⟨b1,b2⟩,h3,h4⟩:=hd
 have e1:=itoa_sz (n:=d.frm) ⟨by omega,by omega⟩
 have e2:=itoa_sz (n:=d.to_) ⟨by omega,by omega⟩
 refine ⟨fun hc=>?_,fun hc=>?_⟩
 ·simp only [bls] at hc
  refine ⟨_,c_decimal (by omega) (by omega),?_,?_,_,c_decimal (by omega) (by omega),?_,?_,?_,.refl v⟩
  ·show ((6+_:Nat):Int)≤_;omega
  ·rw [ByteArray.size_append];show ((6+_+1:Nat):Int)≤_;omega
  ·rw [ByteArray.size_append,ByteArray.size_append];show ((6+_+1+_:Nat):Int)≤_;omega
  ·rw [ByteArray.size_append,ByteArray.size_append,ByteArray.size_append];show ((6+_+1+_+1:Nat):Int)≤_;omega
  ·unfold shD
   rw [if_pos (by omega),str_eq (l:=[97,114,114,111,119,32]) rfl,str_eq (l:=[32]) rfl,str_eq (l:=[10]) rfl,←str_app,←str_app,←str_app,←str_app]
 ·simp only [bls] at hc
  refine ⟨fun s i w=>v=w∧0≤i∧i≤d.cons.length∧s=str ([100,97,116,97]++((d.cons.take i.toNat).map fun c=>32 ::shN c.fields).flatten),fun _ i _=>(d.cons.length - i).toNat,⟨rfl,by omega,by omega,rfl⟩,?_⟩
  rintro s i _ ⟨rfl,i0,i1,rfl⟩
  dsimp only
  have hp:(str ([100,97,116,97]++((d.cons.take i.toNat).map fun c=>32 ::shN c.fields).flatten)).size≤300:=by
   have:=conTx_len (l:=d.cons.take i.toNat) fun c hc=>h4 c (List.mem_of_mem_take hc)
   have h2:(d.cons.take i.toNat).length≤3:=by rw [List.length_take];omega
   rw [str_size,List.length_append]
   simp only [List.length_cons,List.length_nil]
   omega
  refine ⟨fun hi=>?_,fun hi=>?_⟩
  ·simp only [bls] at hi
   have hil:i < d.cons.length:=by omega
   have hm:=h4 _ (nth_mem (l:=d.cons) i0 hil)
   obtain ⟨g,e3,r3⟩:=(hf.src (.refl v)).ofConD i0 hil
   have hl:=shN_len (nn_InI hm.2)
   refine ⟨by show ((_+1:Nat):Int)≤_;omega,?_⟩
   refine go_ix hf i0 hil ?_
   refine ⟨_,e3,_,c_showNumbers r3 (by omega) (fun n hn=>by have:=hm.2 n hn;omega),?_,?_⟩
   ·rw [ByteArray.size_append,str_size (shN _)];show ((_+1+_:Nat):Int)≤_;omega
   refine go_wr (by omega) (by omega) ?_
   refine ⟨rfl,rfl,rfl,⟨rfl,by omega,by omega,?_⟩,by omega⟩
   rw [flatU_take i0 hil,str_eq (l:=[32]) rfl,←str_app,←str_app]
   simp
  ·simp only [bls] at hi
   rw [take_all (by omega)] at hp ⊢
   refine ⟨by show ((_+1:Nat):Int)≤_;omega,?_,.refl v⟩
   unfold shD
   rw [if_neg (by omega),str_eq (l:=[10]) rfl,←str_app]
theorem c_showProgram (hx:Read v x ds) (hy:Read v y fs) (hd:∀ d∈ds,dSm d) (hf:∀ f∈fs,fSm f) (hdl:ds.length≤4) (hfl:fs.length≤4):Fn Tryz.prog 34 #[.agg #[x.val,y.val]] v (.string (str (shP ds fs))):=by
 refine of34 _ _ _ _ ?_
 unfold vc34
 have hxn:=hx.n
 have hyn:=hy.n
 have tlen:∀ i:Int,((ds.take i.toNat).map shD).flatten.length≤1200:=by
  intro i
  have h1:=flatU_len (l:=ds.take i.toNat) (f:=shD) (N:=300) fun d hm=>shD_len (hd d (List.mem_of_mem_take hm))
  have h2:(ds.take i.toNat).length≤4:=by rw [List.length_take];omega
  omega
 have glen:∀ i:Int,((fs.take i.toNat).map shF).flatten.length≤2400:=by
  intro i
  have h1:=flatU_len (l:=fs.take i.toNat) (f:=shF) (N:=600) fun d hm=>shF_len (hf d (List.mem_of_mem_take hm))
  have h2:(fs.take i.toNat).length≤4:=by rw [List.length_take];omega
  omega
 refine ⟨fun s i w=>v=w∧0≤i∧i≤ds.length∧s=str ((ds.take i.toNat).map shD).flatten,fun _ i _=>(ds.length - i).toNat,⟨rfl,by omega,by omega,rfl⟩,?_⟩
 rintro s i _ ⟨rfl,i0,i1,rfl⟩
 dsimp only
 refine ⟨fun hi=>?_,fun hi=>?_⟩
 ·simp only [bls] at hi
  have hil:i < ds.length:=by omega
  have hm:=hd _ (nth_mem (l:=ds) i0 hil)
  obtain ⟨g,e1,e2,e3,j1,j2,r3⟩:=(hx.src (.refl v)).ofDeclD i0 hil
  refine go_ix hx i0 hil ?_
  refine ⟨_,_,g,⟨e1,e2,e3⟩,_,c_showDecl r3 hm,?_,?_⟩
  ·have h1:=tlen i
   have h2:=shD_len hm
   rw [str_size,str_size];omega
  refine go_wr (by omega) (by omega) ?_
  refine ⟨rfl,rfl,⟨rfl,by omega,by omega,?_⟩,by omega⟩
  rw [flatU_take i0 hil,←str_app]
 simp only [bls] at hi
 rw [take_all (by omega)]
 have hD:((ds.map shD).flatten).length≤1200:=by
  have:=tlen ds.length
  rwa [take_all (by omega)] at this
 refine ⟨fun s i w=>v=w∧0≤i∧i≤fs.length∧s=str ((ds.map shD).flatten++((fs.take i.toNat).map shF).flatten),fun _ i _=>(fs.length - i).toNat,⟨rfl,by omega,by omega,by simp⟩,?_⟩
 clear i0 i1 hi
 rintro s i _ ⟨rfl,i0,i1,rfl⟩
 dsimp only
 have hp:(str ((ds.map shD).flatten++((fs.take i.toNat).map shF).flatten)).size≤3600:=by
  have:=glen i
  rw [str_size,List.length_append];omega
 refine ⟨fun hi=>?_,fun hi=>?_⟩
 ·simp only [bls] at hi
  have hil:i < fs.length:=by omega
  obtain ⟨s1,s2,⟨s3,s4⟩,s5,s6⟩:=hf _ (nth_mem (l:=fs) i0 hil)
  obtain ⟨f1,k1,e1,e2,e3,e4,e5,j1,j2,j3,r1,r2⟩:=(hy.src (.refl v)).ofFunD i0 hil
  have q1:=shN_len (nn_InI s2)
  have q2:=itoa_sz j1
  have q3:=show_len _ s6
  refine go_ix hy i0 hil ?_
  refine ⟨f1,_,_,_,k1,⟨e1,e2,e3,e4,e5⟩,?_,_,c_showNumbers r1 (by omega) (fun n hn=>by have:=s2 n hn;omega),?_,?_,_,c_decimal (by omega) (by omega),?_,?_,_,c_showExpr _ v k1 r2 s6 (by omega),?_,?_,?_⟩
  ·show ((_+4:Nat):Int)≤_;omega
  ·rw [ByteArray.size_append,str_size (shN _)];show ((_+4+_:Nat):Int)≤_;omega
  ·rw [ByteArray.size_append,ByteArray.size_append,str_size (shN _)];show ((_+4+_+1:Nat):Int)≤_;omega
  ·rw [ByteArray.size_append,ByteArray.size_append,ByteArray.size_append,str_size (shN _)];show ((_+4+_+1+_:Nat):Int)≤_;omega
  ·rw [ByteArray.size_append,ByteArray.size_append,ByteArray.size_append,ByteArray.size_append,str_size (shN _)];show ((_+4+_+1+_+1:Nat):Int)≤_;omega
  ·rw [ByteArray.size_append,ByteArray.size_append,ByteArray.size_append,ByteArray.size_append,ByteArray.size_append,str_size (shN _),str_size (showE _)];show ((_+4+_+1+_+1+_:Nat):Int)≤_;omega
  ·rw [ByteArray.size_append,ByteArray.size_append,ByteArray.size_append,ByteArray.size_append,ByteArray.size_append,ByteArray.size_append,str_size (shN _),str_size (showE _)];show ((_+4+_+1+_+1+_+1:Nat):Int)≤_;omega
  refine go_wr (by omega) (by omega) ?_
  refine ⟨rfl,rfl,⟨rfl,by omega,by omega,?_⟩,by omega⟩
  rw [flatU_take i0 hil,str_eq (l:=[102,117,110,32]) rfl,str_eq (l:=[32]) rfl,str_eq (l:=[10]) rfl]
  simp only [←str_app]
  congr 1
  unfold shF
  simp [List.append_assoc]
 ·simp only [bls] at hi
  rw [take_all (by omega)]
  exact ⟨rfl,.refl v⟩
theorem c_specFormatProgram (hx:Read v x ds) (hy:Read v y fs):Fn Tryz.prog 11 #[.agg #[x.val,y.val]] v (.string (str (fmtP ds fs))):=by
 refine of11 _ _ _ _ ?_
 unfold vc11
 unfold fmtP
 refine ⟨_,c_ValidProgramS hx hy,fun hq=>⟨?_,.refl v⟩,fun hq=>?_⟩
 ·simp only [bls] at hq
  rw [if_neg (by rw [hq];simp)]
  rfl
 ·simp only [bls] at hq
  have hp:=pB_iff.1 hq
  have hl:=hp.1.2.2.1
  rw [List.length_map] at hl
  refine ⟨_,c_showProgram hx hy (sm_decl hp.1.1) (sm_fun hp) hp.1.1.1 hl,?_,.refl v⟩
  rw [if_pos hq]
theorem c_implFormatProgram (hT:Tab v) (hx:Read v x ds) (hy:Read v y fs):Fn Tryz.prog 13 #[.agg #[x.val,y.val]] v (.string (str (fmtP ds fs))):=by
 refine of13 _ _ _ _ ?_
 unfold vc13
 unfold fmtP
 have hxn:=hx.n
 have hyn:=hy.n
 refine ⟨_,c_ValidProgramI hx hy,fun hq=>⟨?_,.refl v⟩,fun hq=>?_⟩
 ·simp only [bls] at hq
  rw [if_neg (by rw [hq];simp)]
  rfl
 simp only [bls] at hq
 have hprg:=pB_iff.1 hq
 have hdl:=hprg.1.1.1
 have hfl:=hprg.1.2.2.1
 have hf0:=hprg.1.2.1
 rw [List.length_map] at hfl hf0
 have hd:=sm_decl hprg.1.1
 have hf:=sm_fun hprg
 rw [if_pos hq]
 clear hq hprg
 intro g w5 hg hs ho
 have hS:=(St.refl v).new hg hs ho (by simp [absent])
 have hB:BldT g [] [(g,.cells #[.pointer none,.slice none 0 0] 59 (0,0))]:=⟨_,_,[],.inl rfl,rfl,.inl ⟨rfl,rfl,rfl⟩⟩
 have tlen:∀ i:Int,((ds.take i.toNat).map shD).flatten.length≤1200:=by
  intro i
  have h1:=flatU_len (l:=ds.take i.toNat) (f:=shD) (N:=300) fun d hm=>shD_len (hd d (List.mem_of_mem_take hm))
  have h2:(ds.take i.toNat).length≤4:=by rw [List.length_take];omega
  omega
 have glen:∀ i:Int,((fs.take i.toNat).map shF).flatten.length≤2400:=by
  intro i
  have h1:=flatU_len (l:=fs.take i.toNat) (f:=shF) (N:=600) fun d hm=>shF_len (hf d (List.mem_of_mem_take hm))
  have h2:(fs.take i.toNat).length≤4:=by rw [List.length_take];omega
  omega
 refine ⟨fun i w=>∃ I,BldT g ((ds.take i.toNat).map shD).flatten I∧St v w (I++[])∧0≤i∧i≤ds.length,fun i _=>(ds.length - i).toNat,⟨_,by simpa using hB,hS,by omega,by omega⟩,?_⟩
 clear hB hS ho hs
 rintro i w ⟨I,hB,hS,i0,i1⟩
 dsimp only
 refine ⟨fun hi=>?_,fun hi=>?_⟩
 ·simp only [bls] at hi
  have hil:i < ds.length:=by omega
  have hdm:=hd _ (nth_mem (l:=ds) i0 hil)
  have hln:=shD_len hdm
  have htl:=tlen i
  obtain ⟨⟨a1,a2⟩,⟨b1,b2⟩,h3,h4⟩:=hdm
  obtain ⟨f,e1,e2,e3,j1,j2,r3⟩:=(hx.src hS.sub).ofDeclD i0 hil
  have hfn:=r3.n
  refine go_ix hx i0 hil ?_
  refine ⟨_,_,f,⟨e1,e2,e3⟩,fun hc=>?_,fun hc=>?_⟩
  ·simp only [bls] at hc
   have k1:=itoa_sz j1
   have k2:=itoa_sz j2
   refine ⟨_,c_Itoa (hT.mono hS.sub) j1,?_,?_,_,c_Itoa (hT.mono hS.sub) j2,?_,?_,?_⟩
   ·show ((6+_:Nat):Int)≤_;omega
   ·rw [ByteArray.size_append];show ((6+_+1:Nat):Int)≤_;omega
   ·rw [ByteArray.size_append,ByteArray.size_append];show ((6+_+1+_:Nat):Int)≤_;omega
   ·rw [ByteArray.size_append,ByteArray.size_append,ByteArray.size_append];show ((6+_+1+_+1:Nat):Int)≤_;omega
   have hsh:((((ByteArray.mk #[97,114,114,111,119,32])++str (Lib.itoa (nth ds i).frm))++(ByteArray.mk #[32]))++str (Lib.itoa (nth ds i).to_))++(ByteArray.mk #[10])=str (shD (nth ds i)):=by
    unfold shD
    rw [if_pos (by omega),str_eq (l:=[97,114,114,111,119,32]) rfl,str_eq (l:=[32]) rfl,str_eq (l:=[10]) rfl,←str_app,←str_app,←str_app,←str_app]
   rw [hsh]
   refine (c_WriteString hB hS (by rw [str_size];omega)).mono' ?_
   rintro _ w1 ⟨rfl,I1,hB1,hS1⟩
   rw [str_data] at hB1
   refine ⟨_,⟨.nilIface,rfl⟩,rfl,?_⟩
   refine go_wr (by omega) (by omega) ?_
   exact ⟨rfl,rfl,⟨I1,by rw [flatU_take i0 hil];exact hB1,hS1,by omega,by omega⟩,by omega⟩
  ·simp only [bls] at hc
   refine (c_WriteString (s:=ByteArray.mk #[100,97,116,97]) hB hS (by show _+4≤_;omega)).mono' ?_
   rintro _ w1 ⟨rfl,I1,hB1,hS1⟩
   refine ⟨_,⟨.nilIface,rfl⟩,rfl,?_⟩
   generalize hP:((ds.take i.toNat).map shD).flatten=P0 at hB1 htl
   refine ⟨fun k w=>∃ I,BldT g (P0++([100,97,116,97]++(((nth ds i).cons.take k.toNat).map fun c=>32 ::shN c.fields).flatten)) I∧St v w (I++[])∧0≤k∧k≤(nth ds i).cons.length,fun k _=>((nth ds i).cons.length - k).toNat,⟨I1,by simpa using hB1,hS1,by omega,by omega⟩,?_⟩
   clear hB1 hS1 hB hS e1 e2 e3
   rintro k w2 ⟨I2,hB2,hS2,k0,k1⟩
   dsimp only
   have hpl:(((nth ds i).cons.take k.toNat).map fun c=>32 ::shN c.fields).flatten.length≤300:=by
    have:=conTx_len (l:=(nth ds i).cons.take k.toNat) fun c hc=>h4 c (List.mem_of_mem_take hc)
    have h2:((nth ds i).cons.take k.toNat).length≤3:=by rw [List.length_take];omega
    omega
   refine ⟨fun hk=>?_,fun hk=>?_⟩
   ·simp only [bls] at hk
    have hkl:k < (nth ds i).cons.length:=by omega
    have hm:=h4 _ (nth_mem (l:=(nth ds i).cons) k0 hkl)
    obtain ⟨t,e4,r4⟩:=(r3.src hS2.sub).ofConD k0 hkl
    have hl:=shN_len (nn_InI hm.2)
    refine go_ix r3 k0 hkl ?_
    refine ⟨_,e4,_,c_listText (hT.mono hS2.sub) (r4.mono hS2.sub) (by omega),?_,?_⟩
    ·rw [str_size];show ((1+_:Nat):Int)≤_;omega
    rw [str_eq (l:=[32]) rfl,←str_app]
    refine (c_WriteString hB2 hS2 (by rw [str_size];simp only [List.length_append,List.length_cons,List.length_nil];omega)).mono' ?_
    rintro _ w3 ⟨rfl,I3,hB3,hS3⟩
    rw [str_data] at hB3
    refine ⟨_,⟨.nilIface,rfl⟩,rfl,?_⟩
    refine go_wr (by omega) (by omega) ?_
    refine ⟨rfl,rfl,rfl,rfl,rfl,⟨I3,?_,hS3,by omega,by omega⟩,by omega⟩
    rw [flatU_take k0 hkl]
    simpa [List.append_assoc] using hB3
   ·simp only [bls] at hk
    rw [take_all (l:=(nth ds i).cons) (by omega)] at hB2 hpl
    refine (c_WriteString (s:=ByteArray.mk #[10]) hB2 hS2 (by show _+1≤_;simp only [List.length_append,List.length_cons,List.length_nil];omega)).mono' ?_
    rintro _ w3 ⟨rfl,I3,hB3,hS3⟩
    refine ⟨_,⟨.nilIface,rfl⟩,rfl,?_⟩
    refine go_wr (by omega) (by omega) ?_
    refine ⟨rfl,rfl,⟨I3,?_,hS3,by omega,by omega⟩,by omega⟩
    rw [flatU_take i0 hil,hP]
    unfold shD
    rw [if_neg (by omega)]
    simpa [List.append_assoc] using hB3
 ·simp only [bls] at hi
  rw [take_all (by omega)] at hB
  have hD:((ds.map shD).flatten).length≤1200:=by
   have:=tlen ds.length
   rwa [take_all (by omega)] at this
  refine ⟨fun i w=>∃ I,BldT g ((ds.map shD).flatten++((fs.take i.toNat).map shF).flatten) I∧St v w (I++[])∧0≤i∧i≤fs.length,fun i _=>(fs.length - i).toNat,⟨I,by simpa using hB,hS,by omega,by omega⟩,?_⟩
  clear hB hS i0 i1 hi
  rintro i w ⟨I,hB,hS,i0,i1⟩
  dsimp only
  refine ⟨fun hi=>?_,fun hi=>?_⟩
  ·simp only [bls] at hi
   have hil:i < fs.length:=by omega
   have hfm:=hf _ (nth_mem (l:=fs) i0 hil)
   have hln:=shF_len hfm
   have hgl:=glen i
   obtain ⟨s1,s2,⟨s3,s4⟩,s5,s6⟩:=hfm
   obtain ⟨f1,k1,e1,e2,e3,e4,e5,j1,j2,j3,r1,r2⟩:=(hy.src hS.sub).ofFunD i0 hil
   have q1:=shN_len (nn_InI s2)
   have q2:=itoa_sz j1
   have q3:=show_len _ s6
   have hfe:fmtE (nth fs i).body=showE (nth fs i).body:=by unfold fmtE;rw [if_pos ⟨s5,s6⟩]
   have hce:=c_FormatExpr (hT.mono hS.sub) (r2.mono hS.sub) j3
   rw [hfe] at hce
   refine go_ix hy i0 hil ?_
   refine ⟨f1,_,_,_,k1,⟨e1,e2,e3,e4,e5⟩,_,c_listText (hT.mono hS.sub) (r1.mono hS.sub) (by omega),?_,?_,_,c_Itoa (hT.mono hS.sub) j1,?_,?_,_,hce,?_,?_,?_⟩
   ·rw [str_size (shN _)];show ((4+_:Nat):Int)≤_;omega
   ·rw [ByteArray.size_append,str_size (shN _)];show ((4+_+1:Nat):Int)≤_;omega
   ·rw [ByteArray.size_append,ByteArray.size_append,str_size (shN _)];show ((4+_+1+_:Nat):Int)≤_;omega
   ·rw [ByteArray.size_append,ByteArray.size_append,ByteArray.size_append,str_size (shN _)];show ((4+_+1+_+1:Nat):Int)≤_;omega
   ·rw [ByteArray.size_append,ByteArray.size_append,ByteArray.size_append,ByteArray.size_append,str_size (shN _),str_size (showE _)];show ((4+_+1+_+1+_:Nat):Int)≤_;omega
   ·rw [ByteArray.size_append,ByteArray.size_append,ByteArray.size_append,ByteArray.size_append,ByteArray.size_append,str_size (shN _),str_size (showE _)];show ((4+_+1+_+1+_+1:Nat):Int)≤_;omega
   have hsh:((((((ByteArray.mk #[102,117,110,32])++str (shN (nth fs i).params))++(ByteArray.mk #[32]))++str (Lib.itoa (nth fs i).result))++(ByteArray.mk #[32]))++str (showE (nth fs i).body))++(ByteArray.mk #[10])=str (shF (nth fs i)):=by
    unfold shF
    rw [str_eq (l:=[102,117,110,32]) rfl,str_eq (l:=[32]) rfl,str_eq (l:=[10]) rfl]
    simp only [←str_app]
   rw [hsh]
   refine (c_WriteString hB hS (by rw [str_size,List.length_append];omega)).mono' ?_
   rintro _ w1 ⟨rfl,I1,hB1,hS1⟩
   rw [str_data] at hB1
   refine ⟨_,⟨.nilIface,rfl⟩,rfl,?_⟩
   refine go_wr (by omega) (by omega) ?_
   exact ⟨rfl,rfl,⟨I1,by rw [flatU_take i0 hil,←List.append_assoc];exact hB1,hS1,by omega,by omega⟩,by omega⟩
  ·simp only [bls] at hi
   rw [take_all (by omega)] at hB
   refine (c_BString hB hS ?_).mono' ?_
   ·intro h
    have h1:=(List.append_eq_nil_iff.1 h).2
    cases fs with
    | nil=>simp at hf0
    | cons a r=>simp [shF] at h1
   rintro _ w7 ⟨rfl,hS7⟩
   exact ⟨_,rfl,rfl,hS7.sub⟩
end
end Go.Vc
namespace Go.Vc
open Go Go.Proofs Go.RowKit
instance:Cost FunD:=⟨fun c=>c.params.length+Cost.cost c.body⟩
instance:Shr FunD:=⟨fun {B w cs a} ⟨f,k,h0,i1,i2,i3,r1,r2⟩ hc=>by
 have hc:a.params.length+Cost.cost a.body≤1099511627776:=hc
 have hb:=cost_ex a.body
 exact ⟨f,k,h0,i1,i2,i3,r1.toInts (by show _≤1099511627776;omega),r2.shr (by omega)⟩⟩
instance:DatO FunD where
 own cs c K:=∃ (f k:Sl) (K1 K2:Items),cs=[f.val,intV c.result,intV c.body.op,intV c.body.num,k.val]∧InI c.result∧(∀ u,Own u f c.params K1)∧DatO.own [intV c.body.op,intV c.body.num,k.val] c.body K2∧K=K1++K2
 read:=by
  intro w cs c I h hA
  obtain ⟨f,k,K1,K2,h0,i1,o1,o2,rfl⟩:=h
  obtain ⟨f2,h2,i2,i3,o3⟩:=expr_own.1 o2
  have hy:f2=k:=by
   have h1:k.val=f2.val:=by simpa using h2
   clear h2 o2 o3 h0
   obtain ⟨a1,a2,a3⟩:=f2
   obtain ⟨b1,b2,b3⟩:=k
   simp only [Sl.val,Value.slice.injEq] at h1
   obtain ⟨h1,h2,h3⟩:=h1
   subst h1 h2 h3
   rfl
  subst hy
  exact ⟨f,f2,h0,i1,i2,i3,(let ⟨rows,k1,k2,k3⟩:=o1 w;⟨rows,k1.rd fun p hp=>hA p (List.mem_append_left _ hp),k2,k3⟩),o3.readA fun p hp=>hA p (List.mem_append_right _ hp)⟩
instance:SlT Tryz.prog 29 5 72 [.slice none 0 0,intV 0,intV 0,intV 0,.slice none 0 0]:=.of (by kernel_rfl) rfl (by decide)
section
variable {u v w:World} {x y f k g h:Sl} {l m:List FunD} {b i:Int} {c d:FunD}
theorem rowFunD {B:Nat} (hx:ReadB B v x l) (h0:0≤i) (h1:i < l.length):∃ f k:Sl,(v.cell? ((elA x i 5).add 0)=some (f.val)∧v.cell? ((elA x i 5).add 1)=some (.int .i64 (nth l i).result)∧v.cell? ((elA x i 5).add 2)=some (.int .i64 (nth l i).body.op)∧v.cell? ((elA x i 5).add 3)=some (.int .i64 (nth l i).body.num)∧v.cell? ((elA x i 5).add 4)=some (k.val))∧ReadB B v f (nth l i).params∧ReadB B v k (nth l i).body.kids:=by
 obtain ⟨r,hr,hc⟩:=hx.row h0 h1
 obtain ⟨f,k,rfl,i1,i2,i3,r1,r2⟩:=hr
 exact ⟨f,k,⟨hc 0 _ rfl,hc 1 _ rfl,hc 2 _ rfl,hc 3 _ rfl,hc 4 _ rfl⟩,r1,r2⟩
end
section
variable {v:World} {x y x' y':Sl} {ds ds':List DeclD} {fs fs':List FunD} {b:Int}
end
end Go.Vc
