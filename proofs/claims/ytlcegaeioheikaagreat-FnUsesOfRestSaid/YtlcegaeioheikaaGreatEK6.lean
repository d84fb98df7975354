/- Part of the proofs about the heaps and memories: a law is joined in the text whose name ends in W and the law. -/
import Derived.Test.YtlcegaeioheikaaGreatEK5
set_option linter.all false
namespace Go.Vc
open Go Go.Proofs Go.RowKit
def LbP (ds:List DeclD) (rs:List RoutD) (b:BlockD):Prop:=∀ (u w:World) (R:Items) (x y z xs xo:Sl) (vars mine:List Int) (d:Nat),St u w R→Read u x ds→typesOk ds→Read u y rs→PlB ds rs.length d vars.length b→d≤5000→vars.length+4 * d≤30000→Read u xs b.steps→VrG u R z vars→VrG u R xo mine→mine.length≤1000→
 Trip Tryz.prog 86 #[.agg #[x.val,y.val],z.val,.agg #[xs.val,iV b.result],xo.val] w fun r w'=>∃ (u':World) (y':Sl) (l:List StepD),r=.agg #[y'.val,iV b.result]∧Sub u u'∧St u' w' R∧Read u' y' l∧l.length≤50050000∧∀ s∈l,ShS ds NC d s
section
variable {u u' w:World} {x y z s xa xk xs px lx:Sl} {ds:List DeclD} {rs:List RoutD} {J R:Items} {n op num into result i:Int} {d:Nat} {l k args vars params lent mine:List Int} {kids:List BlockD} {steps:List StepD} {b:BlockD} {c:StepD} {ro:RoutD}
theorem VrG.base (h:Read u z vars):VrG u [] z vars:=.of h
def BdQ (ds:List DeclD) (b:BlockD) (r:Value) (u':World):Prop:=∃ (y':Sl) (l:List StepD),r=.agg #[y'.val,iV b.result]∧Read u' y' l∧ShB ds NC 5001 ⟨l,b.result⟩
theorem bd_mk {l:List StepD} (h1:l.length≤60000000) (h2:∀ s∈l,ShS ds NC 5000 s):ShB ds NC 5001 ⟨l,result⟩:=⟨h1,h2⟩
theorem c_countBody (hx:Read u x ds) (ht:typesOk ds) (hy:Read u y rs) (hP:RPl ds rs.length ro) (hp:Read u px ro.params) (hl:Read u lx ro.lent) (hs:Read u xs ro.body.steps):Fz Tryz.prog 85 #[.agg #[x.val,y.val],.agg #[px.val,lx.val,iV result,xs.val,iV ro.body.result]] u (BdQ ds ro.body):=by
 refine of85 _ _ _ _ _ _ _ _ _ ?_
 unfold vc85
 have hpn:=hp.n
 have hp3:=hP.1
 refine (c_usedIn (b:=ro.body) (n:=(px.n:Int)) hs (by omega)).use (.refl u) ?_
 rintro _ w2 u2 hu2 hs2 hS ⟨xu,used,rfl,hxu,hau⟩
 refine ⟨xu,rfl,?_⟩
 refine st_own (α:=Int) (l:=[]) hS VsOf.nil rfl (by decide) fun ym w3 Km hs3 hS hOm=>?_
 refine st_own (α:=Int) (l:=[]) hS VsOf.nil rfl (by decide) fun yd w4 Kd hs4 hS hOd=>?_
 refine ⟨fun xm xd i w=>∃ (Km Kd:Items) (mine drops:List Int),St u2 w (Km++(Kd++[]))∧Own u2 xm mine Km∧Own u2 xd drops Kd∧((mine.length+drops.length:Nat):Int)≤i∧0≤i∧i≤ro.params.length,fun _ _ i _=>(ro.params.length - i).toNat,⟨Km,Kd,[],[],hS.to,hOm,hOd,by simp,by omega,by omega⟩,?_⟩
 clear hS hOm hOd hs3 hs4
 rintro xm xd i w4 ⟨Km,Kd,mine,drops,hS,hOm,hOd,hlen,i0,i1⟩
 dsimp only
 refine ⟨fun hc=>?_,fun hc=>?_⟩
 ·simp only [bls] at hc
  have hil:i < ro.params.length:=by omega
  obtain ⟨c1,c2⟩:=((hp.mono hu2).src hS.sub).int i0 hil
  refine ⟨hp.ix i0 hil,_,c1,_,fun _=>c_specIsIn ((hl.mono hu2).mono hS.sub),fun _=>⟨_,c_specIsIn (hxu.mono hS.sub),fun _=>?_,fun _=>?_⟩,fun _=>?_⟩
  ·refine st_push (α:=Int) hS hOm (VOf.int ⟨by omega,by omega⟩) (by omega) (by decide) (by decide) fun z5 w5 J5 hS hOm=>?_
   refine go_wr (by omega) (by omega) ?_
   exact ⟨rfl,rfl,rfl,rfl,rfl,rfl,rfl,rfl,rfl,⟨J5,Kd,_,drops,hS,hOm,hOd,by simp;omega,by omega,by omega⟩,by omega⟩
  ·refine st_push (α:=Int) (R:=Km++[]) hS.to hOd (VOf.int ⟨by omega,by omega⟩) (by omega) (by decide) (by decide) fun z5 w5 J5 hS hOd=>?_
   refine go_wr (by omega) (by omega) ?_
   exact ⟨rfl,rfl,rfl,rfl,rfl,rfl,rfl,rfl,rfl,⟨Km,J5,mine,_,hS.to,hOm,hOd,by simp;omega,by omega,by omega⟩,by omega⟩
  ·refine go_wr (by omega) (by omega) ?_
   exact ⟨rfl,rfl,rfl,rfl,rfl,rfl,rfl,rfl,rfl,⟨Km,Kd,mine,drops,hS,hOm,hOd,by omega,by omega,by omega⟩,by omega⟩
 ·simp only [bls] at hc
  refine st_bld (α:=Int) (l:=[]) hS VsOf.nil rfl (by decide) fun xe w5 u5 hu5 hs5 hS hxe=>?_
  obtain ⟨u6,hu6,hS,hJm⟩:=hS.freeze Km
  have hrm:=(hOm.mono hu5).read1 hJm
  obtain ⟨u7,hu7,hS,hJd⟩:=hS.freeze Kd
  have hrd:=((hOd.mono hu5).mono hu6).read1 hJd
  have h27:=hu5.trans (hu6.trans hu7)
  have hU:=hu2.trans h27
  refine (c_countBlock ro.body u7 w5 [] x y px xs xm xe ro.params mine [] 5000 hS (hx.mono hU) ht (hy.mono hU) hP.2.1 (by omega) (by omega) (hs.mono hU) (.of (hp.mono hU)) (.of (hrm.mono hu7)) (by omega) (.of (hxe.mono (hu6.trans hu7))) Asc.nil).mono' ?_
  rintro _ w8 ⟨u8,y8,l8,rfl,hu8,hS,hy8,hl8,hs8⟩
  refine ⟨y8,_,rfl,?_⟩
  refine (c_countings (in64_in rfl) (hrd.mono hu8)).use hS ?_
  rintro _ w9 u9 J9 hu9 hs9 hS ⟨y9,rfl,hO9⟩
  refine ⟨y9,rfl,hs9,?_⟩
  refine Own.append hO9 hS ((hy8.mono hu9).src hS.sub) (by rw [ctg_len];omega) (by decide) fun y10 w10 J10 hO10 hS=>⟨y10,rfl,?_⟩
  refine ⟨hU.trans (hu8.trans (hu9.trans hS.sub)),y10,_,rfl,hO10.read1 (by simpa using hS),bd_mk ?_ ?_⟩
  ·rw [List.length_append,ctg_len]
   omega
  ·intro s hs
   rcases List.mem_append.1 hs with hs|hs
   ·exact sh_ctg (by decide) hs
   ·exact hs8 s hs
theorem c_consumedBefore (h:CtE u x y z xa ds rs vars c):Mk Tryz.prog 114 #[.agg #[x.val,y.val],z.val,.agg #[iV c.op,iV c.num,iV c.into,xa.val,xk.val]] u fun r J=>∃ (t:Sl) (k:List Int),r=t.val∧Own u t k J∧k.length≤c.args.length:=by
 refine of114 _ _ _ _ _ _ _ _ _ _ ?_
 unfold vc114
 have han:=h.ra.n
 have hal:=h.ra.le
 refine st_own (α:=Int) (l:=[]) (.refl u) VsOf.nil rfl (by decide) fun y0 w0 J0 hs0 hS hO=>?_
 refine ⟨fun t i w=>∃ (J:Items) (k:List Int),St u w (J++[])∧Own u t k J∧(k.length:Int)≤i∧0≤i∧i≤c.args.length,fun _ i _=>(c.args.length - i).toNat,⟨J0,[],hS,hO,by simp,by omega,by omega⟩,?_⟩
 clear hS hO hs0
 rintro t i w ⟨J,k,hS,hO,hk,i0,i1⟩
 dsimp only
 refine ⟨fun hc=>?_,fun hc=>⟨J,by simpa using hS,t,k,rfl,hO,by omega⟩⟩
 simp only [bls] at hc
 have hil:i < c.args.length:=by omega
 have h':=h.mono hS.sub
 obtain ⟨q1,hq1⟩:=c_isConsumedE (xk:=xk) h' i0 hil
 refine ⟨q1,hq1,fun _=>?_,fun _=>?_⟩
 ·obtain ⟨c1,c2⟩:=h'.cell i0 hil
  refine ⟨h.ra.ix i0 hil,_,c1,?_⟩
  refine st_push (α:=Int) hS hO (VOf.int c2) (by omega) (by decide) (by decide) fun z5 w5 J5 hS hO=>?_
  refine go_wr (by omega) (by omega) ?_
  exact ⟨rfl,rfl,rfl,rfl,rfl,rfl,rfl,⟨J5,_,hS,hO,by simp;omega,by omega,by omega⟩,by omega⟩
 ·refine go_wr (by omega) (by omega) ?_
  exact ⟨rfl,rfl,rfl,rfl,rfl,rfl,rfl,⟨J,k,hS,hO,by omega,by omega,by omega⟩,by omega⟩
theorem c_ownParams (hp:Read u px ro.params) (hl:Read u lx ro.lent) (hp3:ro.params.length≤3):Mk Tryz.prog 87 #[.agg #[px.val,lx.val,iV result,xs.val,iV n]] u fun r J=>∃ (t:Sl) (k:List Int),r=t.val∧Own u t k J∧k.length≤3:=by
 refine of87 _ _ _ _ _ _ _ ?_
 unfold vc87
 have hpn:=hp.n
 refine st_own (α:=Int) (l:=[]) (.refl u) VsOf.nil rfl (by decide) fun y0 w0 J0 hs0 hS hO=>?_
 refine ⟨fun t i w=>∃ (J:Items) (k:List Int),St u w (J++[])∧Own u t k J∧(k.length:Int)≤i∧0≤i∧i≤ro.params.length,fun _ i _=>(ro.params.length - i).toNat,⟨J0,[],hS,hO,by simp,by omega,by omega⟩,?_⟩
 clear hS hO hs0
 rintro t i w ⟨J,k,hS,hO,hk,i0,i1⟩
 dsimp only
 refine ⟨fun hc=>?_,fun hc=>⟨J,by simpa using hS,t,k,rfl,hO,by omega⟩⟩
 simp only [bls] at hc
 have hil:i < ro.params.length:=by omega
 obtain ⟨c1,c2⟩:=(hp.src hS.sub).int i0 hil
 refine ⟨hp.ix i0 hil,_,c1,_,fun _=>c_specIsIn (hl.mono hS.sub),fun _=>?_,fun _=>?_⟩
 ·refine st_push (α:=Int) hS hO (VOf.int ⟨by omega,by omega⟩) (by omega) (by decide) (by decide) fun z5 w5 J5 hS hO=>?_
  refine go_wr (by omega) (by omega) ?_
  exact ⟨rfl,rfl,rfl,rfl,rfl,⟨J5,_,hS,hO,by simp;omega,by omega,by omega⟩,by omega⟩
 ·refine go_wr (by omega) (by omega) ?_
  exact ⟨rfl,rfl,rfl,rfl,rfl,⟨J,k,hS,hO,by omega,by omega,by omega⟩,by omega⟩
theorem c_lateStepH (H:∀ k∈c.kids,LbP ds rs k) (hS:St u w R) (hx:Read u x ds) (ht:typesOk ds) (hy:Read u y rs) (hA:PlA ds rs.length vars.length c) (hK:∀ i:Nat,∀ k:BlockD,c.kids[i]?=some k→PlB ds rs.length d (armV ds c vars.length i) k) (hd:d≤5000) (hb:vars.length+3+4 * d≤30000) (hi:InI c.num) (ha:Read u xa c.args) (hk:Read u xk c.kids) (hz:VrG u R z vars):
  Trip Tryz.prog 115 #[.agg #[x.val,y.val],z.val,.agg #[iV c.op,iV c.num,iV c.into,xa.val,xk.val]] w fun r w'=>∃ (u':World) (ya yk:Sl) (ks:List BlockD),r=.agg #[iV c.op,iV c.num,iV 0,ya.val,yk.val]∧Sub u u'∧St u' w' R∧Read u' ya c.args∧Read u' yk ks∧ks.length=c.kids.length∧∀ k∈ks,ShB ds NC (d+1) k:=by
 refine of115 _ _ _ _ _ _ _ _ _ _ ?_
 unfold vc115
 have hkn:=hk.n
 have hkl:=hk.le
 have hzn:=(hz.here0 hS).n
 refine st_own (α:=BlockD) (l:=[]) hS VsOf.nil rfl (by decide) fun y0 w0 J0 hs0 hS hO=>?_
 refine (Mk.fz (c_consOfB hx ht.sm hi)).use hS ?_
 rintro _ w1 u1 hu1 hs1 hS ⟨zc,rfl,hzc⟩
 have hcn:=hzc.n
 refine ⟨zc,rfl,?_⟩
 refine ⟨fun t i w=>∃ (u2:World) (J:Items) (ks:List BlockD),Sub u1 u2∧St u2 w (J++R)∧Own u2 t ks J∧(ks.length:Int)=i∧(∀ k∈ks,ShB ds NC (d+1) k)∧0≤i∧i≤c.kids.length,fun _ i _=>(c.kids.length - i).toNat,⟨u1,J0,[],.refl u1,hS,hO.mono hu1,by simp,by simp,by omega,by omega⟩,?_⟩
 clear hS hO hs0 hs1
 rintro t i w ⟨u2,J,ks,hu2,hS,hO,hlen,hks,i0,i1⟩
 dsimp only
 have hU:=hu1.trans hu2
 refine ⟨fun hc=>?_,fun hc=>?_⟩
 ·simp only [bls] at hc
  have hil:i < c.kids.length:=by omega
  have hPi:=hK i.toNat _ (nth_get i0 hil)
  refine st_bld (α:=Int) (l:=[]) hS VsOf.nil rfl (by decide) fun x3 w3 u3 hu3 hs3 hS hx3=>?_
  refine ⟨fun h8=>?_,fun h8=>?_⟩
  ·simp only [bls] at h8
   have hmat:=hA.2.2.2.2.2.2 h8
   have hic:i < (consL ds c.num).length:=by omega
   have hzc3:=(hzc.mono hu2).mono hu3
   replace hPi:PlB ds rs.length d (vars.length+(conF ds (nth (consL ds c.num) (i.toNat:Int))).length) (nth c.kids i):=by
    unfold armV at hPi
    rw [if_pos h8] at hPi
    exact hPi
   rw [show ((i.toNat:Nat):Int)=i by omega] at hPi
   have hc3:=conF_len3 ht (nth (consL ds c.num) i)
   obtain ⟨c1,c2⟩:=(hzc3.src hS.sub).int i0 hic
   refine ⟨hzc3.ix i0 hic,_,c1,?_⟩
   refine (c_conFieldsZ ((hx.mono hU).mono hu3) ht.sm c2).use hS ?_
   rintro _ w4 u4 hu4 hs4 hS ⟨z4,rfl,hz4⟩
   have hV:=hU.trans (hu3.trans hu4)
   have h24:=hu3.trans hu4
   refine ⟨z4,rfl,?_⟩
   refine Mk.use (c_heapFromG hz4 (by omega) (by omega) (by omega)) hS ?_
   rintro _ w5 J5 ⟨x5,mine,rfl,hO5,hml⟩ hS hs5
   obtain ⟨u5,hu5,hS,hJ5⟩:=hS.freeze J5
   have hx5:=hO5.read1 hJ5
   have hV5:=hV.trans hu5
   obtain ⟨f1,a1,a2,r1,hf1⟩:=((hk.mono hV5).src hS.sub).ofBlockD i0 hil
   refine ⟨x5,rfl,hk.ix i0 hil,f1,_,⟨a1,a2⟩,?_⟩
   have hfd:=hz4.mono hu5
   have hu25:=h24.trans hu5
   have ext:∀ {K:Value→World→Prop},(∀ z' w' u',Sub u5 u'→Sub w5 w'→St u' w' (J++R)→Read u' z' (vars++conF ds (nth (consL ds c.num) i))→K (Sl.val z') w')→Trip Tryz.prog 99 #[z.val,z4.val] w5 K:=by
    intro K kk
    refine Mk.usew (c_extend ((hz.mono hV5).here hS) (hfd.mono hS.sub) (by omega)) hS ?_
    rintro _ w' J' ⟨z',rfl,hO'⟩ hS' hs'
    obtain ⟨u',hu',hS',hJ'⟩:=hS'.freeze J'
    exact kk z' w' u' hu' hs' hS' ((hO'.ofInts (u':=u5)).read1 hJ')
   refine ⟨ext fun z6 w6 u6 hu6 hs6 hS hz6=>⟨z6,rfl,hs6,?_,.refl _,?_⟩,.refl _,ext fun z6 w6 u6 hu6 hs6 hS hz6=>⟨z6,rfl,hs6,?_⟩⟩
   ·refine (H _ (nth_mem i0 hil) u6 w6 (J++R) x y z6 f1 x5 (vars++conF ds (nth (consL ds c.num) i)) mine d hS ((hx.mono hV5).mono hu6) ht ((hy.mono hV5).mono hu6) (by rw [List.length_append];exact hPi) hd (by rw [List.length_append];omega) (hf1.mono hu6) (.of hz6) (.of (hx5.mono hu6)) (by omega)).mono' ?_
    rintro _ w7 ⟨u7,y7,l7,rfl,hu7,hS,hy7,hl7,hs7⟩
    refine ⟨y7,_,rfl,.refl _,?_⟩
    refine (c_countings (in64_in rfl) ((hx5.mono hu6).mono hu7)).use hS ?_
    rintro _ w8 u8 J8 hu8 hs8 hS ⟨y8,rfl,hO8⟩
    refine ⟨y8,rfl,hs8,?_⟩
    refine Own.append hO8 hS ((hy7.mono hu8).src hS.sub) (by rw [ctg_len];omega) (by decide) fun y9 w9 J9 hO9 hS=>⟨y9,rfl,?_⟩
    obtain ⟨u10,hu10,hS,hJ10⟩:=hS.freeze J9
    have h510:=hu6.trans (hu7.trans (hu8.trans hu10))
    refine st_push (α:=BlockD) hS (hO.mono (hu25.trans h510)) (vofB r1 (hO9.read1 hJ10)) (by omega) (by decide) (by decide) fun y11 w11 J11 hS hO=>?_
    refine go_wr (by omega) (by omega) ?_
    refine ⟨rfl,rfl,rfl,rfl,rfl,rfl,rfl,rfl,rfl,rfl,rfl,rfl,⟨u10,J11,_,hu2.trans (hu25.trans h510),hS,hO,by simp;omega,?_,by omega,by omega⟩,by omega⟩
    intro k hk'
    rcases List.mem_append.1 hk' with hk'|hk'
    ·exact hks k hk'
    ·rw [List.mem_singleton.1 hk']
     refine ⟨by rw [List.length_append,ctg_len];show _≤60000000;omega,?_⟩
     intro s hs
     rcases List.mem_append.1 hs with hs|hs
     ·exact sh_ctg (by decide) hs
     ·exact hs7 s hs
   ·refine (H _ (nth_mem i0 hil) u6 w6 (J++R) x y z6 f1 x5 (vars++conF ds (nth (consL ds c.num) i)) mine d hS ((hx.mono hV5).mono hu6) ht ((hy.mono hV5).mono hu6) (by rw [List.length_append];exact hPi) hd (by rw [List.length_append];omega) (hf1.mono hu6) (.of hz6) (.of (hx5.mono hu6)) (by omega)).mono' ?_
    rintro _ w7 ⟨u7,y7,l7,rfl,hu7,hS,hy7,hl7,hs7⟩
    refine ⟨y7,_,rfl,?_⟩
    refine (c_countings (in64_in rfl) ((hx5.mono hu6).mono hu7)).use hS ?_
    rintro _ w8 u8 J8 hu8 hs8 hS ⟨y8,rfl,hO8⟩
    refine ⟨y8,rfl,hs8,?_⟩
    refine Own.append hO8 hS ((hy7.mono hu8).src hS.sub) (by rw [ctg_len];omega) (by decide) fun y9 w9 J9 hO9 hS=>⟨y9,rfl,?_⟩
    obtain ⟨u10,hu10,hS,hJ10⟩:=hS.freeze J9
    have h510:=hu6.trans (hu7.trans (hu8.trans hu10))
    refine st_push (α:=BlockD) hS (hO.mono (hu25.trans h510)) (vofB r1 (hO9.read1 hJ10)) (by omega) (by decide) (by decide) fun y11 w11 J11 hS hO=>?_
    refine go_wr (by omega) (by omega) ?_
    refine ⟨rfl,rfl,rfl,rfl,rfl,rfl,rfl,rfl,rfl,rfl,rfl,rfl,⟨u10,J11,_,hu2.trans (hu25.trans h510),hS,hO,by simp;omega,?_,by omega,by omega⟩,by omega⟩
    intro k hk'
    rcases List.mem_append.1 hk' with hk'|hk'
    ·exact hks k hk'
    ·rw [List.mem_singleton.1 hk']
     refine ⟨by rw [List.length_append,ctg_len];show _≤60000000;omega,?_⟩
     intro s hs
     rcases List.mem_append.1 hs with hs|hs
     ·exact sh_ctg (by decide) hs
     ·exact hs7 s hs
   ·refine (H _ (nth_mem i0 hil) u6 w6 (J++R) x y z6 f1 x5 (vars++conF ds (nth (consL ds c.num) i)) mine d hS ((hx.mono hV5).mono hu6) ht ((hy.mono hV5).mono hu6) (by rw [List.length_append];exact hPi) hd (by rw [List.length_append];omega) (hf1.mono hu6) (.of hz6) (.of (hx5.mono hu6)) (by omega)).mono' ?_
    rintro _ w7 ⟨u7,y7,l7,rfl,hu7,hS,hy7,hl7,hs7⟩
    refine ⟨y7,_,rfl,?_⟩
    refine (c_countings (in64_in rfl) ((hx5.mono hu6).mono hu7)).use hS ?_
    rintro _ w8 u8 J8 hu8 hs8 hS ⟨y8,rfl,hO8⟩
    refine ⟨y8,rfl,hs8,?_⟩
    refine Own.append hO8 hS ((hy7.mono hu8).src hS.sub) (by rw [ctg_len];omega) (by decide) fun y9 w9 J9 hO9 hS=>⟨y9,rfl,?_⟩
    obtain ⟨u10,hu10,hS,hJ10⟩:=hS.freeze J9
    have h510:=hu6.trans (hu7.trans (hu8.trans hu10))
    refine st_push (α:=BlockD) hS (hO.mono (hu25.trans h510)) (vofB r1 (hO9.read1 hJ10)) (by omega) (by decide) (by decide) fun y11 w11 J11 hS hO=>?_
    refine go_wr (by omega) (by omega) ?_
    refine ⟨rfl,rfl,rfl,rfl,rfl,rfl,rfl,rfl,rfl,rfl,rfl,rfl,⟨u10,J11,_,hu2.trans (hu25.trans h510),hS,hO,by simp;omega,?_,by omega,by omega⟩,by omega⟩
    intro k hk'
    rcases List.mem_append.1 hk' with hk'|hk'
    ·exact hks k hk'
    ·rw [List.mem_singleton.1 hk']
     refine ⟨by rw [List.length_append,ctg_len];show _≤60000000;omega,?_⟩
     intro s hs
     rcases List.mem_append.1 hs with hs|hs
     ·exact sh_ctg (by decide) hs
     ·exact hs7 s hs
  ·simp only [bls] at h8
   replace hPi:PlB ds rs.length d (vars.length+([]:List Int).length) (nth c.kids i):=by
    unfold armV at hPi
    rw [if_neg h8] at hPi
    exact hPi
   have hV:=hU.trans hu3
   have hc3:([]:List Int).length≤3:=by simp
   refine Mk.use (c_heapFromG hx3 (by omega) (by omega) (by omega)) hS ?_
   rintro _ w5 J5 ⟨x5,mine,rfl,hO5,hml⟩ hS hs5
   obtain ⟨u5,hu5,hS,hJ5⟩:=hS.freeze J5
   have hx5:=hO5.read1 hJ5
   have hV5:=hV.trans hu5
   obtain ⟨f1,a1,a2,r1,hf1⟩:=((hk.mono hV5).src hS.sub).ofBlockD i0 hil
   refine ⟨x5,rfl,hk.ix i0 hil,f1,_,⟨a1,a2⟩,?_⟩
   have hfd:=hx3.mono hu5
   have hu25:=hu3.trans hu5
   have ext:∀ {K:Value→World→Prop},(∀ z' w' u',Sub u5 u'→Sub w5 w'→St u' w' (J++R)→Read u' z' (vars++([]:List Int))→K (Sl.val z') w')→Trip Tryz.prog 99 #[z.val,x3.val] w5 K:=by
    intro K kk
    refine Mk.usew (c_extend ((hz.mono hV5).here hS) (hfd.mono hS.sub) (by omega)) hS ?_
    rintro _ w' J' ⟨z',rfl,hO'⟩ hS' hs'
    obtain ⟨u',hu',hS',hJ'⟩:=hS'.freeze J'
    exact kk z' w' u' hu' hs' hS' ((hO'.ofInts (u':=u5)).read1 hJ')
   refine ⟨ext fun z6 w6 u6 hu6 hs6 hS hz6=>⟨z6,rfl,hs6,?_,.refl _,?_⟩,.refl _,ext fun z6 w6 u6 hu6 hs6 hS hz6=>⟨z6,rfl,hs6,?_⟩⟩
   ·refine (H _ (nth_mem i0 hil) u6 w6 (J++R) x y z6 f1 x5 (vars++([]:List Int)) mine d hS ((hx.mono hV5).mono hu6) ht ((hy.mono hV5).mono hu6) (by rw [List.length_append];exact hPi) hd (by rw [List.length_append];omega) (hf1.mono hu6) (.of hz6) (.of (hx5.mono hu6)) (by omega)).mono' ?_
    rintro _ w7 ⟨u7,y7,l7,rfl,hu7,hS,hy7,hl7,hs7⟩
    refine ⟨y7,_,rfl,.refl _,?_⟩
    refine (c_countings (in64_in rfl) ((hx5.mono hu6).mono hu7)).use hS ?_
    rintro _ w8 u8 J8 hu8 hs8 hS ⟨y8,rfl,hO8⟩
    refine ⟨y8,rfl,hs8,?_⟩
    refine Own.append hO8 hS ((hy7.mono hu8).src hS.sub) (by rw [ctg_len];omega) (by decide) fun y9 w9 J9 hO9 hS=>⟨y9,rfl,?_⟩
    obtain ⟨u10,hu10,hS,hJ10⟩:=hS.freeze J9
    have h510:=hu6.trans (hu7.trans (hu8.trans hu10))
    refine st_push (α:=BlockD) hS (hO.mono (hu25.trans h510)) (vofB r1 (hO9.read1 hJ10)) (by omega) (by decide) (by decide) fun y11 w11 J11 hS hO=>?_
    refine go_wr (by omega) (by omega) ?_
    refine ⟨rfl,rfl,rfl,rfl,rfl,rfl,rfl,rfl,rfl,rfl,rfl,rfl,⟨u10,J11,_,hu2.trans (hu25.trans h510),hS,hO,by simp;omega,?_,by omega,by omega⟩,by omega⟩
    intro k hk'
    rcases List.mem_append.1 hk' with hk'|hk'
    ·exact hks k hk'
    ·rw [List.mem_singleton.1 hk']
     refine ⟨by rw [List.length_append,ctg_len];show _≤60000000;omega,?_⟩
     intro s hs
     rcases List.mem_append.1 hs with hs|hs
     ·exact sh_ctg (by decide) hs
     ·exact hs7 s hs
   ·refine (H _ (nth_mem i0 hil) u6 w6 (J++R) x y z6 f1 x5 (vars++([]:List Int)) mine d hS ((hx.mono hV5).mono hu6) ht ((hy.mono hV5).mono hu6) (by rw [List.length_append];exact hPi) hd (by rw [List.length_append];omega) (hf1.mono hu6) (.of hz6) (.of (hx5.mono hu6)) (by omega)).mono' ?_
    rintro _ w7 ⟨u7,y7,l7,rfl,hu7,hS,hy7,hl7,hs7⟩
    refine ⟨y7,_,rfl,?_⟩
    refine (c_countings (in64_in rfl) ((hx5.mono hu6).mono hu7)).use hS ?_
    rintro _ w8 u8 J8 hu8 hs8 hS ⟨y8,rfl,hO8⟩
    refine ⟨y8,rfl,hs8,?_⟩
    refine Own.append hO8 hS ((hy7.mono hu8).src hS.sub) (by rw [ctg_len];omega) (by decide) fun y9 w9 J9 hO9 hS=>⟨y9,rfl,?_⟩
    obtain ⟨u10,hu10,hS,hJ10⟩:=hS.freeze J9
    have h510:=hu6.trans (hu7.trans (hu8.trans hu10))
    refine st_push (α:=BlockD) hS (hO.mono (hu25.trans h510)) (vofB r1 (hO9.read1 hJ10)) (by omega) (by decide) (by decide) fun y11 w11 J11 hS hO=>?_
    refine go_wr (by omega) (by omega) ?_
    refine ⟨rfl,rfl,rfl,rfl,rfl,rfl,rfl,rfl,rfl,rfl,rfl,rfl,⟨u10,J11,_,hu2.trans (hu25.trans h510),hS,hO,by simp;omega,?_,by omega,by omega⟩,by omega⟩
    intro k hk'
    rcases List.mem_append.1 hk' with hk'|hk'
    ·exact hks k hk'
    ·rw [List.mem_singleton.1 hk']
     refine ⟨by rw [List.length_append,ctg_len];show _≤60000000;omega,?_⟩
     intro s hs
     rcases List.mem_append.1 hs with hs|hs
     ·exact sh_ctg (by decide) hs
     ·exact hs7 s hs
   ·refine (H _ (nth_mem i0 hil) u6 w6 (J++R) x y z6 f1 x5 (vars++([]:List Int)) mine d hS ((hx.mono hV5).mono hu6) ht ((hy.mono hV5).mono hu6) (by rw [List.length_append];exact hPi) hd (by rw [List.length_append];omega) (hf1.mono hu6) (.of hz6) (.of (hx5.mono hu6)) (by omega)).mono' ?_
    rintro _ w7 ⟨u7,y7,l7,rfl,hu7,hS,hy7,hl7,hs7⟩
    refine ⟨y7,_,rfl,?_⟩
    refine (c_countings (in64_in rfl) ((hx5.mono hu6).mono hu7)).use hS ?_
    rintro _ w8 u8 J8 hu8 hs8 hS ⟨y8,rfl,hO8⟩
    refine ⟨y8,rfl,hs8,?_⟩
    refine Own.append hO8 hS ((hy7.mono hu8).src hS.sub) (by rw [ctg_len];omega) (by decide) fun y9 w9 J9 hO9 hS=>⟨y9,rfl,?_⟩
    obtain ⟨u10,hu10,hS,hJ10⟩:=hS.freeze J9
    have h510:=hu6.trans (hu7.trans (hu8.trans hu10))
    refine st_push (α:=BlockD) hS (hO.mono (hu25.trans h510)) (vofB r1 (hO9.read1 hJ10)) (by omega) (by decide) (by decide) fun y11 w11 J11 hS hO=>?_
    refine go_wr (by omega) (by omega) ?_
    refine ⟨rfl,rfl,rfl,rfl,rfl,rfl,rfl,rfl,rfl,rfl,rfl,rfl,⟨u10,J11,_,hu2.trans (hu25.trans h510),hS,hO,by simp;omega,?_,by omega,by omega⟩,by omega⟩
    intro k hk'
    rcases List.mem_append.1 hk' with hk'|hk'
    ·exact hks k hk'
    ·rw [List.mem_singleton.1 hk']
     refine ⟨by rw [List.length_append,ctg_len];show _≤60000000;omega,?_⟩
     intro s hs
     rcases List.mem_append.1 hs with hs|hs
     ·exact sh_ctg (by decide) hs
     ·exact hs7 s hs
 ·simp only [bls] at hc
  obtain ⟨u3,hu3,hS,hJ⟩:=hS.freeze J
  refine (Mk.fz (c_copyInts ((ha.mono hU).mono hu3))).use hS ?_
  rintro _ w4 u4 hu4 hs4 hS ⟨y4,rfl,hy4⟩
  exact ⟨y4,rfl,hs4,u4,y4,t,ks,rfl,hU.trans (hu3.trans hu4),hS,hy4,(hO.read1 hJ).mono hu4,by omega,hks⟩
end
section
variable {u u' w:World} {x y z s f xk xs px xo:Sl} {ds:List DeclD} {rs:List RoutD} {I J R:Items} {n op num result i:Int} {m d:Nat} {l k args vars params mine:List Int} {steps sts:List StepD} {b:BlockD} {c:StepD} {ro:RoutD}
set_option maxRecDepth 4000 in
theorem c_lateBlock (b:BlockD):LbP ds rs b:=by
 refine blk_ind (P:=LbP ds rs) (fun b H=>?_) b
 intro u w R x y z xs xo vars mine0 d hS hx ht hy hP hd hb hxs hz ho hol
 refine of86e _ _ _ _ _ _ _ _ ?_
 unfold vc86e
 have hxn:=hxs.n
 have hxl:=hxs.le
 have hPl:=hP.1.len
 refine st_own (α:=StepD) (l:=[]) hS VsOf.nil rfl (by decide) fun y0 w0 Js hs0 hS hOs=>?_
 refine Mk.usew (c_copyInts (hz.here hS)) hS ?_
 rintro _ w1 Ji ⟨x1,rfl,hOi⟩ hS hs1
 refine ⟨x1,rfl,?_⟩
 refine Mk.usew (c_copyInts (ho.here (I:=Ji++Js) (by rw [List.append_assoc];exact hS))) hS ?_
 rintro _ w2 Jm ⟨x2,rfl,hOm⟩ hS hs2
 refine ⟨x2,rfl,?_⟩
 refine ⟨fun xs' xi xm i w=>∃ (u1:World) (Js Ji Jm:Items) (sts:List StepD) (inner mine:List Int),Sub u u1∧St u1 w (Js++(Ji++(Jm++R)))∧Own u1 xs' sts Js∧Own u1 xi inner Ji∧Own u1 xm mine Jm∧(sts.length:Int)≤5002 * i∧inner.length=vars.length+i.toNat∧(mine.length:Int)≤1000+i∧(∀ s∈sts,ShS ds NC d s)∧0≤i∧i≤b.steps.length,fun _ _ _ i _=>(b.steps.length - i).toNat,⟨u,Js,Ji,Jm,[],vars,mine0,.refl u,hS.to,hOs,hOi.ofInts,hOm.ofInts,by simp,by simp,by omega,by simp,by omega,by omega⟩,?_⟩
 clear hS hOs hOi hOm hs0 hs1 hs2
 rintro x12 x13 x14 i w ⟨u1,Js,Ji,Jm,sts,inner,mine,hU,hS,hOs,hOi,hOm,hsl,hil,hml,hss,i0,i1⟩
 dsimp only
 refine ⟨fun hc=>?_,fun hc=>?_⟩
 ·simp only [bls] at hc
  have hlt:i < b.steps.length:=by omega
  obtain ⟨f,g,e1,e2,e3,e4,e5,q1,q2,q3,hf,hg⟩:=((hxs.mono hU).src hS.sub).ofStepD i0 hlt
  obtain ⟨d2,hd2,hA,hK⟩:=hP.1.at i0 hlt
  rw [←hil] at hA hK
  generalize hcc:nth b.steps i=c at *
  have hin:Read w x13 inner:=hOi.read hS
  have hinn:=hin.n
  refine ⟨hxs.ix i0 hlt,_,_,_,f,g,⟨e1,e2,e3,e4,e5⟩,?_⟩
  refine Fz.usew (c_stepTypeW (c:=c) ⟨(hx.mono hU).mono hS.sub,ht,(hy.mono hU).mono hS.sub,hin⟩ (hf.mono hS.sub) (hg.mono hS.sub) hK (by omega) q2 q3) ?_
  rintro _ w3 hs3 ⟨t,rfl,htI⟩
  have hS:=hS.sub_w hs3
  refine ⟨t,rfl,?_⟩
  have ha5:=hA.1
  refine Mk.usew (c_consumedBefore (xk:=g) (c:=c) ⟨⟨(hx.mono hU).mono hS.sub,ht,(hy.mono hU).mono hS.sub,hOi.read hS⟩,hf.mono hS.sub,hA⟩) hS ?_
  rintro _ w7 J7 ⟨x38,dups,rfl,hO7,hdl⟩ hS hs7
  obtain ⟨u7,hu7,hS,hJ7⟩:=hS.freeze J7
  have hx38:Read u7 x38 dups:=(hO7.ofInts (u':=u1)).read1 hJ7
  refine ⟨x38,rfl,?_⟩
  refine (c_countings (in64_in rfl) hx38).use hS ?_
  rintro _ w8 u8 J8 hu8 hs8 hS ⟨x41,rfl,hO8⟩
  refine ⟨x41,rfl,?_⟩
  have h18:=hu7.trans hu8
  refine Own.append (hOs.mono h18) hS (Own.src hO8 hS) (by rw [ctg_len];omega) (by decide) fun x44 w9 J9 hO9 hS=>⟨x44,rfl,?_⟩
  have hS:St u8 w9 (J9++(Ji++(Jm++R))):=hS.to
  have hU8:=hU.trans h18
  refine (c_lateStepH (c:=c) (d:=d2) (H c (by rw [←hcc];exact nth_mem i0 hlt)) hS (hx.mono hU8) ht (hy.mono hU8) hA hK (by omega) (by omega) q2 (hf.mono h18) (hg.mono h18) (fun u' w' I' hs' hS'=>((hOi.mono h18).mono hs').src hS')).mono' ?_
  rintro _ w10 ⟨u10,ya,yk,ks,rfl,hu10,hS,hya,hyk,hkl,hks⟩
  refine ⟨_,_,_,ya,yk,rfl,?_⟩
  refine st_push (α:=StepD) hS (hO9.mono hu10) (vofS q1 q2 (in64_in rfl) hya hyk) (by rw [List.length_append,ctg_len];omega) (by decide) (by decide) fun x57 w11 J11 hS hO11=>?_
  have h1a:=h18.trans hu10
  have hlen15:((sts++ctgS 14 dups++[(⟨c.op,c.num,0,c.args,ks⟩:StepD)]).length:Int)≤5002 * i+5001:=by simp only [List.length_append,List.length_singleton,ctg_len];omega
  have hsh15:∀ s∈sts++ctgS 14 dups++[(⟨c.op,c.num,0,c.args,ks⟩:StepD)],ShS ds NC d s:=by
   intro s hs
   rcases List.mem_append.1 hs with hs|hs
   ·rcases List.mem_append.1 hs with hs|hs
    ·exact hss s hs
    ·exact sh_ctg (by decide) hs
   ·rw [List.mem_singleton.1 hs]
    have hs0:=hA.sh
    refine ⟨⟨hs0.1,by show ks.length≤5000;have:=hs0.2.1;omega,hs0.2.2.1,fun h8=>⟨(hs0.2.2.2 h8).1,by have:=(hs0.2.2.2 h8).2;show ks.length≤(consL ds c.num).length;omega⟩⟩,fun k hk=>(hks k hk).le (Nat.le_refl _) (by omega)⟩
  generalize hgen:sts++ctgS 14 dups++[(⟨c.op,c.num,0,c.args,ks⟩:StepD)]=sts2 at hO11 hlen15 hsh15
  refine ⟨fun _=>?_,fun _=>?_⟩
  ·refine st_push (α:=Int) (R:=J11++(Ji++R)) hS.to (hOm.mono h1a) (VOf.int ⟨by omega,by omega⟩) (by omega) (by decide) (by decide) fun x52 w12 J12 hS hO12=>?_
   refine st_push (α:=Int) (R:=J12++(J11++R)) hS.to (hOi.mono h1a) (VOf.int htI) (by omega) (by decide) (by decide) fun x58 w13 J13 hS hO13=>?_
   refine go_wr (by omega) (by omega) ?_
   exact ⟨rfl,rfl,rfl,rfl,rfl,rfl,⟨u10,J11,J13,J12,sts2,_,_,hU.trans h1a,hS.to,hO11,hO13,hO12,by omega,by simp;omega,by simp;omega,hsh15,by omega,by omega⟩,by omega⟩
  ·refine st_push (α:=Int) (R:=J11++(Jm++R)) hS.to (hOi.mono h1a) (VOf.int htI) (by omega) (by decide) (by decide) fun x58 w13 J13 hS hO13=>?_
   refine go_wr (by omega) (by omega) ?_
   exact ⟨rfl,rfl,rfl,rfl,rfl,rfl,⟨u10,J11,J13,Jm,sts2,_,mine,hU.trans h1a,hS.to,hO11,hO13,hOm.mono h1a,by omega,by simp;omega,by omega,hsh15,by omega,by omega⟩,by omega⟩
 ·simp only [bls] at hc
  have hin:Read w x13 inner:=hOi.read hS
  have hr0:=hP.2.1
  have hr1:=hP.2.2
  have hri:b.result < inner.length:=by omega
  obtain ⟨c1,c2⟩:=(hin.src (.refl w)).int hr0 hri
  refine ⟨hin.ix hr0 hri,_,c1,fun hc2=>?_,fun hc2=>?_⟩
  ·refine (c_counting (n:=b.result) ⟨by omega,by omega⟩).use hS ?_
   rintro _ w18 u18 hu18 hs18 hS ⟨xc,xd,rfl,hxc,hxd⟩
   refine ⟨_,_,_,xc,xd,rfl,?_⟩
   refine st_push (α:=StepD) hS (hOs.mono hu18) (vofS (in64_in rfl) (in64_in rfl) (in64_in rfl) hxc hxd) (by omega) (by decide) (by decide) fun x108 w19 J19 hS hO19=>?_
   have hS:St u18 w19 (Jm++(J19++R)):=hS.to
   obtain ⟨u20,hu20,hS,hJ⟩:=hS.freeze Jm
   have hmr:=(hOm.mono hu18).read1 hJ
   refine (c_countings (in64_in rfl) hmr).use hS ?_
   rintro _ w21 u21 J21 hu21 hs21 hS ⟨x83,rfl,hO21⟩
   refine ⟨x83,rfl,?_⟩
   refine Own.append ((hO19.mono hu20).mono hu21) hS (Own.src hO21 hS) (by simp only [List.length_append,List.length_singleton,ctg_len];omega) (by decide) fun x86 w22 J22 hO22 hS=>⟨x86,rfl,?_⟩
   have hS:St u21 w22 (J22++R):=hS.to
   obtain ⟨u23,hu23,hS,hJ⟩:=hS.freeze J22
   refine ⟨u23,x86,_,rfl,hU.trans (hu18.trans (hu20.trans (hu21.trans hu23))),hS,hO22.read1 hJ,by simp only [List.length_append,List.length_singleton,ctg_len];omega,?_⟩
   intro s hs
   rcases List.mem_append.1 hs with hs|hs
   ·rcases List.mem_append.1 hs with hs|hs
    ·exact hss s hs
    ·rw [List.mem_singleton.1 hs]
     exact ⟨ShA.ctg (by decide),fun k hk=>by cases hk⟩
   ·exact sh_ctg (by decide) hs
  ·have hS:St u1 w (Jm++(Js++R)):=hS.to
   obtain ⟨u20,hu20,hS,hJ⟩:=hS.freeze Jm
   have hmr:=hOm.read1 hJ
   refine (c_countings (in64_in rfl) hmr).use hS ?_
   rintro _ w21 u21 J21 hu21 hs21 hS ⟨x83,rfl,hO21⟩
   refine ⟨x83,rfl,?_⟩
   refine Own.append ((hOs.mono hu20).mono hu21) hS (Own.src hO21 hS) (by simp only [List.length_append,ctg_len];omega) (by decide) fun x86 w22 J22 hO22 hS=>⟨x86,rfl,?_⟩
   have hS:St u21 w22 (J22++R):=hS.to
   obtain ⟨u23,hu23,hS,hJ⟩:=hS.freeze J22
   refine ⟨u23,x86,_,rfl,hU.trans (hu20.trans (hu21.trans hu23)),hS,hO22.read1 hJ,by simp only [List.length_append,ctg_len];omega,?_⟩
   intro s hs
   rcases List.mem_append.1 hs with hs|hs
   ·exact hss s hs
   ·exact sh_ctg (by decide) hs
theorem c_lateBody (hx:Read u x ds) (ht:typesOk ds) (hy:Read u y rs) (hP:RPl ds rs.length ro) (hp:Read u px ro.params) (ho:Read u xo mine) (hm:mine.length≤3) (hs:Read u xs ro.body.steps):Fz Tryz.prog 86 #[.agg #[x.val,y.val],px.val,.agg #[xs.val,iV ro.body.result],xo.val] u (BdQ ds ro.body):=by
 have h3:=hP.1
 refine (c_lateBlock ro.body u u [] x y px xs xo ro.params mine 5000 (.refl u) hx ht hy hP.2.1 (by omega) (by omega) hs (.of hp) (.of ho) (by omega)).mono' ?_
 rintro _ w8 ⟨u8,y8,l8,rfl,hu8,hS,hy8,hl8,hs8⟩
 exact ⟨hu8.trans hS.sub,y8,l8,rfl,hy8.mono hS.sub,bd_mk (by omega) hs8⟩
theorem c_counted (hx:Read u x ds) (ht:typesOk ds) (hy:Read u y rs) (hP:RsP ds rs):Fz Tryz.prog 65 #[.agg #[x.val,y.val]] u fun r u'=>∃ (x' y':Sl) (rs':List RoutD),r=.agg #[x'.val,y'.val]∧Read u' x' ds∧Read u' y' rs'∧rs'.length=rs.length∧∀ r∈rs',RSh ds r:=by
 refine of65 _ _ _ _ ?_
 unfold vc65
 have hyn:=hy.n
 have hyl:=hy.le
 refine (c_copyDeclsZ hx).use (.refl u) ?_
 rintro _ w0 u0 hu0 hs0 hS ⟨x',rfl,hx'⟩
 refine ⟨x',rfl,?_⟩
 refine st_own (α:=RoutD) (l:=[]) hS VsOf.nil rfl (by decide) fun y1 w1 J1 hs1 hS hO=>?_
 refine ⟨fun i s w=>∃ (u1:World) (J:Items) (ts:List RoutD),Sub u0 u1∧St u1 w (J++[])∧Own u1 s ts J∧(ts.length:Int)=i∧(∀ r∈ts,RSh ds r)∧0≤i∧i≤rs.length,fun i _ _=>(rs.length - i).toNat,⟨u0,J1,[],.refl u0,hS,hO,by simp,by simp,by omega,by omega⟩,?_⟩
 clear hS hO hs1 hs0
 rintro i s w ⟨u1,J,ts,hu1,hS,hO,hrl,hts,i0,i1⟩
 dsimp only
 have hU:=hu0.trans hu1
 refine ⟨fun hc=>?_,fun hc=>?_⟩
 ·simp only [bls] at hc
  have hil:i < rs.length:=by omega
  obtain ⟨f1,f2,f3,e1,e2,e3,e4,e5,q1,q2,r1,r2,r3⟩:=((hy.mono hU).src hS.sub).ofRoutD i0 hil
  have hPr:=hP _ (nth_mem i0 hil)
  have hix:=hy.ix i0 hil
  refine ⟨hix,f1,f2,_,f3,_,⟨e1,e2,e3,e4,e5⟩,hix,f1,f2,_,f3,_,⟨e1,e2,e3,e4,e5⟩,?_⟩
  have UA:Sub u1 u1:=.refl u1
  refine (c_countBody (hx.mono hU) ht (hy.mono hU) hPr r1 r2 r3).use hS ?_
  rintro _ w3 u3 hu3 hs3 hS ⟨p3,l3,rfl,hp3,hb3⟩
  refine ⟨p3,_,rfl,hs3,?_⟩
  refine (c_withBody (xs:=f3) (m:=(nth rs i).body.result) ((r1.mono UA).mono hu3) ((r2.mono UA).mono hu3)).use hS ?_
  rintro _ w4 u4 hu4 hs4 hS ⟨py,ly,rfl,hpy,hly⟩
  refine ⟨py,ly,_,p3,_,rfl,hs4,?_⟩
  have hV:=UA.trans (hu3.trans hu4)
  refine st_pushS (α:=RoutD) hS (hO.mono hV) (vofR (b:=⟨l3,(nth rs i).body.result⟩) q1 q2 hpy hly (hp3.mono hu4)) (by omega) (by decide) (by decide) fun y' w5 J5 hS hO=>?_
  refine go_wr (by omega) (by omega) ?_
  refine ⟨rfl,rfl,rfl,rfl,rfl,⟨u4,J5,_,hu1.trans hV,hS,hO,by simp;omega,?_,by omega,by omega⟩,by omega⟩
  intro r hr
  rcases List.mem_append.1 hr with hr|hr
  ·exact hts r hr
  ·rw [List.mem_singleton.1 hr]
   exact ⟨hb3,hPr.2.2⟩
 ·simp only [bls] at hc
  exact ⟨hU.trans hS.sub,x',s,ts,rfl,(hx'.mono hu1).mono hS.sub,hO.read1 (by simpa using hS),by omega,hts⟩
theorem c_late (hx:Read u x ds) (ht:typesOk ds) (hy:Read u y rs) (hP:RsP ds rs):Fz Tryz.prog 66 #[.agg #[x.val,y.val]] u fun r u'=>∃ (x' y':Sl) (rs':List RoutD),r=.agg #[x'.val,y'.val]∧Read u' x' ds∧Read u' y' rs'∧rs'.length=rs.length∧∀ r∈rs',RSh ds r:=by
 refine of66 _ _ _ _ ?_
 unfold vc66
 have hyn:=hy.n
 have hyl:=hy.le
 refine (c_copyDeclsZ hx).use (.refl u) ?_
 rintro _ w0 u0 hu0 hs0 hS ⟨x',rfl,hx'⟩
 refine ⟨x',rfl,?_⟩
 refine st_own (α:=RoutD) (l:=[]) hS VsOf.nil rfl (by decide) fun y1 w1 J1 hs1 hS hO=>?_
 refine ⟨fun i s w=>∃ (u1:World) (J:Items) (ts:List RoutD),Sub u0 u1∧St u1 w (J++[])∧Own u1 s ts J∧(ts.length:Int)=i∧(∀ r∈ts,RSh ds r)∧0≤i∧i≤rs.length,fun i _ _=>(rs.length - i).toNat,⟨u0,J1,[],.refl u0,hS,hO,by simp,by simp,by omega,by omega⟩,?_⟩
 clear hS hO hs1 hs0
 rintro i s w ⟨u1,J,ts,hu1,hS,hO,hrl,hts,i0,i1⟩
 dsimp only
 have hU:=hu0.trans hu1
 refine ⟨fun hc=>?_,fun hc=>?_⟩
 ·simp only [bls] at hc
  have hil:i < rs.length:=by omega
  obtain ⟨f1,f2,f3,e1,e2,e3,e4,e5,q1,q2,r1,r2,r3⟩:=((hy.mono hU).src hS.sub).ofRoutD i0 hil
  have hPr:=hP _ (nth_mem i0 hil)
  have hix:=hy.ix i0 hil
  refine ⟨hix,f1,f2,_,f3,_,⟨e1,e2,e3,e4,e5⟩,?_⟩
  refine Mk.use (c_ownParams r1 r2 hPr.1) hS ?_
  rintro _ w2 J2 ⟨x2,mine,rfl,hO2,hm2⟩ hS hs2
  obtain ⟨u2,UA,hS,hJ⟩:=hS.freeze J2
  refine ⟨x2,rfl,hs2,?_⟩
  refine (c_lateBody ((hx.mono hU).mono UA) ht ((hy.mono hU).mono UA) hPr (r1.mono UA) (hO2.read1 hJ) hm2 (r3.mono UA)).use hS ?_
  rintro _ w3 u3 hu3 hs3 hS ⟨p3,l3,rfl,hp3,hb3⟩
  refine ⟨p3,_,rfl,hs3,?_⟩
  refine (c_withBody (xs:=f3) (m:=(nth rs i).body.result) ((r1.mono UA).mono hu3) ((r2.mono UA).mono hu3)).use hS ?_
  rintro _ w4 u4 hu4 hs4 hS ⟨py,ly,rfl,hpy,hly⟩
  refine ⟨py,ly,_,p3,_,rfl,hs4,?_⟩
  have hV:=UA.trans (hu3.trans hu4)
  refine st_pushS (α:=RoutD) hS (hO.mono hV) (vofR (b:=⟨l3,(nth rs i).body.result⟩) q1 q2 hpy hly (hp3.mono hu4)) (by omega) (by decide) (by decide) fun y' w5 J5 hS hO=>?_
  refine go_wr (by omega) (by omega) ?_
  refine ⟨rfl,rfl,rfl,rfl,rfl,⟨u4,J5,_,hu1.trans hV,hS,hO,by simp;omega,?_,by omega,by omega⟩,by omega⟩
  intro r hr
  rcases List.mem_append.1 hr with hr|hr
  ·exact hts r hr
  ·rw [List.mem_singleton.1 hr]
   exact ⟨hb3,hPr.2.2⟩
 ·simp only [bls] at hc
  exact ⟨hU.trans hS.sub,x',s,ts,rfl,(hx'.mono hu1).mono hS.sub,hO.read1 (by simpa using hS),by omega,hts⟩
end
def RSN (ds:List DeclD) (N:Nat) (r:RoutD):Prop:=ShB ds N 5001 r.body∧r.lent.length≤3
def netF:List StepD→Int→Int
 | [],_=>0
 | s ::r,v=>(if nth s.args 0=v then (if s.op=14 then 1 else -1) else 0)+netF r v
def netS (run:List StepD) (vs:List Int):Nat:=(vs.map fun v=>(netF run v).natAbs).sum
def CxB (ds:List DeclD) (N:Nat) (b:BlockD):Prop:=∀ (u:World) (xs:Sl) (d:Nat),ShB ds N d b→Read u xs b.steps→InI b.result→Fz Tryz.prog 69 #[.agg #[xs.val,iV b.result]] u fun r u'=>∃ (y:Sl) (l:List StepD),r=.agg #[y.val,iV b.result]∧Read u' y l∧ShB ds N d ⟨l,b.result⟩
section
variable {u u' v w:World} {x y s f xa xk xs:Sl} {ds:List DeclD} {rs:List RoutD} {a:Addr} {J R:Items} {n op num into result i:Int} {m d N:Nat} {l k args vs:List Int} {kids:List BlockD} {steps sts run:List StepD} {b:BlockD} {e:ExprD}
theorem sum_one {a:Int}:∀ {vs:List Int},vs.Pairwise (· < ·)→(vs.map fun v=>if a=v then (1:Nat) else 0).sum≤1
 | [],_=>by simp
 | v ::r,h=>by
  have h2:=List.pairwise_cons.1 h
  rw [List.map_cons,List.sum_cons]
  by_cases e:a=v
  ·have:(r.map fun v=>if a=v then (1:Nat) else 0).sum=0:=by
    have key:∀ l:List Int,(∀ q∈l,a < q)→(l.map fun v=>if a=v then (1:Nat) else 0).sum=0:=by
     intro l
     induction l with
     | nil=>intro _;rfl
     | cons q l ih=>
      intro hq
      rw [List.map_cons,List.sum_cons,ih fun t ht=>hq t (List.mem_cons_of_mem _ ht),if_neg (by have:=hq q List.mem_cons_self;omega)]
    exact key r (by rw [e];exact h2.1)
   rw [this,if_pos e]
   omega
  ·rw [if_neg e]
   have:=sum_one (a:=a) h2.2
   omega
theorem netS_le:∀ (run:List StepD) {vs:List Int},vs.Pairwise (· < ·)→netS run vs≤run.length
 | [],vs,_=>by
  unfold netS
  have:∀ l:List Int,(l.map fun v=>(netF [] v).natAbs).sum=0:=by
   intro l
   induction l with
   | nil=>rfl
   | cons q l ih=>rw [List.map_cons,List.sum_cons,ih];rfl
  rw [this]
  exact Nat.zero_le _
 | s ::r,vs,h=>by
  have h1:=netS_le r h
  have h2:=sum_one (a:=nth s.args 0) h
  have key:∀ l:List Int,(l.map fun v=>(netF (s ::r) v).natAbs).sum≤(l.map fun v=>(netF r v).natAbs).sum+(l.map fun v=>if nth s.args 0=v then (1:Nat) else 0).sum:=by
   intro l
   induction l with
   | nil=>simp
   | cons q l ih=>
    rw [List.map_cons,List.sum_cons,List.map_cons,List.sum_cons,List.map_cons,List.sum_cons]
    have:(netF (s ::r) q).natAbs≤(netF r q).natAbs+(if nth s.args 0=q then (1:Nat) else 0):=by
     show ((if nth s.args 0=q then (if s.op=14 then 1 else -1) else 0)+netF r q).natAbs≤_
     by_cases e:nth s.args 0=q
     ·rw [if_pos e,if_pos e]
      by_cases e2:s.op=14
      ·rw [if_pos e2];omega
      ·rw [if_neg e2];omega
     ·rw [if_neg e,if_neg e];omega
    omega
  have h3:=key vs
  unfold netS at h1 ⊢
  rw [List.length_cons]
  omega
theorem netF_snoc (s:StepD) (v:Int):∀ run:List StepD,netF (run++[s]) v=netF run v+(if nth s.args 0=v then (if s.op=14 then 1 else -1) else 0)
 | []=>by show _+netF [] v=netF [] v+_;unfold netF;omega
 | a ::r=>by
  show _+netF (r++[s]) v=(_+netF r v)+_
  rw [netF_snoc s v r]
  omega
theorem netF_bd (v:Int):∀ run:List StepD,-(run.length:Int)≤netF run v∧netF run v≤run.length
 | []=>by unfold netF;simp
 | a ::r=>by
  have:=netF_bd v r
  have e:netF (a ::r) v=(if nth a.args 0=v then (if a.op=14 then 1 else -1) else 0)+netF r v:=rfl
  rw [e,List.length_cons]
  split
  ·split<;>omega
  ·omega
theorem c_netOf (hx:Read u x run) (hr:∀ s∈run,1≤s.args.length):Fn Tryz.prog 124 #[x.val,iV n] u (iV (netF run n)):=by
 refine of124 _ _ _ _ ?_
 unfold vc124
 have hxn:=hx.n
 have hxl:=hx.le
 refine ⟨fun q i w=>u=w∧0≤i∧i≤run.length∧q=netF (run.take i.toNat) n,fun _ i _=>(run.length - i).toNat,⟨rfl,by omega,by omega,rfl⟩,?_⟩
 rintro q i _ ⟨rfl,i0,i1,hq⟩
 dsimp only
 refine ⟨fun hc=>?_,fun hc=>?_⟩
 ·simp only [bls] at hc
  have hil:i < run.length:=by omega
  have h1:=hr _ (nth_mem i0 hil)
  obtain ⟨f,g,e1,e2,e3,e4,e5,q1,q2,q3,hf,hg⟩:=(hx.src (.refl u)).ofStepD i0 hil
  have hix:=hx.ix i0 hil
  have hfx:=hf.ix (i:=0) (by omega) (by omega)
  have hc1:=((hf.src (.refl u)).int (i:=0) (by omega) (by omega)).1
  have hbd:=netF_bd n (run.take i.toNat)
  rw [List.length_take] at hbd
  have hsn:=netF_snoc (nth run i) n (run.take i.toNat)
  rw [←take_nth i0 hil] at hsn
  refine ⟨hix,f,e4,hfx,_,hc1,fun _=>hix,_,fun _=>e1,fun hc2=>?_,fun hc2=>⟨hix,f,e4,hfx,_,hc1,fun hc3=>?_,fun hc3=>?_⟩⟩
  ·simp only [bls] at hc2
   refine go_wr (by omega) (by omega) ?_
   refine go_wr (by omega) (by omega) ?_
   refine ⟨⟨rfl,by omega,by omega,?_⟩,by omega⟩
   rw [hsn,if_pos hc2.1,if_pos hc2.2,hq]
  ·simp only [bls] at hc3
   have hop:¬ (nth run i).op=14:=fun h=>by rw [hc3,h] at hc2;simp at hc2
   refine go_wr (by omega) (by omega) ?_
   refine go_wr (by omega) (by omega) ?_
   refine ⟨⟨rfl,by omega,by omega,?_⟩,by omega⟩
   rw [hsn,if_pos hc3,if_neg hop,hq]
   omega
  ·simp only [bls] at hc3
   refine go_wr (by omega) (by omega) ?_
   refine ⟨⟨rfl,by omega,by omega,?_⟩,by omega⟩
   rw [hsn,if_neg hc3,hq]
   omega
 ·simp only [bls] at hc
  rw [List.take_of_length_le (by omega)] at hq
  rw [hq]
  exact ⟨rfl,.refl u⟩
theorem c_varsOf (hx:Read u x run) (hr:∀ s∈run,1≤s.args.length) (hl:run.length≤1000000000):Mk Tryz.prog 123 #[x.val] u fun r J=>∃ (t:Sl) (k:List Int),r=t.val∧Own u t k J∧k.Pairwise (· < ·)∧k.length≤run.length:=by
 refine of123 _ _ _ ?_
 unfold vc123
 have hxn:=hx.n
 refine st_own (α:=Int) (l:=[]) (.refl u) VsOf.nil rfl (by decide) fun y0 w0 J0 hs0 hS hO=>?_
 refine ⟨fun t i w=>∃ (J:Items) (k:List Int),St u w (J++[])∧Own u t k J∧k.Pairwise (· < ·)∧(k.length:Int)≤i∧0≤i∧i≤run.length,fun _ i _=>(run.length - i).toNat,⟨J0,[],hS,hO,.nil,by simp,by omega,by omega⟩,?_⟩
 clear hS hO hs0
 rintro t i w ⟨J,k,hS,hO,hp,hk,i0,i1⟩
 dsimp only
 refine ⟨fun hc=>?_,fun hc=>⟨J,by simpa using hS,t,k,rfl,hO,hp,by omega⟩⟩
 simp only [bls] at hc
 have hil:i < run.length:=by omega
 have h1:=hr _ (nth_mem i0 hil)
 obtain ⟨f,g,e1,e2,e3,e4,e5,q1,q2,q3,hf,hg⟩:=(hx.src hS.sub).ofStepD i0 hil
 obtain ⟨c1,c2⟩:=(hf.src hS.sub).int (i:=0) (by omega) (by omega)
 refine ⟨hx.ix i0 hil,f,e4,hf.ix (by omega) (by omega),_,c1,?_⟩
 refine Mk.usew (c_insert (hO.read hS) hp c2 (by omega)) hS ?_
 rintro _ w5 J5 ⟨t5,l5,rfl,hO5,hp5,_,hl5⟩ hS hs5
 refine ⟨t5,rfl,?_⟩
 refine go_wr (by omega) (by omega) ?_
 exact ⟨⟨J5,l5,hS.to,hO5.ofInts,hp5,by omega,by omega,by omega⟩,by omega⟩
theorem c_shortRun (hx:Read u x run) (hr:∀ s∈run,1≤s.args.length) (hl:run.length≤1000000000):Fo Tryz.prog 93 #[x.val] u fun r u' J=>∃ (t:Sl) (l:List StepD),r=t.val∧Own u' t l J∧l.length≤run.length∧∀ (ds:List DeclD) (N d:Nat),∀ s∈l,ShS ds N d s:=by
 refine of93 _ _ _ ?_
 unfold vc93
 refine st_own (α:=Int) (l:=[]) (.refl u) VsOf.nil rfl (by decide) fun ya w0 Ja hs0 hS hOa=>?_
 refine st_own (α:=Int) (l:=[]) hS VsOf.nil rfl (by decide) fun yb w1 Jb hs1 hS hOb=>?_
 refine Mk.use (c_varsOf hx hr hl) hS ?_
 rintro _ w2 J2 ⟨xv,vs,rfl,hO2,hp2,hl2⟩ hS hs2
 obtain ⟨u3,hu3,hS,hJ⟩:=hS.freeze J2
 have hxv:=hO2.read1 hJ
 have hvn:=hxv.n
 refine ⟨xv,rfl,?_⟩
 refine ⟨fun xd xr i w=>∃ (Jd Jr:Items) (dups drops:List Int),St u3 w (Jd++(Jr++[]))∧Own u3 xd dups Jd∧Own u3 xr drops Jr∧dups.length+drops.length+netS run (vs.drop i.toNat)≤run.length∧0≤i∧i≤vs.length,fun _ _ i _=>(vs.length - i).toNat,⟨Ja,Jb,[],[],hS.to,hOa.mono hu3,hOb.mono hu3,by simpa using netS_le run hp2,by omega,by omega⟩,?_⟩
 clear hS hOa hOb hs0 hs1 hs2
 rintro xd xr i w ⟨Jd,Jr,dups,drops,hS,hOd,hOr,hlen,i0,i1⟩
 dsimp only
 refine ⟨fun hc=>?_,fun hc=>?_⟩
 ·simp only [bls] at hc
  have hil:i < vs.length:=by omega
  have hdr:netS run (vs.drop i.toNat)=(netF run (nth vs i)).natAbs+netS run (vs.drop (i+1).toNat):=by
   rw [dropC i0 hil]
   unfold netS
   rw [List.map_cons,List.sum_cons]
  obtain ⟨c1,c2⟩:=(hxv.src hS.sub).int i0 hil
  have hix:=hxv.ix i0 hil
  refine ⟨hix,_,c1,_,c_netOf ((hx.mono hu3).mono hS.sub) hr,?_⟩
  generalize hnet:netF run (nth vs i)=net at hdr
  generalize hrest:netS run (vs.drop (i+1).toNat)=rest at hdr
  refine ⟨fun xd q w=>∃ (Jd:Items) (dups:List Int),St u3 w (Jd++(Jr++[]))∧Own u3 xd dups Jd∧dups.length+drops.length+q.natAbs+rest≤run.length,fun _ q _=>q.toNat,⟨Jd,dups,hS,hOd,by omega⟩,?_⟩
  clear hS hOd hlen
  rintro xd q w ⟨Jd,dups,hS,hOd,hlen⟩
  dsimp only
  refine ⟨fun hc2=>?_,fun hc2=>?_⟩
  ·simp only [bls] at hc2
   refine ⟨hix,_,((hxv.src hS.sub).int i0 hil).1,?_⟩
   refine st_push (α:=Int) hS hOd (VOf.int c2) (by omega) (by decide) (by decide) fun z5 w5 J5 hS hO=>?_
   refine go_wr (by omega) (by omega) ?_
   exact ⟨⟨J5,_,hS,hO,by simp;omega⟩,by omega⟩
  ·simp only [bls] at hc2
   refine ⟨fun xr q w=>∃ (Jr:Items) (drops:List Int),St u3 w (Jr++(Jd++[]))∧Own u3 xr drops Jr∧dups.length+drops.length+q.natAbs+rest≤run.length,fun _ q _=>(-q).toNat,⟨Jr,drops,hS.to,hOr,by omega⟩,?_⟩
   clear hS hOr hlen hc2
   rintro xr q w ⟨Jr,drops,hS,hOr,hlen⟩
   dsimp only
   refine ⟨fun hc2=>?_,fun hc2=>?_⟩
   ·simp only [bls] at hc2
    refine ⟨hix,_,((hxv.src hS.sub).int i0 hil).1,?_⟩
    refine st_push (α:=Int) hS hOr (VOf.int c2) (by omega) (by decide) (by decide) fun z5 w5 J5 hS hO=>?_
    refine go_wr (by omega) (by omega) ?_
    exact ⟨⟨J5,_,hS,hO,by simp;omega⟩,by omega⟩
   ·refine go_wr (by omega) (by omega) ?_
    exact ⟨⟨Jd,Jr,dups,drops,hS.to,hOd,hOr,by omega,by omega,by omega⟩,by omega⟩
 ·obtain ⟨u4,hu4,hS,hJd⟩:=hS.freeze Jd
  have hrd:=hOd.read1 hJd
  obtain ⟨u5,hu5,hS,hJr⟩:=hS.freeze Jr
  have hrr:=(hOr.mono hu4).read1 hJr
  refine (c_countings (in64_in rfl) (hrd.mono hu5)).use hS ?_
  rintro _ w6 u6 J6 hu6 hs6 hS ⟨x6,rfl,hO6⟩
  refine ⟨x6,rfl,?_⟩
  refine (c_countings (in64_in rfl) (hrr.mono hu6)).use hS ?_
  rintro _ w7 u7 J7 hu7 hs7 hS ⟨x7,rfl,hO7⟩
  refine ⟨x7,rfl,?_⟩
  refine Own.append (hO6.mono hu7) hS (Own.src hO7 hS) (by rw [ctg_len,ctg_len];omega) (by decide) fun x8 w8 J8 hO8 hS=>⟨x8,rfl,?_⟩
  have hfin:St u7 w8 J8:=by
   have h:St u7 w8 (J8++[]):=hS.to
   simpa using h
  refine ⟨u7,J8,hu3.trans (hu4.trans (hu5.trans (hu6.trans hu7))),hfin,x8,_,rfl,hO8,by rw [List.length_append,ctg_len,ctg_len];omega,?_⟩
  intro ds N d s hs
  rcases List.mem_append.1 hs with hs|hs
  ·exact sh_ctg (by decide) hs
  ·exact sh_ctg (by decide) hs
theorem sh_kids {ks:List BlockD} {s:StepD} (h:ShS ds N d s) (hl:ks.length=s.kids.length) (hk:∀ k∈ks,ShB ds N d k):ShS ds N d ⟨s.op,s.num,s.into,s.args,ks⟩:=
 ⟨⟨h.1.1,by show ks.length≤5000;have:=h.1.2.1;omega,h.1.2.2.1,fun h8=>⟨(h.1.2.2.2 h8).1,by have:=(h.1.2.2.2 h8).2;show ks.length≤(consL ds s.num).length;omega⟩⟩,hk⟩
theorem c_cancelBlock (hN:N≤1000000000) (b:BlockD):CxB ds N b:=by
 refine blk_ind (P:=CxB ds N) (fun b H=>?_) b
 intro u xs d hsh hxs hri
 obtain ⟨e,rfl⟩:=hsh.pos
 refine of69 _ _ _ _ ?_
 unfold vc69
 have hxn:=hxs.n
 have hln:=hsh.1
 refine st_own (α:=StepD) (l:=[]) (.refl u) VsOf.nil rfl (by decide) fun ya w0 Ja hs0 hS hOa=>?_
 refine st_own (α:=StepD) (l:=[]) hS VsOf.nil rfl (by decide) fun yb w1 Jb hs1 hS hOb=>?_
 refine ⟨fun xa xb i w=>∃ (u1:World) (Ja Jb:Items) (sts run:List StepD),Sub u u1∧St u1 w (Ja++(Jb++[]))∧Own u1 xa sts Ja∧Own u1 xb run Jb∧((sts.length+run.length:Nat):Int)≤i∧(∀ s∈sts,ShS ds N e s)∧(∀ s∈run,1≤s.args.length)∧0≤i∧i≤b.steps.length,fun _ _ i _=>(b.steps.length - i).toNat,⟨u,Ja,Jb,[],[],.refl u,hS.to,hOa,hOb,by simp,by simp,by simp,by omega,by omega⟩,?_⟩
 clear hS hOa hOb hs0 hs1
 rintro xa xb i w ⟨u1,Ja,Jb,sts,run,hU,hS,hOa,hOb,hlen,hss,hrr,i0,i1⟩
 dsimp only
 
 have cut:∀ {K:Value→World→Prop},(∀ x' w' u' J' l',Sub u1 u'→St u' w' (J'++(Ja++[]))→Own u' x' l' J'→l'.length≤run.length→(∀ s∈l',ShS ds N e s)→K (Sl.val x') w')→Trip Tryz.prog 93 #[xb.val] w K:=by
  intro K k
  have hS:St u1 w (Jb++(Ja++[])):=hS.to
  obtain ⟨u2,hu2,hS,hJ⟩:=hS.freeze Jb
  refine (c_shortRun (hOb.read1 hJ) hrr (by omega)).use hS ?_
  rintro _ w3 u3 J3 hu3 hs3 hS ⟨x3,l3,rfl,hO3,hl3,hs3'⟩
  exact k x3 w3 u3 J3 l3 (hu2.trans hu3) hS hO3 hl3 (hs3' ds N e)
 refine ⟨fun hc=>?_,fun hc=>?_⟩
 ·simp only [bls] at hc
  have hlt:i < b.steps.length:=by omega
  have hsi:=hsh.2 _ (nth_mem i0 hlt)
  obtain ⟨f,g,e1,e2,e3,e4,e5,q1,q2,q3,hf,hg⟩:=((hxs.mono hU).src hS.sub).ofStepD i0 hlt
  refine ⟨hxs.ix i0 hlt,_,_,_,f,g,⟨e1,e2,e3,e4,e5⟩,_,c_isPair,fun hc2=>?_,fun hc2=>?_⟩
  ·simp only [bls] at hc2
   refine st_push (α:=StepD) (R:=Ja++[]) hS.to hOb (vofSc q1 q2 q3 hf hg) (by omega) (by decide) (by decide) fun z5 w5 J5 hS hO=>?_
   refine go_wr (by omega) (by omega) ?_
   refine ⟨rfl,rfl,rfl,rfl,⟨u1,Ja,J5,sts,_,hU,hS.to,hOa,hO,by simp;omega,hss,?_,by omega,by omega⟩,by omega⟩
   intro s hs
   rcases List.mem_append.1 hs with hs|hs
   ·exact hrr s hs
   ·rw [List.mem_singleton.1 hs]
    exact hsi.1.2.2.1 (by omega) (by omega)
  ·refine cut fun x30 w2 u2 J2 l2 hu2 hS hO2 hl2 hsl=>⟨x30,rfl,?_⟩
   refine Own.append (hOa.mono hu2) hS (Own.src hO2 hS) (by omega) (by decide) fun x33 w3 J3 hO3 hS=>⟨x33,rfl,?_⟩
   have hS:St u2 w3 (J3++[]):=hS.to
   refine st_own (α:=StepD) (l:=[]) hS VsOf.nil rfl (by decide) fun x36 w4 J4 hs4 hS hO4=>?_
   refine st_own (α:=BlockD) (l:=[]) hS VsOf.nil rfl (by decide) fun x39 w5 J5 hs5 hS hO5=>?_
   have hgn:=hg.n
   have hgl:=hg.le
   refine ⟨fun xk j w=>∃ (u6:World) (J:Items) (ks:List BlockD),Sub u2 u6∧St u6 w (J++(J4++(J3++[])))∧Own u6 xk ks J∧(ks.length:Int)=j∧(∀ k∈ks,ShB ds N e k)∧0≤j∧j≤(nth b.steps i).kids.length,fun _ j _=>((nth b.steps i).kids.length - j).toNat,⟨u2,J5,[],.refl u2,hS,hO5,by simp,by simp,by omega,by omega⟩,?_⟩
   clear hS hO5 hs5 hs4
   rintro xk j w6 ⟨u6,J6,ks,hu6,hS,hO6,hkl,hks,j0,j1⟩
   dsimp only
   have h16:=hu2.trans hu6
   refine ⟨fun hc3=>?_,fun hc3=>?_⟩
   ·simp only [bls] at hc3
    have hjl:j < (nth b.steps i).kids.length:=by omega
    obtain ⟨k,a1,a2,hr,hk⟩:=((hg.mono h16).src hS.sub).ofBlockD j0 hjl
    refine ⟨hg.ix j0 hjl,k,_,⟨a1,a2⟩,?_⟩
    refine (H _ (nth_mem i0 hlt) _ (nth_mem j0 hjl) u6 k e (hsi.2 _ (nth_mem j0 hjl)) hk hr).use hS ?_
    rintro _ w7 u7 hu7 hs7 hS ⟨y7,l7,rfl,hy7,hb7⟩
    refine ⟨y7,_,rfl,?_⟩
    refine st_push (α:=BlockD) hS (hO6.mono hu7) (vofB hr hy7) (by omega) (by decide) (by decide) fun z8 w8 J8 hS hO=>?_
    refine go_wr (by omega) (by omega) ?_
    refine ⟨rfl,rfl,rfl,rfl,rfl,rfl,rfl,rfl,rfl,⟨u7,J8,_,hu6.trans hu7,hS,hO,by simp;omega,?_,by omega,by omega⟩,by omega⟩
    intro k' hk'
    rcases List.mem_append.1 hk' with hk'|hk'
    ·exact hks k' hk'
    ·rw [List.mem_singleton.1 hk'];exact hb7
   ·simp only [bls] at hc3
    obtain ⟨u7,hu7,hS,hJ⟩:=hS.freeze J6
    have hrk:=hO6.read1 hJ
    refine (Mk.fz (c_copyInts ((hf.mono h16).mono hu7))).use hS ?_
    rintro _ w8 u8 hu8 hs8 hS ⟨x60,rfl,hx60⟩
    refine ⟨x60,rfl,hs8,?_⟩
    have h28:=hu6.trans (hu7.trans hu8)
    refine st_push (α:=StepD) (R:=J4++[]) hS.to (hO3.mono h28) (vofS q1 q2 q3 hx60 (hrk.mono hu8)) (by rw [List.length_append];omega) (by decide) (by decide) fun z9 w9 J9 hS hO=>?_
    refine go_wr (by omega) (by omega) ?_
    refine ⟨rfl,rfl,rfl,rfl,⟨u8,J9,J4,_,[],hU.trans (hu2.trans h28),hS.to,hO,hO4.mono h28,by simp only [List.length_append,List.length_singleton,List.length_nil];omega,?_,by simp,by omega,by omega⟩,by omega⟩
    intro s hs
    rcases List.mem_append.1 hs with hs|hs
    ·rcases List.mem_append.1 hs with hs|hs
     ·exact hss s hs
     ·exact hsl s hs
    ·rw [List.mem_singleton.1 hs]
     exact sh_kids hsi (by omega) hks
 ·refine cut fun x30 w2 u2 J2 l2 hu2 hS hO2 hl2 hsl=>⟨x30,rfl,?_⟩
  refine Own.append (hOa.mono hu2) hS (Own.src hO2 hS) (by omega) (by decide) fun x33 w3 J3 hO3 hS=>⟨x33,rfl,?_⟩
  have hS:St u2 w3 J3:=by
   have:St u2 w3 (J3++[]):=hS.to
   simpa using this
  refine ⟨hU.trans (hu2.trans hS.sub),x33,_,rfl,hO3.read1 hS,⟨by show (sts++l2).length≤N;rw [List.length_append];omega,?_⟩⟩
  intro s hs
  rcases List.mem_append.1 hs with hs|hs
  ·exact hss s hs
  ·exact hsl s hs
theorem c_cancelled (hx:Read u x ds) (ht:typesOk ds) (hy:Read u y rs) (hP:∀ r∈rs,RSN ds N r) (hN:N≤900000000):Fz Tryz.prog 46 #[.agg #[x.val,y.val]] u fun r u'=>∃ (x' y':Sl) (rs':List RoutD),r=.agg #[x'.val,y'.val]∧Read u' x' ds∧Read u' y' rs'∧rs'.length=rs.length∧∀ r∈rs',RSN ds (N) r:=by
 refine of46 _ _ _ _ ?_
 unfold vc46
 have hyn:=hy.n
 have hyl:=hy.le
 refine (c_copyDeclsZ hx).use (.refl u) ?_
 rintro _ w0 u0 hu0 hs0 hS ⟨x',rfl,hx'⟩
 refine ⟨x',rfl,?_⟩
 refine st_own (α:=RoutD) (l:=[]) hS VsOf.nil rfl (by decide) fun y1 w1 J1 hs1 hS hO=>?_
 refine ⟨fun i s w=>∃ (u1:World) (J:Items) (ts:List RoutD),Sub u0 u1∧St u1 w (J++[])∧Own u1 s ts J∧(ts.length:Int)=i∧(∀ r∈ts,RSN ds (N) r)∧0≤i∧i≤rs.length,fun i _ _=>(rs.length - i).toNat,⟨u0,J1,[],.refl u0,hS,hO,by simp,by simp,by omega,by omega⟩,?_⟩
 clear hS hO hs1 hs0
 rintro i s w ⟨u1,J,ts,hu1,hS,hO,hrl,hts,i0,i1⟩
 dsimp only
 have hU:=hu0.trans hu1
 refine ⟨fun hc=>?_,fun hc=>?_⟩
 ·simp only [bls] at hc
  have hil:i < rs.length:=by omega
  obtain ⟨f1,f2,f3,e1,e2,e3,e4,e5,q1,q2,r1,r2,r3⟩:=((hy.mono hU).src hS.sub).ofRoutD i0 hil
  have hPr:=hP _ (nth_mem i0 hil)
  have hix:=hy.ix i0 hil
  refine ⟨hix,f1,f2,_,f3,_,⟨e1,e2,e3,e4,e5⟩,hix,f3,_,⟨e4,e5⟩,?_⟩
  have UA:Sub u1 u1:=.refl u1
  refine (c_cancelBlock (by omega) (nth rs i).body u1 f3 5001 hPr.1 r3 q2).use hS ?_
  rintro _ w3 u3 hu3 hs3 hS ⟨p3,l3,rfl,hp3,hb3⟩
  refine ⟨p3,_,rfl,hs3,?_⟩
  refine (c_withBody (xs:=f3) (m:=(nth rs i).body.result) ((r1.mono UA).mono hu3) ((r2.mono UA).mono hu3)).use hS ?_
  rintro _ w4 u4 hu4 hs4 hS ⟨py,ly,rfl,hpy,hly⟩
  refine ⟨py,ly,_,p3,_,rfl,hs4,?_⟩
  have hV:=UA.trans (hu3.trans hu4)
  refine st_pushS (α:=RoutD) hS (hO.mono hV) (vofR (b:=⟨l3,(nth rs i).body.result⟩) q1 q2 hpy hly (hp3.mono hu4)) (by omega) (by decide) (by decide) fun y' w5 J5 hS hO=>?_
  refine go_wr (by omega) (by omega) ?_
  refine ⟨rfl,rfl,rfl,rfl,rfl,⟨u4,J5,_,hu1.trans hV,hS,hO,by simp;omega,?_,by omega,by omega⟩,by omega⟩
  intro r hr
  rcases List.mem_append.1 hr with hr|hr
  ·exact hts r hr
  ·rw [List.mem_singleton.1 hr]
   exact ⟨hb3,hPr.2⟩
 ·simp only [bls] at hc
  exact ⟨hU.trans hS.sub,x',s,ts,rfl,(hx'.mono hu1).mono hS.sub,hO.read1 (by simpa using hS),by omega,hts⟩
end
def pairB (s:StepD):Bool:=decide (s.op=14) || decide (s.op=15)
def rlF (l:List StepD):Nat:=(l.takeWhile pairB).length
def SpB (ds:List DeclD) (N:Nat) (b:BlockD):Prop:=∀ (u:World) (x y xs:Sl) (d:Nat) (m:Int),ShB ds N d b→Read u x ds→typesOk ds→Read u xs b.steps→InI b.result→0≤m→m+(d:Int) * 2000000000≤20000000000000→
 Fz Tryz.prog 70 #[.agg #[x.val,y.val],.agg #[xs.val,iV b.result],iV m] u fun r u'=>∃ (y:Sl) (l:List StepD),r=.agg #[y.val,iV b.result]∧Read u' y l∧l.length≤N∧ShB ds (2 * N+4) d ⟨l,b.result⟩
section
variable {u u' w:World} {x y s f xa xk xs xf:Sl} {ds:List DeclD} {rs:List RoutD} {J R:Items} {n m op num into result i many:Int} {d N N2 e:Nat} {l k args fields:List Int} {kids:List BlockD} {steps sts:List StepD} {b:BlockD}
theorem rl_cons (s:StepD) (r:List StepD):rlF (s ::r)=if pairB s=true then 1+rlF r else 0:=by
 unfold rlF
 rw [List.takeWhile_cons]
 split
 ·rw [List.length_cons];omega
 ·rfl
theorem rl_le (l:List StepD):rlF l≤l.length:=by
 unfold rlF
 exact (List.takeWhile_sublist _).length_le
theorem c_runLength (hx:Read u x steps):Fn Tryz.prog 127 #[.agg #[x.val,iV n]] u (iV (rlF steps)):=by
 refine of127 _ _ _ _ ?_
 unfold vc127
 have hxn:=hx.n
 have hxl:=hx.le
 refine ⟨fun i w=>u=w∧0≤i∧i≤steps.length∧(rlF steps:Int)=i+rlF (steps.drop i.toNat),fun i _=>(steps.length - i).toNat,⟨rfl,by omega,by omega,by simp⟩,?_⟩
 rintro i _ ⟨rfl,i0,i1,hq⟩
 dsimp only
 by_cases hil:i < steps.length
 ·obtain ⟨f,g,e1,e2,e3,e4,e5,q1,q2,q3,hf,hg⟩:=(hx.src (.refl u)).ofStepD i0 hil
  have hd:=dropC i0 hil
  rw [hd,rl_cons] at hq
  refine ⟨fun _=>hx.ix i0 hil,_,_,_,f,g,fun _=>⟨e1,e2,e3,e4,e5⟩,_,fun _=>c_isPair,fun hc=>?_,fun hc=>?_⟩
  ·simp only [Bool.and_eq_true] at hc
   rw [if_pos (show pairB (nth steps i)=true from hc.2)] at hq
   refine go_wr (by omega) (by omega) ?_
   exact ⟨rfl,rfl,⟨rfl,by omega,by omega,by omega⟩,by omega⟩
  ·have hp:¬ pairB (nth steps i)=true:=fun h=>by
    have h1:(decide ((nth steps i).op=14) || decide ((nth steps i).op=15))=true:=h
    rw [h1,hxn,decide_eq_true (by omega)] at hc
    cases hc
   rw [if_neg hp] at hq
   refine ⟨?_,.refl u⟩
   congr 1
   omega
 ·have e:¬ i < (x.n:Int):=by omega
  rw [List.drop_eq_nil_of_le (by omega)] at hq
  have hz:rlF ([]:List StepD)=0:=rfl
  rw [hz] at hq
  refine ⟨fun h=>absurd (of_decide_eq_true h) e,0,0,0,⟨none,0,0⟩,⟨none,0,0⟩,fun h=>absurd (of_decide_eq_true h) e,false,fun h=>absurd (of_decide_eq_true h) e,fun h=>(by simp at h),fun _=>⟨?_,.refl u⟩⟩
  congr 1
  omega
theorem c_argsOfOp (hx:Read u x steps) (h0:0≤many) (h1:many≤steps.length) (hm:many≤1000000000) (hs:∀ s∈steps,s.op=op→1≤s.args.length):Mk Tryz.prog 128 #[.agg #[x.val,iV n],iV many,iV op] u fun r J=>∃ (t:Sl) (k:List Int),r=t.val∧Own u t k J∧(k.length:Int)≤many:=by
 refine of128 _ _ _ _ _ _ ?_
 unfold vc128
 refine st_own (α:=Int) (l:=[]) (.refl u) VsOf.nil rfl (by decide) fun y0 w0 J0 hs0 hS hO=>?_
 refine ⟨fun t i w=>∃ (J:Items) (k:List Int),St u w (J++[])∧Own u t k J∧(k.length:Int)≤i∧0≤i∧i≤many,fun _ i _=>(many - i).toNat,⟨J0,[],hS,hO,by simp,by omega,by omega⟩,?_⟩
 clear hS hO hs0
 rintro t i w ⟨J,k,hS,hO,hk,i0,i1⟩
 dsimp only
 refine ⟨fun hc=>?_,fun hc=>⟨J,by simpa using hS,t,k,rfl,hO,by omega⟩⟩
 simp only [bls] at hc
 have hil:i < steps.length:=by omega
 obtain ⟨f,g,e1,e2,e3,e4,e5,q1,q2,q3,hf,hg⟩:=(hx.src hS.sub).ofStepD i0 hil
 refine ⟨hx.ix i0 hil,_,e1,fun hc2=>?_,fun hc2=>?_⟩
 ·simp only [bls] at hc2
  have h1:=hs _ (nth_mem i0 hil) hc2
  obtain ⟨c1,c2⟩:=(hf.src hS.sub).int (i:=0) (by omega) (by omega)
  refine ⟨hx.ix i0 hil,f,e4,hf.ix (by omega) (by omega),_,c1,?_⟩
  refine st_push (α:=Int) hS hO (VOf.int c2) (by omega) (by decide) (by decide) fun z5 w5 J5 hS hO=>?_
  refine go_wr (by omega) (by omega) ?_
  exact ⟨rfl,rfl,⟨J5,_,hS,hO,by simp;omega,by omega,by omega⟩,by omega⟩
 ·refine go_wr (by omega) (by omega) ?_
  exact ⟨rfl,rfl,⟨J,k,hS,hO,by omega,by omega,by omega⟩,by omega⟩
theorem c_withoutFirst (hx:Read u x l):Mk Tryz.prog 129 #[x.val,iV n] u fun r J=>∃ (t:Sl) (k:List Int),r=t.val∧Own u t k J∧k.length≤l.length:=by
 refine of129 _ _ _ _ ?_
 unfold vc129
 have hxn:=hx.n
 have hxl:=hx.le
 refine st_own (α:=Int) (l:=[]) (.refl u) VsOf.nil rfl (by decide) fun y0 w0 J0 hs0 hS hO=>?_
 refine ⟨fun t q i w=>∃ (J:Items) (k:List Int),St u w (J++[])∧Own u t k J∧(k.length:Int)≤i∧0≤i∧i≤l.length,fun _ _ i _=>(l.length - i).toNat,⟨J0,[],hS,hO,by simp,by omega,by omega⟩,?_⟩
 clear hS hO hs0
 rintro t q i w ⟨J,k,hS,hO,hk,i0,i1⟩
 dsimp only
 refine ⟨fun hc=>?_,fun hc=>⟨J,by simpa using hS,t,k,rfl,hO,by omega⟩⟩
 simp only [bls] at hc
 have hil:i < l.length:=by omega
 obtain ⟨c1,c2⟩:=(hx.src hS.sub).int i0 hil
 refine ⟨hx.ix i0 hil,_,c1,fun hc2=>?_,fun hc2=>⟨hx.ix i0 hil,_,c1,?_⟩⟩
 ·refine go_wr (by omega) (by omega) ?_
  exact ⟨⟨J,k,hS,hO,by omega,by omega,by omega⟩,by omega⟩
 ·refine st_push (α:=Int) hS hO (VOf.int c2) (by omega) (by decide) (by decide) fun z5 w5 J5 hS hO=>?_
  refine go_wr (by omega) (by omega) ?_
  exact ⟨⟨J5,_,hS,hO,by simp;omega,by omega,by omega⟩,by omega⟩
set_option maxRecDepth 4000 in
theorem c_openArm (hx:Read u xs b.steps) (hl:b.steps.length≤N) (hN:N≤1000000000) (hss:∀ s∈b.steps,ShS ds N2 e s) (hf:Read u xf fields) (hf3:fields.length≤3) (hn:InI n) (m0:0≤m) (m1:m≤30000000000000):
  Fz Tryz.prog 96 #[.agg #[xs.val,iV b.result],iV n,xf.val,iV m] u fun r u'=>∃ (y:Sl) (l:List StepD),r=.agg #[y.val,iV b.result]∧Read u' y l∧l.length≤2 * N+4∧∀ s∈l,ShS ds N2 e s:=by
 refine of96 _ _ _ _ _ _ _ ?_
 unfold vc96
 have hxn:=hx.n
 have hfn:=hf.n
 have hrl:=rl_le b.steps
 refine ⟨_,c_runLength hx,?_⟩
 generalize rlF b.steps=many at hrl
 have hsh:∀ {q:Int},14≤q→q≤17→∀ s∈b.steps,s.op=q→1≤s.args.length:=fun h1 h2 s hs ho=>(hss s hs).1.2.2.1 (by omega) (by omega)
 refine Mk.use (c_argsOfOp hx (by omega) (by omega) (by omega) (hsh (by omega) (by omega))) (.refl u) ?_
 rintro _ w1 J1 ⟨x6,dups0,rfl,hO1,hl1⟩ hS hs1
 refine ⟨x6,rfl,?_⟩
 refine Mk.use (c_argsOfOp hx (by omega) (by omega) (by omega) (hsh (by omega) (by omega))) hS ?_
 rintro _ w2 J2 ⟨x9,drops0,rfl,hO2,hl2⟩ hS hs2
 have hr9:Read w2 x9 drops0:=hO2.read hS
 refine ⟨x9,rfl,_,c_specIsIn hr9,fun _=>⟨hS.sub,xs,b.steps,rfl,hx.mono hS.sub,by omega,hss⟩,fun _=>?_⟩
 refine Mk.usew (c_withoutFirst hr9) hS ?_
 rintro _ w3 J3 ⟨x15,drops1,rfl,hO3,hl3⟩ hS hs3
 refine ⟨x15,rfl,?_⟩
 have hS:St u w3 (J1++(J3++[])):=hS.to
 refine ⟨fun xa xb j w=>∃ (Ja Jb:Items) (dups drops:List Int),St u w (Ja++(Jb++[]))∧Own u xa dups Ja∧Own u xb drops Jb∧(dups.length:Int)≤many∧(drops.length:Int)≤many+j∧0≤j∧j≤fields.length,fun _ _ j _=>(fields.length - j).toNat,⟨J1,J3,dups0,drops1,hS,hO1,hO3.ofInts,hl1,by omega,by omega,by omega⟩,?_⟩
 clear hS hO1 hO2 hO3 hr9
 rintro xa xb j w ⟨Ja,Jb,dups,drops,hS,hOa,hOb,hla,hlb,j0,j1⟩
 dsimp only
 refine ⟨fun hc=>?_,fun hc=>?_⟩
 ·simp only [bls] at hc
  have hjl:j < fields.length:=by omega
  obtain ⟨c1,c2⟩:=(hf.src hS.sub).int j0 hjl
  have hra:Read w xa dups:=hOa.read hS
  refine ⟨hf.ix j0 hjl,_,c1,?_⟩
  refine go_wrg (fun _=>⟨by omega,by omega⟩) ?_
  refine ⟨_,fun _=>c_specIsIn hra,fun _=>?_,fun _=>⟨hf.ix j0 hjl,_,c1,fun _=>?_,fun _=>?_⟩⟩
  ·refine go_wr (by omega) (by omega) ?_
   refine Mk.usew (c_withoutFirst hra) hS ?_
   rintro _ w4 J4 ⟨x4,l4,rfl,hO4,hl4⟩ hS hs4
   refine ⟨x4,rfl,?_⟩
   refine go_wr (by omega) (by omega) ?_
   exact ⟨rfl,rfl,rfl,rfl,⟨J4,Jb,l4,drops,hS.to,hO4.ofInts,hOb,by omega,by omega,by omega,by omega⟩,by omega⟩
  ·refine go_wr (by omega) (by omega) ?_
   refine st_push (α:=Int) (R:=Ja++[]) hS.to hOb (VOf.int ⟨by omega,by omega⟩) (by omega) (by decide) (by decide) fun z5 w5 J5 hS hO=>?_
   refine go_wr (by omega) (by omega) ?_
   exact ⟨rfl,rfl,rfl,rfl,⟨Ja,J5,dups,_,hS.to,hOa,hO,by omega,by simp;omega,by omega,by omega⟩,by omega⟩
  ·refine go_wr (by omega) (by omega) ?_
   exact ⟨rfl,rfl,rfl,rfl,⟨Ja,Jb,dups,drops,hS,hOa,hOb,by omega,by omega,by omega,by omega⟩,by omega⟩
 ·obtain ⟨u4,hu4,hS,hJa⟩:=hS.freeze Ja
  have hra:=hOa.read1 hJa
  obtain ⟨u5,hu5,hS,hJb⟩:=hS.freeze Jb
  have hrb:=(hOb.mono hu4).read1 hJb
  refine (c_countings (in64_in rfl) (hra.mono hu5)).use hS ?_
  rintro _ w6 u6 J6 hu6 hs6 hS ⟨x44,rfl,hO6⟩
  refine ⟨x44,rfl,?_⟩
  refine (c_counting hn).use hS ?_
  rintro _ w7 u7 hu7 hs7 hS ⟨xc,xd,rfl,hxc,hxd⟩
  refine ⟨_,_,_,xc,xd,rfl,?_⟩
  refine st_push (α:=StepD) hS (hO6.mono hu7) (vofS (in64_in rfl) (in64_in rfl) (in64_in rfl) hxc hxd) (by rw [ctg_len];omega) (by decide) (by decide) fun x57 w8 J8 hS hO8=>?_
  refine (c_countings (in64_in rfl) ((hrb.mono hu6).mono hu7)).use hS ?_
  rintro _ w9 u9 J9 hu9 hs9 hS ⟨x60,rfl,hO9⟩
  refine ⟨x60,rfl,?_⟩
  refine Own.append (hO8.mono hu9) hS (Own.src hO9 hS) (by simp only [List.length_append,List.length_singleton,ctg_len];omega) (by decide) fun x63 w10 J10 hO10 hS=>⟨x63,rfl,⟨by omega,by omega⟩,?_⟩
  have hU:=hu4.trans (hu5.trans (hu6.trans (hu7.trans hu9)))
  have hcut:=hx.cut (lo:=(many:Int)) (hi:=b.steps.length) (by omega) (by omega) (by omega)
  have e2:(b.steps.take (b.steps.length:Int).toNat).drop (many:Int).toNat=b.steps.drop many:=by rw [List.take_of_length_le (by omega)];simp
  rw [e2] at hcut
  rw [hxn]
  have hS:St u9 w10 (J10++[]):=hS.to
  refine Own.append hO10 hS ((hcut.mono hU).src hS.sub) (by simp only [List.length_append,List.length_singleton,ctg_len,List.length_drop];omega) (by decide) fun x66 w11 J11 hO11 hS=>⟨x66,rfl,?_⟩
  refine ⟨hU.trans hS.sub,x66,_,rfl,hO11.read1 (by simpa using hS),by simp only [List.length_append,List.length_singleton,ctg_len,List.length_drop];omega,?_⟩
  intro s hs
  rcases List.mem_append.1 hs with hs|hs
  ·rcases List.mem_append.1 hs with hs|hs
   ·rcases List.mem_append.1 hs with hs|hs
    ·exact sh_ctg (by decide) hs
    ·rw [List.mem_singleton.1 hs]
     exact ⟨ShA.ctg (by decide),fun k hk=>by cases hk⟩
   ·exact sh_ctg (by decide) hs
  ·exact hss s (List.mem_of_mem_drop hs)
theorem c_specialBlock (hN:N≤400000000) (b:BlockD):SpB ds N b:=by
 refine blk_ind (P:=SpB ds N) (fun b H=>?_) b
 intro u x yp xs d m hsh hx ht hxs hri m0 m1
 obtain ⟨e,rfl⟩:=hsh.pos
 refine of70 _ _ _ _ _ _ _ ?_
 unfold vc70
 have hxn:=hxs.n
 have hln:=hsh.1
 refine st_own (α:=StepD) (l:=[]) (.refl u) VsOf.nil rfl (by decide) fun ya w0 Ja hs0 hS hOa=>?_
 refine ⟨fun q i xa w=>∃ (u1:World) (Ja:Items) (sts:List StepD),Sub u u1∧St u1 w (Ja++[])∧Own u1 xa sts Ja∧(sts.length:Int)=i∧(∀ s∈sts,ShS ds (2 * N+4) e s)∧0≤i∧i≤b.steps.length∧0≤q∧q≤m+i,fun _ i _ _=>(b.steps.length - i).toNat,⟨u,Ja,[],.refl u,hS,hOa,by simp,by simp,by omega,by omega,by omega,by omega⟩,?_⟩
 clear hS hOa hs0
 rintro q i xa w ⟨u1,Ja,sts,hU,hS,hOa,hlen,hss,i0,i1,p0,p1⟩
 dsimp only
 refine ⟨fun hc=>?_,fun hc=>?_⟩
 ·simp only [bls] at hc
  have hlt:i < b.steps.length:=by omega
  have hsi:=hsh.2 _ (nth_mem i0 hlt)
  obtain ⟨f,g,e1,e2,e3,e4,e5,q1,q2,q3,hf,hg⟩:=((hxs.mono hU).src hS.sub).ofStepD i0 hlt
  have hgn:=hg.n
  have hgl:=hg.le
  refine ⟨hxs.ix i0 hlt,_,_,_,f,g,⟨e1,e2,e3,e4,e5⟩,?_⟩
  refine st_own (α:=BlockD) (l:=[]) hS VsOf.nil rfl (by decide) fun xk0 w1 J1 hs1 hS hOk0=>?_
  refine (Mk.fz (c_consOfB (hx.mono hU) ht.sm q2)).use hS ?_
  rintro _ w2 u2 hu2 hs2 hS ⟨zc,rfl,hzc⟩
  refine ⟨zc,rfl,?_⟩
  refine ⟨fun xk j w=>∃ (u3:World) (J:Items) (ks:List BlockD),Sub u2 u3∧St u3 w (J++(Ja++[]))∧Own u3 xk ks J∧(ks.length:Int)=j∧(∀ k∈ks,ShB ds (2 * N+4) e k)∧0≤j∧j≤(nth b.steps i).kids.length,fun _ j _=>((nth b.steps i).kids.length - j).toNat,⟨u2,J1,[],.refl u2,hS,hOk0.mono hu2,by simp,by simp,by omega,by omega⟩,?_⟩
  clear hS hOk0 hs1 hs2
  rintro xk j w ⟨u3,J3,ks,hu3,hS,hOk,hkl,hks,j0,j1⟩
  dsimp only
  have h13:=hu2.trans hu3
  refine ⟨fun hc2=>?_,fun hc2=>?_⟩
  ·simp only [bls] at hc2
   have hjl:j < (nth b.steps i).kids.length:=by omega
   have hkj:=hsi.2 _ (nth_mem j0 hjl)
   refine ⟨fun h8=>?_,fun h8=>?_⟩
   ·simp only [bls] at h8
    have hmat:=hsi.1.2.2.2 h8
    have hjc:j < (consL ds (nth b.steps i).num).length:=by omega
    have hzc3:=hzc.mono hu3
    obtain ⟨c1,c2⟩:=(hzc3.src hS.sub).int j0 hjc
    refine ⟨hzc3.ix j0 hjc,_,c1,?_⟩
    refine (c_conFieldsZ (hx.mono (hU.trans h13)) ht.sm c2).use hS ?_
    rintro _ w4 u4 hu4 hs4 hS ⟨z4,rfl,hz4⟩
    have hz4n:=hz4.n
    have hc3:=conF_len3 ht (nth (consL ds (nth b.steps i).num) j)
    have h14:=h13.trans hu4
    obtain ⟨k,a1,a2,hr,hk⟩:=((hg.mono h14).src hS.sub).ofBlockD j0 hjl
    obtain ⟨d1,d2⟩:=((hf.mono h14).src hS.sub).int (i:=0) (by omega) (by omega)
    refine ⟨z4,rfl,hg.ix j0 hjl,k,_,⟨a1,a2⟩,?_⟩
    refine go_wr (by omega) (by omega) ?_
    refine ⟨hf.ix (by omega) (by omega),_,d1,?_⟩
    refine (H _ (nth_mem i0 hlt) _ (nth_mem j0 hjl) u4 x yp k e _ hkj (hx.mono (hU.trans h14)) ht hk hr (by omega) (by omega)).use hS ?_
    rintro _ w5 u5 hu5 hs5 hS ⟨y5,l5,rfl,hy5,hl5,hb5⟩
    refine ⟨y5,_,rfl,hs5,?_⟩
    obtain ⟨e',rfl⟩:=hkj.pos
    refine (c_openArm (b:=⟨l5,(nth (nth b.steps i).kids j).result⟩) (N:=N) hy5 hl5 (by omega) hb5.2 (hz4.mono hu5) hc3 d2 (by omega) (by omega)).use hS ?_
    rintro _ w6 u6 hu6 hs6 hS ⟨y6,l6,rfl,hy6,hl6,hb6⟩
    refine ⟨y6,_,rfl,?_⟩
    have h36:=hu4.trans (hu5.trans hu6)
    refine st_push (α:=BlockD) hS (hOk.mono h36) (vofB hr hy6) (by omega) (by decide) (by decide) fun z8 w8 J8 hS hO=>?_
    refine go_wr (by omega) (by omega) ?_
    refine ⟨rfl,rfl,rfl,rfl,rfl,rfl,rfl,rfl,rfl,rfl,rfl,rfl,rfl,⟨u6,J8,_,hu3.trans h36,hS,hO,by simp;omega,?_,by omega,by omega⟩,by omega⟩
    intro k' hk'
    rcases List.mem_append.1 hk' with hk'|hk'
    ·exact hks k' hk'
    ·rw [List.mem_singleton.1 hk'];exact ⟨hl6,hb6⟩
   ·obtain ⟨k,a1,a2,hr,hk⟩:=((hg.mono h13).src hS.sub).ofBlockD j0 hjl
    refine ⟨hg.ix j0 hjl,k,_,⟨a1,a2⟩,?_⟩
    refine (H _ (nth_mem i0 hlt) _ (nth_mem j0 hjl) u3 x yp k e _ hkj (hx.mono (hU.trans h13)) ht hk hr (by omega) (by omega)).use hS ?_
    rintro _ w5 u5 hu5 hs5 hS ⟨y5,l5,rfl,hy5,hl5,hb5⟩
    refine ⟨y5,_,rfl,?_⟩
    refine st_push (α:=BlockD) hS (hOk.mono hu5) (vofB hr hy5) (by omega) (by decide) (by decide) fun z8 w8 J8 hS hO=>?_
    refine go_wr (by omega) (by omega) ?_
    refine ⟨rfl,rfl,rfl,rfl,rfl,rfl,rfl,rfl,rfl,rfl,rfl,rfl,rfl,⟨u5,J8,_,hu3.trans hu5,hS,hO,by simp;omega,?_,by omega,by omega⟩,by omega⟩
    intro k' hk'
    rcases List.mem_append.1 hk' with hk'|hk'
    ·exact hks k' hk'
    ·rw [List.mem_singleton.1 hk'];exact hb5
  ·simp only [bls] at hc2
   obtain ⟨u4,hu4,hS,hJ⟩:=hS.freeze J3
   have hrk:=hOk.read1 hJ
   have h14:=h13.trans hu4
   refine (Mk.fz (c_copyInts (hf.mono h14))).use hS ?_
   rintro _ w5 u5 hu5 hs5 hS ⟨x64,rfl,hx64⟩
   refine ⟨x64,rfl,hs5,?_⟩
   have h15:=h14.trans hu5
   refine st_pushS (α:=StepD) hS (hOa.mono h15) (vofS q1 q2 q3 hx64 (hrk.mono hu5)) (by omega) (by decide) (by decide) fun z9 w9 J9 hS hO=>?_
   have hnew:∀ s∈sts++[(⟨(nth b.steps i).op,(nth b.steps i).num,(nth b.steps i).into,(nth b.steps i).args,ks⟩:StepD)],ShS ds (2 * N+4) e s:=by
    intro s hs
    rcases List.mem_append.1 hs with hs|hs
    ·exact hss s hs
    ·rw [List.mem_singleton.1 hs]
     exact sh_kids (ShS.le hsi (by omega) (Nat.le_refl _)) (by omega) hks
   refine ⟨_,c_defines,fun _=>?_,fun _=>?_⟩
   ·refine go_wr (by omega) (by omega) ?_
    refine go_wr (by omega) (by omega) ?_
    exact ⟨rfl,rfl,rfl,rfl,rfl,rfl,rfl,⟨u5,J9,_,hU.trans h15,hS,hO,by simp;omega,hnew,by omega,by omega,by omega,by omega⟩,by omega⟩
   ·refine go_wr (by omega) (by omega) ?_
    exact ⟨rfl,rfl,rfl,rfl,rfl,rfl,rfl,⟨u5,J9,_,hU.trans h15,hS,hO,by simp;omega,hnew,by omega,by omega,by omega,by omega⟩,by omega⟩
 ·simp only [bls] at hc
  exact ⟨hU.trans hS.sub,xa,sts,rfl,hOa.read1 (by simpa using hS),by omega,⟨by show sts.length≤2 * N+4;omega,hss⟩⟩
theorem c_specialBody (hN:N≤400000000) (hsh:ShB ds N 5001 b) (hx:Read u x ds) (ht:typesOk ds) (hxs:Read u xs b.steps) (hri:InI b.result) (m0:0≤m) (m1:m≤1100000000000):Fz Tryz.prog 70 #[.agg #[x.val,y.val],.agg #[xs.val,iV b.result],iV m] u fun r u'=>∃ (y':Sl) (l:List StepD),r=.agg #[y'.val,iV b.result]∧Read u' y' l∧ShB ds (2 * N+4) 5001 ⟨l,b.result⟩:=by
 refine (c_specialBlock hN b u x y xs 5001 m hsh hx ht hxs hri m0 (by omega)).mono' ?_
 rintro r u' ⟨h1,y',l',h2,h3,h4,h5⟩
 exact ⟨h1,y',l',h2,h3,h5⟩
theorem c_specialized (hx:Read u x ds) (ht:typesOk ds) (hy:Read u y rs) (hP:∀ r∈rs,RSN ds N r) (hN:N≤900000000) (hN2:N≤400000000):Fz Tryz.prog 47 #[.agg #[x.val,y.val]] u fun r u'=>∃ (x' y':Sl) (rs':List RoutD),r=.agg #[x'.val,y'.val]∧Read u' x' ds∧Read u' y' rs'∧rs'.length=rs.length∧∀ r∈rs',RSN ds (2 * N+4) r:=by
 refine of47 _ _ _ _ ?_
 unfold vc47
 have hyn:=hy.n
 have hyl:=hy.le
 refine (c_copyDeclsZ hx).use (.refl u) ?_
 rintro _ w0 u0 hu0 hs0 hS ⟨x',rfl,hx'⟩
 refine ⟨x',rfl,?_⟩
 refine st_own (α:=RoutD) (l:=[]) hS VsOf.nil rfl (by decide) fun y1 w1 J1 hs1 hS hO=>?_
 refine ⟨fun i s w=>∃ (u1:World) (J:Items) (ts:List RoutD),Sub u0 u1∧St u1 w (J++[])∧Own u1 s ts J∧(ts.length:Int)=i∧(∀ r∈ts,RSN ds (2 * N+4) r)∧0≤i∧i≤rs.length,fun i _ _=>(rs.length - i).toNat,⟨u0,J1,[],.refl u0,hS,hO,by simp,by simp,by omega,by omega⟩,?_⟩
 clear hS hO hs1 hs0
 rintro i s w ⟨u1,J,ts,hu1,hS,hO,hrl,hts,i0,i1⟩
 dsimp only
 have hU:=hu0.trans hu1
 refine ⟨fun hc=>?_,fun hc=>?_⟩
 ·simp only [bls] at hc
  have hil:i < rs.length:=by omega
  obtain ⟨f1,f2,f3,e1,e2,e3,e4,e5,q1,q2,r1,r2,r3⟩:=((hy.mono hU).src hS.sub).ofRoutD i0 hil
  have hPr:=hP _ (nth_mem i0 hil)
  have hix:=hy.ix i0 hil
  have hp3:=r1.n
  have hpl:=r1.le
  refine ⟨hix,f1,f2,_,f3,_,⟨e1,e2,e3,e4,e5⟩,?_⟩
  have UA:Sub u1 u1:=.refl u1
  refine (c_specialBody (y:=y) (m:=(f1.n:Int)) (by omega) hPr.1 (hx.mono hU) ht r3 q2 (by omega) (by omega)).use hS ?_
  rintro _ w3 u3 hu3 hs3 hS ⟨p3,l3,rfl,hp3,hb3⟩
  refine ⟨p3,_,rfl,hs3,?_⟩
  refine (c_withBody (xs:=f3) (m:=(nth rs i).body.result) ((r1.mono UA).mono hu3) ((r2.mono UA).mono hu3)).use hS ?_
  rintro _ w4 u4 hu4 hs4 hS ⟨py,ly,rfl,hpy,hly⟩
  refine ⟨py,ly,_,p3,_,rfl,hs4,?_⟩
  have hV:=UA.trans (hu3.trans hu4)
  refine st_pushS (α:=RoutD) hS (hO.mono hV) (vofR (b:=⟨l3,(nth rs i).body.result⟩) q1 q2 hpy hly (hp3.mono hu4)) (by omega) (by decide) (by decide) fun y' w5 J5 hS hO=>?_
  refine go_wr (by omega) (by omega) ?_
  refine ⟨rfl,rfl,rfl,rfl,rfl,⟨u4,J5,_,hu1.trans hV,hS,hO,by simp;omega,?_,by omega,by omega⟩,by omega⟩
  intro r hr
  rcases List.mem_append.1 hr with hr|hr
  ·exact hts r hr
  ·rw [List.mem_singleton.1 hr]
   exact ⟨hb3,hPr.2⟩
 ·simp only [bls] at hc
  exact ⟨hU.trans hS.sub,x',s,ts,rfl,(hx'.mono hu1).mono hS.sub,hO.read1 (by simpa using hS),by omega,hts⟩
end
theorem wrap_in (n:Int):InI (IntKind.wrap .i64 n):=by
 unfold IntKind.wrap
 simp [IntKind.bits,IntKind.signed]
 constructor<;>(try split)<;>omega
theorem first_cases (P:Int→Prop) (hi:Int):∀ (n:Nat) (lo:Int),(hi - lo).toNat=n→(∀ j,lo≤j→j < hi→¬ P j)∨∃ k,lo≤k∧k < hi∧P k∧∀ j,lo≤j→j < k→¬ P j
 | 0,lo,h=>.inl fun j h1 h2=>by omega
 | n+1,lo,h=>by
  by_cases hp:P lo
  ·exact .inr ⟨lo,by omega,by omega,hp,fun j h1 h2=>by omega⟩
  ·rcases first_cases P hi n (lo+1) (by omega) with h2|⟨k,k0,k1,k2,k3⟩
   ·refine .inl fun j h1 h3=>?_
    by_cases e:j=lo
    ·rw [e];exact hp
    ·exact h2 j (by omega) h3
   ·refine .inr ⟨k,by omega,k1,k2,fun j h1 h3=>?_⟩
    by_cases e:j=lo
    ·rw [e];exact hp
    ·exact k3 j (by omega) h3
def RuD (ds:List DeclD) (N d:Nat):Prop:=∀ (b:BlockD) (u:World) (x y xs xo:Sl) (kept:List Int),ShB ds N d b→Read u x ds→typesOk ds→Read u xs b.steps→InI b.result→Read u xo kept→kept.Pairwise (· < ·)→kept.length+d≤10000→
 Fz Tryz.prog 71 #[.agg #[x.val,y.val],.agg #[xs.val,iV b.result],xo.val] u fun r u'=>∃ (y:Sl) (l:List StepD),r=.agg #[y.val,iV b.result]∧Read u' y l∧ShB ds N d ⟨l,b.result⟩
section
variable {u u' w:World} {x y s f xa xk xs xo:Sl} {ds:List DeclD} {rs:List RoutD} {J:Items} {n m op num into result i many q:Int} {d N e:Nat} {l k args kept:List Int} {kids:List BlockD} {steps sts:List StepD} {b:BlockD} {c:StepD}
theorem c_leadLength (hx:Read u x steps):∃ k:Int,(0≤k∧k≤steps.length)∧Fn Tryz.prog 131 #[.agg #[x.val,iV n]] u (iV k):=by
 have hxn:=hx.n
 have hxl:=hx.le
 have main:∀ k:Int,0≤k→k≤steps.length→(∀ j,0≤j→j < k→isCnt (nth steps j).op)→(k < steps.length→¬ isCnt (nth steps k).op)→Fn Tryz.prog 131 #[.agg #[x.val,iV n]] u (iV k):=by
  intro k k0 k1 hb ha
  refine of131 _ _ _ _ ?_
  unfold vc131
  refine ⟨fun i w=>u=w∧0≤i∧i≤k,fun i _=>(k - i).toNat,⟨rfl,by omega,by omega⟩,?_⟩
  rintro i _ ⟨rfl,i0,i1⟩
  dsimp only
  by_cases hil:i < steps.length
  ·obtain ⟨f,g,e1,e2,e3,e4,e5,q1,q2,q3,hf,hg⟩:=(hx.src (.refl u)).ofStepD i0 hil
   refine ⟨fun _=>hx.ix i0 hil,_,fun _=>e1,_,fun _=>c_isCountingS,fun hc=>?_,fun hc=>?_⟩
   ·simp only [Bool.and_eq_true,decide_eq_true_eq] at hc
    have hik:i < k:=by
     by_cases e:i < k
     ·exact e
     ·have e:i=k:=by omega
      subst e
      exact absurd hc.2 (ha hil)
    refine go_wr (by omega) (by omega) ?_
    exact ⟨rfl,rfl,⟨rfl,by omega,by omega⟩,by omega⟩
   ·have hik:¬ i < k:=fun hik=>by
     have h1:=hb i i0 hik
     unfold isCnt at h1
     have h2:(decide (i < (x.n:Int)) && (decide (14≤(nth steps i).op) && decide ((nth steps i).op≤17)))=true:=by simp;omega
     rw [h2] at hc
     cases hc
    exact ⟨by congr 1;omega,.refl u⟩
  ·have e:¬ i < (x.n:Int):=by omega
   exact ⟨fun h=>absurd (of_decide_eq_true h) e,0,fun h=>absurd (of_decide_eq_true h) e,false,fun h=>absurd (of_decide_eq_true h) e,fun h=>(by simp at h),fun _=>⟨by congr 1;omega,.refl u⟩⟩
 rcases first_cases (fun j=>¬ isCnt (nth steps j).op) steps.length _ 0 rfl with h|⟨k,k0,k1,k2,k3⟩
 ·exact ⟨steps.length,⟨by omega,by omega⟩,main _ (by omega) (by omega) (fun j j0 j1=>Classical.byContradiction (h j j0 j1)) (fun h=>by omega)⟩
 ·exact ⟨k,⟨k0,by omega⟩,main k k0 (by omega) (fun j j0 j1=>Classical.byContradiction (k3 j j0 j1)) (fun _=>k2)⟩
theorem c_stepAt (hx:Read u x steps) (h0:0≤many) (h1:many≤steps.length) (hs:∀ s∈steps,s.op=op→1≤s.args.length):∃ k:Int,(k=-1∨(0≤k∧k < many))∧Fn Tryz.prog 132 #[.agg #[x.val,iV n],iV many,iV op,iV m] u (iV k):=by
 have hxn:=hx.n
 have hxl:=hx.le
 have main:∀ k:Int,((k=-1∧∀ j,0≤j→j < many→¬ ((nth steps j).op=op∧nth (nth steps j).args 0=m))∨(0≤k∧k < many∧((nth steps k).op=op∧nth (nth steps k).args 0=m)∧∀ j,0≤j→j < k→¬ ((nth steps j).op=op∧nth (nth steps j).args 0=m)))→Fn Tryz.prog 132 #[.agg #[x.val,iV n],iV many,iV op,iV m] u (iV k):=by
  intro k hk
  refine of132 _ _ _ _ _ _ _ ?_
  unfold vc132
  refine ⟨fun i w=>u=w∧0≤i∧i≤many∧(0≤k→i≤k),fun i _=>(many - i).toNat,⟨rfl,by omega,by omega,by omega⟩,?_⟩
  rintro i _ ⟨rfl,i0,i1,i2⟩
  dsimp only
  refine ⟨fun hc=>?_,fun hc=>?_⟩
  ·simp only [bls] at hc
   have hil:i < steps.length:=by omega
   obtain ⟨f,g,e1,e2,e3,e4,e5,q1,q2,q3,hf,hg⟩:=(hx.src (.refl u)).ofStepD i0 hil
   have ha:(nth steps i).op=op→1≤(nth steps i).args.length:=hs _ (nth_mem i0 hil)
   refine ⟨hx.ix i0 hil,_,e1,fun _=>hx.ix i0 hil,f,fun _=>e4,fun ho=>hf.ix (by omega) (by have:=ha (of_decide_eq_true ho);omega),_,fun ho=>((hf.src (.refl u)).int (by omega) (by have:=ha (of_decide_eq_true ho);omega)).1,fun hc2=>?_,fun hc2=>?_⟩
   ·simp only [Bool.and_eq_true,decide_eq_true_eq] at hc2
    rcases hk with ⟨rfl,hno⟩|⟨k0,k1,k2,k3⟩
    ·exact absurd hc2 (hno i i0 hc)
    ·have:¬ i < k:=fun h=>k3 i i0 h hc2
     exact ⟨by congr 1;omega,.refl u⟩
   ·refine go_wr (by omega) (by omega) ?_
    refine ⟨rfl,rfl,⟨rfl,by omega,by omega,fun hk0=>?_⟩,by omega⟩
    rcases hk with ⟨rfl,hno⟩|⟨k0,k1,k2,k3⟩
    ·omega
    ·by_cases e:i=k
     ·subst e
      rw [decide_eq_true k2.1,decide_eq_true k2.2] at hc2
      cases hc2
     ·have:=i2 hk0
      omega
  ·simp only [bls] at hc
   rcases hk with ⟨rfl,hno⟩|⟨k0,k1,k2,k3⟩
   ·exact ⟨rfl,.refl u⟩
   ·have:=i2 k0
    omega
 rcases first_cases (fun j=>(nth steps j).op=op∧nth (nth steps j).args 0=m) many _ 0 rfl with h|⟨k,k0,k1,k2,k3⟩
 ·exact ⟨-1,.inl rfl,main _ (.inl ⟨rfl,h⟩)⟩
 ·exact ⟨k,.inr ⟨k0,k1⟩,main k (.inr ⟨k0,k1,k2,k3⟩)⟩
theorem c_conAtS (hx:Read u x steps) (h0:0≤q) (h1:q≤2000000000000):∃ k:Int,(k=-1∨(0≤k∧k < steps.length))∧Fn Tryz.prog 163 #[.agg #[x.val,iV n],iV q,iV m] u (iV k):=by
 have hxn:=hx.n
 have hxl:=hx.le
 have main:∀ k:Int,((k=-1∧∀ j,q≤j→j < steps.length→¬ ((nth steps j).op=6∧(nth steps j).into=0∧((nth steps j).args.length:Int)=m))∨(q≤k∧k < steps.length∧((nth steps k).op=6∧(nth steps k).into=0∧((nth steps k).args.length:Int)=m)∧∀ j,q≤j→j < k→¬ ((nth steps j).op=6∧(nth steps j).into=0∧((nth steps j).args.length:Int)=m)))→Fn Tryz.prog 163 #[.agg #[x.val,iV n],iV q,iV m] u (iV k):=by
  intro k hk
  refine of163 _ _ _ _ _ _ ?_
  unfold vc163
  refine ⟨fun i w=>u=w∧q≤i∧(0≤k→i≤k),fun i _=>(steps.length - i).toNat,⟨rfl,by omega,by omega⟩,?_⟩
  rintro i _ ⟨rfl,i0,i2⟩
  dsimp only
  refine ⟨fun hc=>?_,fun hc=>?_⟩
  ·simp only [bls] at hc
   have hil:i < steps.length:=by omega
   have hi0:0≤i:=by omega
   obtain ⟨f,g,e1,e2,e3,e4,e5,q1,q2,q3,hf,hg⟩:=(hx.src (.refl u)).ofStepD hi0 hil
   have hfn:=hf.n
   refine ⟨hx.ix hi0 hil,_,e1,fun _=>hx.ix hi0 hil,_,fun _=>e3,fun _=>hx.ix hi0 hil,f,fun _=>e4,fun hc2=>?_,fun hc2=>?_⟩
   ·simp only [Bool.and_eq_true,decide_eq_true_eq] at hc2
    have hc2:(nth steps i).op=6∧(nth steps i).into=0∧((nth steps i).args.length:Int)=m:=⟨hc2.1.1,hc2.1.2,by omega⟩
    rcases hk with ⟨rfl,hno⟩|⟨k0,k1,k2,k3⟩
    ·exact absurd hc2 (hno i i0 hil)
    ·have:¬ i < k:=fun h=>k3 i i0 h hc2
     exact ⟨by congr 1;omega,.refl u⟩
   ·refine go_wr (by omega) (by omega) ?_
    refine ⟨rfl,rfl,⟨rfl,by omega,fun hk0=>?_⟩,by omega⟩
    rcases hk with ⟨rfl,hno⟩|⟨k0,k1,k2,k3⟩
    ·omega
    ·by_cases e:i=k
     ·subst e
      rw [decide_eq_true k2.1,decide_eq_true k2.2.1,decide_eq_true (by omega)] at hc2
      cases hc2
     ·have:=i2 hk0
      omega
  ·simp only [bls] at hc
   rcases hk with ⟨rfl,hno⟩|⟨k0,k1,k2,k3⟩
   ·exact ⟨rfl,.refl u⟩
   ·have:=i2 (by omega)
    omega
 rcases first_cases (fun j=>(nth steps j).op=6∧(nth steps j).into=0∧((nth steps j).args.length:Int)=m) steps.length _ q rfl with h|⟨k,k0,k1,k2,k3⟩
 ·exact ⟨-1,.inl rfl,main _ (.inl ⟨rfl,h⟩)⟩
 ·exact ⟨k,.inr ⟨by omega,k1⟩,main k (.inr ⟨k0,k1,k2,k3⟩)⟩
theorem sh_set {s:StepD} (h:∀ t∈steps,ShS ds N e t) (hs:ShS ds N e s) {i:Nat}:∀ t∈steps.set i s,ShS ds N e t:=fun t ht=>by
 rcases List.mem_or_eq_of_mem_set ht with ht|rfl
 ·exact h t ht
 ·exact hs
theorem c_reuseArm (hx:Read u xs b.steps) (hsh:ShB ds N d b) (hri:InI b.result) (hn:InI n):Fz Tryz.prog 130 #[.agg #[xs.val,iV b.result],iV n,iV m] u fun r u'=>∃ (y:Sl) (l:List StepD),r=.agg #[y.val,iV b.result]∧Read u' y l∧ShB ds N d ⟨l,b.result⟩:=by
 obtain ⟨e,rfl⟩:=hsh.pos
 refine of130 _ _ _ _ _ _ ?_
 unfold vc130
 have hxl:=hx.le
 have hcnt:∀ s∈b.steps,s.op=16→1≤s.args.length:=fun s hs ho=>(hsh.2 s hs).1.2.2.1 (by omega) (by omega)
 obtain ⟨k1,hk1,hf1⟩:=c_leadLength (n:=b.result) hx
 obtain ⟨k2,hk2,hf2⟩:=c_stepAt (n:=b.result) (m:=n) (op:=16) hx hk1.1 hk1.2 hcnt
 obtain ⟨k3,hk3,hf3⟩:=c_conAtS (n:=b.result) (m:=m) (q:=k1) hx hk1.1 (by omega)
 refine ⟨k1,hf1,k2,hf2,k1,hf1,k3,hf3,fun _=>⟨.refl u,xs,b.steps,rfl,hx,hsh⟩,fun hc=>?_⟩
 simp only [bls] at hc
 refine (c_copyBlock b u xs hx hri).use (.refl u) ?_
 rintro _ w1 u1 J1 hu1 hs1 hS ⟨x15,rfl,hO⟩
 refine ⟨x15,_,rfl,?_⟩
 refine (c_counting hn).use hS ?_
 rintro _ w2 u2 hu2 hs2 hS ⟨xc,xd,rfl,hxc,hxd⟩
 have hO:=hO.mono hu2
 have i2:0≤k2∧k2 < b.steps.length:=by omega
 have i3:0≤k3∧k3 < b.steps.length:=by omega
 refine ⟨_,_,_,xc,xd,rfl,hs2,(hO.read hS).ix i2.1 i2.2,?_⟩
 refine hO.store hS i2.1 i2.2 (⟨17,0,0,[n],[]⟩:StepD) (Nat.le_of_ble_eq_true rfl) (fun r hr=>?_) fun w3 J3 hO hS=>?_
 ·obtain ⟨fa,fk,rfl,_⟩:=step_cells.1 hr
  exact step_cells.2 ⟨xc,xd,rfl,in64_in rfl,in64_in rfl,in64_in rfl,hxc,hxd⟩
 have hlen:(b.steps.set k2.toNat (⟨17,0,0,[n],[]⟩:StepD)).length=b.steps.length:=by simp
 have hss:=sh_set (i:=k2.toNat) hsh.2 (⟨ShA.ctg (by decide),fun k hk=>by cases hk⟩:ShS ds N e ⟨17,0,0,[n],[]⟩)
 generalize b.steps.set k2.toNat (⟨17,0,0,[n],[]⟩:StepD)=l2 at hO hlen hss
 obtain ⟨f,g,e1,e2,e3,e4,e5,q1,q2,q3,hf,hg⟩:=(hO.src hS).ofStepD (i:=k3) i3.1 (by omega)
 have hix:=(hO.read hS).ix (i:=k3) i3.1 (by omega)
 refine ⟨hix,_,_,_,f,g,⟨e1,e2,e3,e4,e5⟩,?_⟩
 refine go_wrap fun r30 hr30=>⟨hix,?_⟩
 have hr30I:InI r30:=by rw [←hr30];exact wrap_in _
 refine hO.store hS i3.1 (by omega) (⟨(nth l2 k3).op,(nth l2 k3).num,r30,(nth l2 k3).args,(nth l2 k3).kids⟩:StepD) (Nat.le_of_ble_eq_true rfl) (fun r hr=>?_) fun w4 J4 hO hS=>?_
 ·obtain ⟨fa,fk,rfl,_⟩:=step_cells.1 hr
  exact step_cells.2 ⟨f,g,rfl,q1,q2,hr30I,hf,hg⟩
 have hk3':=hss _ (nth_mem (l:=l2) i3.1 (by omega))
 refine ⟨hu1.trans (hu2.trans hS.sub),x15,_,rfl,hO.read1 (by simpa using hS),⟨?_,?_⟩⟩
 ·show (l2.set k3.toNat _).length≤N
  rw [List.length_set,hlen]
  exact hsh.1
 ·exact sh_set (s:=(⟨(nth l2 k3).op,(nth l2 k3).num,r30,(nth l2 k3).args,(nth l2 k3).kids⟩:StepD)) hss ⟨hk3'.1,hk3'.2⟩
theorem c_reuseKidD (H:RuD ds N d) (hN:N≤1000000000) (hx:Read u x ds) (ht:typesOk ds) (hA:ShA ds c) (hks:∀ k∈c.kids,ShB ds N d k) (ha:Read u xa c.args) (hk:Read u xk c.kids) (h0:0≤n) (h1:n < c.kids.length) (hi:InI c.num) (ho:Read u xo kept) (hp:kept.Pairwise (· < ·)) (hl:kept.length+d+1≤10000):
  Fz Tryz.prog 98 #[.agg #[x.val,y.val],.agg #[iV c.op,iV c.num,iV c.into,xa.val,xk.val],iV n,xo.val] u fun r u'=>∃ (y:Sl) (l:List StepD),r=.agg #[y.val,iV (nth c.kids n).result]∧Read u' y l∧ShB ds N d ⟨l,(nth c.kids n).result⟩∧InI (nth c.kids n).result:=by
 refine of98 _ _ _ _ _ _ _ _ _ _ _ ?_
 unfold vc98
 have hkn:=hks _ (nth_mem h0 h1)
 obtain ⟨k,a1,a2,hr,hkk⟩:=(hk.src (.refl u)).ofBlockD h0 h1
 have hix:=hk.ix h0 h1
 refine ⟨fun _=>⟨hix,k,_,⟨a1,a2⟩,?_⟩,fun h8=>?_⟩
 ·refine Fz.usew (H (nth c.kids n) u x y k xo kept hkn hx ht hkk hr ho hp (by omega)) ?_
  rintro _ w2 hs2 ⟨y2,l2,rfl,hy2,hb2⟩
  exact ⟨y2,_,rfl,hs2,y2,l2,rfl,hy2,hb2,hr⟩
 ·simp only [bls] at h8
  have hmat:=hA.2.2.2 h8
  obtain ⟨c1,c2⟩:=(ha.src (.refl u)).int (i:=0) (by omega) (by omega)
  refine ⟨ha.ix (by omega) (by omega),_,c1,hix,k,_,⟨a1,a2⟩,_,c_specIsIn ho,fun _=>?_,fun _=>?_⟩
  ·refine Fz.usew (Mk.fz (c_consOfB hx ht.sm hi)) ?_
   rintro _ w1 hs1 ⟨zc,rfl,hzc⟩
   have hic:n < (consL ds c.num).length:=by omega
   obtain ⟨d1,d2⟩:=(hzc.src (.refl w1)).int h0 hic
   refine ⟨zc,rfl,hs1,hzc.ix h0 hic,_,d1,?_⟩
   refine Fz.usew (c_conFieldsZ (hx.mono hs1) ht.sm d2) ?_
   rintro _ w2 hs2 ⟨z2,rfl,hz2⟩
   refine ⟨z2,rfl,hs2,?_⟩
   have hs12:=hs1.trans hs2
   refine Fz.usew (c_reuseArm (b:=nth c.kids n) (hkk.mono hs12) hkn hr c2) ?_
   rintro _ w3 hs3 ⟨y3,l3,rfl,hy3,hb3⟩
   have hs13:=hs12.trans hs3
   obtain ⟨e',he'⟩:=hb3.pos
   subst he'
   have hcnt:∀ s∈l3,s.op=17→1≤s.args.length:=fun s hs h=>(hb3.2 s hs).1.2.2.1 (by omega) (by omega)
   obtain ⟨k1,hk1,hf1⟩:=c_leadLength (n:=(nth c.kids n).result) hy3
   obtain ⟨k2,hk2,hf2⟩:=c_stepAt (n:=(nth c.kids n).result) (m:=nth c.args 0) (op:=17) hy3 hk1.1 hk1.2 hcnt
   refine ⟨y3,_,rfl,k1,hf1,k2,hf2,fun _=>?_,fun _=>?_⟩
   ·refine (c_insert (ho.mono hs13) hp c2 (by omega)).mono' ?_
    rintro _ w4 ⟨J4,hS,x4,l4,rfl,hO4,hp4,_,hl4⟩
    refine ⟨x4,rfl,?_⟩
    have hs14:=hs13.trans hS.sub
    refine Fz.usew (H ⟨l3,(nth c.kids n).result⟩ w4 x y y3 x4 l4 hb3 (hx.mono hs14) ht (hy3.mono hS.sub) hr (hO4.read1 hS) hp4 (by omega)) ?_
    rintro _ w5 hs5 ⟨y5,l5,rfl,hy5,hb5⟩
    exact ⟨y5,_,rfl,hs14.trans hs5,y5,l5,rfl,hy5,hb5,hr⟩
   ·refine Fz.usew (H ⟨l3,(nth c.kids n).result⟩ w3 x y y3 xo kept hb3 (hx.mono hs13) ht hy3 hr (ho.mono hs13) hp (by omega)) ?_
    rintro _ w5 hs5 ⟨y5,l5,rfl,hy5,hb5⟩
    exact ⟨y5,_,rfl,hs13.trans hs5,y5,l5,rfl,hy5,hb5,hr⟩
  ·refine Fz.usew (H (nth c.kids n) u x y k xo kept hkn hx ht hkk hr ho hp (by omega)) ?_
   rintro _ w2 hs2 ⟨y2,l2,rfl,hy2,hb2⟩
   exact ⟨y2,_,rfl,hs2,y2,l2,rfl,hy2,hb2,hr⟩
theorem c_reuseBlock (hN:N≤1000000000):∀ d:Nat,RuD ds N d
 | 0=>fun b u x y xs xo kept hsh=>hsh.elim
 | e+1=>by
  have H:=c_reuseBlock hN e
  intro b u x yp xs xo kept hsh hx ht hxs hri ho hp hl
  refine of71 _ _ _ _ _ _ _ ?_
  unfold vc71
  have hxn:=hxs.n
  have hln:=hsh.1
  refine st_own (α:=StepD) (l:=[]) (.refl u) VsOf.nil rfl (by decide) fun ya w0 Ja hs0 hS hOa=>?_
  refine ⟨fun i xa w=>∃ (u1:World) (Ja:Items) (sts:List StepD),Sub u u1∧St u1 w (Ja++[])∧Own u1 xa sts Ja∧(sts.length:Int)=i∧(∀ s∈sts,ShS ds N e s)∧0≤i∧i≤b.steps.length,fun i _ _=>(b.steps.length - i).toNat,⟨u,Ja,[],.refl u,hS,hOa,by simp,by simp,by omega,by omega⟩,?_⟩
  clear hS hOa hs0
  rintro i xa w ⟨u1,Ja,sts,hU,hS,hOa,hlen,hss,i0,i1⟩
  dsimp only
  refine ⟨fun hc=>?_,fun hc=>?_⟩
  ·simp only [bls] at hc
   have hlt:i < b.steps.length:=by omega
   have hsi:=hsh.2 _ (nth_mem i0 hlt)
   obtain ⟨f,g,e1,e2,e3,e4,e5,q1,q2,q3,hf,hg⟩:=((hxs.mono hU).src hS.sub).ofStepD i0 hlt
   have hgn:=hg.n
   have hgl:=hg.le
   refine ⟨hxs.ix i0 hlt,_,_,_,f,g,⟨e1,e2,e3,e4,e5⟩,?_⟩
   refine st_own (α:=BlockD) (l:=[]) hS VsOf.nil rfl (by decide) fun xk0 w1 J1 hs1 hS hOk0=>?_
   refine ⟨fun xk j w=>∃ (u3:World) (J:Items) (ks:List BlockD),Sub u1 u3∧St u3 w (J++(Ja++[]))∧Own u3 xk ks J∧(ks.length:Int)=j∧(∀ k∈ks,ShB ds N e k)∧0≤j∧j≤(nth b.steps i).kids.length,fun _ j _=>((nth b.steps i).kids.length - j).toNat,⟨u1,J1,[],.refl u1,hS,hOk0,by simp,by simp,by omega,by omega⟩,?_⟩
   clear hS hOk0 hs1
   rintro xk j w ⟨u3,J3,ks,h13,hS,hOk,hkl,hks,j0,j1⟩
   dsimp only
   refine ⟨fun hc2=>?_,fun hc2=>?_⟩
   ·simp only [bls] at hc2
    have hjl:j < (nth b.steps i).kids.length:=by omega
    refine (c_reuseKidD (y:=yp) H hN (hx.mono (hU.trans h13)) ht hsi.1 hsi.2 (hf.mono h13) (hg.mono h13) j0 hjl q2 (ho.mono (hU.trans h13)) hp (by omega)).use hS ?_
    rintro _ w5 u5 hu5 hs5 hS ⟨y5,l5,rfl,hy5,hb5,hr⟩
    refine ⟨y5,_,rfl,?_⟩
    refine st_push (α:=BlockD) hS (hOk.mono hu5) (vofB hr hy5) (by omega) (by decide) (by decide) fun z8 w8 J8 hS hO=>?_
    refine go_wr (by omega) (by omega) ?_
    refine ⟨rfl,rfl,rfl,rfl,rfl,rfl,rfl,rfl,rfl,rfl,rfl,rfl,rfl,⟨u5,J8,_,h13.trans hu5,hS,hO,by simp;omega,?_,by omega,by omega⟩,by omega⟩
    intro k' hk'
    rcases List.mem_append.1 hk' with hk'|hk'
    ·exact hks k' hk'
    ·rw [List.mem_singleton.1 hk'];exact hb5
   ·simp only [bls] at hc2
    obtain ⟨u4,hu4,hS,hJ⟩:=hS.freeze J3
    have hrk:=hOk.read1 hJ
    have h14:=h13.trans hu4
    refine (Mk.fz (c_copyInts (hf.mono h14))).use hS ?_
    rintro _ w5 u5 hu5 hs5 hS ⟨x64,rfl,hx64⟩
    refine ⟨x64,rfl,hs5,?_⟩
    have h15:=h14.trans hu5
    refine st_pushS (α:=StepD) hS (hOa.mono h15) (vofS q1 q2 q3 hx64 (hrk.mono hu5)) (by omega) (by decide) (by decide) fun z9 w9 J9 hS hO=>?_
    refine go_wr (by omega) (by omega) ?_
    refine ⟨rfl,rfl,rfl,rfl,rfl,rfl,rfl,⟨u5,J9,_,hU.trans h15,hS,hO,by simp;omega,?_,by omega,by omega⟩,by omega⟩
    intro s hs
    rcases List.mem_append.1 hs with hs|hs
    ·exact hss s hs
    ·rw [List.mem_singleton.1 hs]
     exact sh_kids hsi (by omega) hks
  ·simp only [bls] at hc
   exact ⟨hU.trans hS.sub,xa,sts,rfl,hOa.read1 (by simpa using hS),⟨by show sts.length≤N;omega,hss⟩⟩
theorem c_reused (hx:Read u x ds) (ht:typesOk ds) (hy:Read u y rs) (hP:∀ r∈rs,RSN ds N r) (hN:N≤900000000):Fz Tryz.prog 48 #[.agg #[x.val,y.val]] u fun r u'=>∃ (x' y':Sl) (rs':List RoutD),r=.agg #[x'.val,y'.val]∧Read u' x' ds∧Read u' y' rs'∧rs'.length=rs.length∧∀ r∈rs',RSN ds (N) r:=by
 refine of48 _ _ _ _ ?_
 unfold vc48
 have hyn:=hy.n
 have hyl:=hy.le
 refine (c_copyDeclsZ hx).use (.refl u) ?_
 rintro _ w0 u0 hu0 hs0 hS ⟨x',rfl,hx'⟩
 refine ⟨x',rfl,?_⟩
 refine st_own (α:=RoutD) (l:=[]) hS VsOf.nil rfl (by decide) fun y1 w1 J1 hs1 hS hO=>?_
 refine ⟨fun i s w=>∃ (u1:World) (J:Items) (ts:List RoutD),Sub u0 u1∧St u1 w (J++[])∧Own u1 s ts J∧(ts.length:Int)=i∧(∀ r∈ts,RSN ds (N) r)∧0≤i∧i≤rs.length,fun i _ _=>(rs.length - i).toNat,⟨u0,J1,[],.refl u0,hS,hO,by simp,by simp,by omega,by omega⟩,?_⟩
 clear hS hO hs1 hs0
 rintro i s w ⟨u1,J,ts,hu1,hS,hO,hrl,hts,i0,i1⟩
 dsimp only
 have hU:=hu0.trans hu1
 refine ⟨fun hc=>?_,fun hc=>?_⟩
 ·simp only [bls] at hc
  have hil:i < rs.length:=by omega
  obtain ⟨f1,f2,f3,e1,e2,e3,e4,e5,q1,q2,r1,r2,r3⟩:=((hy.mono hU).src hS.sub).ofRoutD i0 hil
  have hPr:=hP _ (nth_mem i0 hil)
  have hix:=hy.ix i0 hil
  refine ⟨hix,f1,f2,_,f3,_,⟨e1,e2,e3,e4,e5⟩,hix,f3,_,⟨e4,e5⟩,?_⟩
  refine st_bld (α:=Int) (l:=[]) hS VsOf.nil rfl (by decide) fun x21 w2 u2 UA hs2 hS hx21=>⟨hs2,?_⟩
  refine (c_reuseBlock (by omega) 5001 (nth rs i).body u2 x y f3 x21 [] hPr.1 ((hx.mono hU).mono UA) ht (r3.mono UA) q2 hx21 .nil (by simp)).use hS ?_
  rintro _ w3 u3 hu3 hs3 hS ⟨p3,l3,rfl,hp3,hb3⟩
  refine ⟨p3,_,rfl,hs3,?_⟩
  refine (c_withBody (xs:=f3) (m:=(nth rs i).body.result) ((r1.mono UA).mono hu3) ((r2.mono UA).mono hu3)).use hS ?_
  rintro _ w4 u4 hu4 hs4 hS ⟨py,ly,rfl,hpy,hly⟩
  refine ⟨py,ly,_,p3,_,rfl,hs4,?_⟩
  have hV:=UA.trans (hu3.trans hu4)
  refine st_pushS (α:=RoutD) hS (hO.mono hV) (vofR (b:=⟨l3,(nth rs i).body.result⟩) q1 q2 hpy hly (hp3.mono hu4)) (by omega) (by decide) (by decide) fun y' w5 J5 hS hO=>?_
  refine go_wr (by omega) (by omega) ?_
  refine ⟨rfl,rfl,rfl,rfl,rfl,⟨u4,J5,_,hu1.trans hV,hS,hO,by simp;omega,?_,by omega,by omega⟩,by omega⟩
  intro r hr
  rcases List.mem_append.1 hr with hr|hr
  ·exact hts r hr
  ·rw [List.mem_singleton.1 hr]
   exact ⟨hb3,hPr.2⟩
 ·simp only [bls] at hc
  exact ⟨hU.trans hS.sub,x',s,ts,rfl,(hx'.mono hu1).mono hS.sub,hO.read1 (by simpa using hS),by omega,hts⟩
end
def FI (u:World) (x y:Sl) (N:Nat):Prop:=∃ (ds:List DeclD) (rs:List RoutD),GD ds∧Read u x ds∧Read u y rs∧1≤rs.length∧rs.length≤4∧∀ r∈rs,RSN ds N r
def FQ (u:World) (a:Addr) (R:Items) (m:Int) (N:Nat) (r:Value) (w:World):Prop:=∃ (x y:Sl) (u':World),r=.agg #[x.val,y.val]∧Sub u u'∧GS u' a R m w∧FI u' x y N
def PI (u:World) (x y:Sl):Prop:=∃ (ds:List DeclD) (rs:List RoutD),GD ds∧Read u x ds∧Read u y rs∧1≤rs.length∧rs.length≤4∧RsP ds rs
section
variable {u u' w:World} {x y z s f xs:Sl} {ds:List DeclD} {rs:List RoutD} {a:Addr} {I J R:Items} {n m result fr i q m':Int} {d N N' e:Nat} {l k args vars params lent:List Int} {steps:List StepD} {b:BlockD} {c:StepD}
theorem FI.mono (h:FI u x y N) (hs:Sub u u'):FI u' x y N:=let ⟨ds,rs,h1,h2,h3,h4⟩:=h;⟨ds,rs,h1,h2.mono hs,h3.mono hs,h4⟩
theorem PI.mono (h:PI u x y) (hs:Sub u u'):PI u' x y:=let ⟨ds,rs,h1,h2,h3,h4⟩:=h;⟨ds,rs,h1,h2.mono hs,h3.mono hs,h4⟩
theorem FI.le (h:FI u x y N) (hN:N≤N'):FI u x y N':=let ⟨ds,rs,h1,h2,h3,h4,h5,h6⟩:=h;⟨ds,rs,h1,h2,h3,h4,h5,fun r hr=>⟨ShB.le (h6 r hr).1 hN (Nat.le_refl _),(h6 r hr).2⟩⟩
theorem fq (hu:Sub u u') (h:GS u' a R m w) (hF:FI u' x y N) (hm:m≤m') (hN:N≤N'):FQ u a R m' N' (.agg #[x.val,y.val]) w:=⟨x,y,u',rfl,hu,h.le hm,hF.le hN⟩
theorem gs_fz {P:Program} {f:FuncId} {args:Array Value} {Φ:Value→World→Prop} {K:Value→World→Prop} (hF:Fz P f args u Φ) (h:GS u a R m w) (k:∀ r w' u',Sub u u'→Sub w w'→GS u' a R m w'→Φ r u'→K r w'):Trip P f args w K:=by
 obtain ⟨I,h1,h2⟩:=h
 exact hF.use h2 fun r w' u' hu hs hS hΦ=>k r w' u' hu hs ⟨I,h1.mono hu,hS⟩ hΦ
theorem gs_fo {P:Program} {f:FuncId} {args:Array Value} {Φ:Value→World→Items→Prop} {K:Value→World→Prop} (hF:Fo P f args u Φ) (h:GS u a R m w) (k:∀ r w' u' J,Sub u u'→Sub w w'→GS u' a (J++R) m w'→Φ r u' J→K r w'):Trip P f args w K:=by
 obtain ⟨I,h1,h2⟩:=h
 exact hF.use h2 fun r w' u' J hu hs hS hΦ=>k r w' u' J hu hs ⟨I,h1.mono hu,hS.to⟩ hΦ
theorem c_withRoutine (hy:Read u y rs) (h0:0≤n) (h1:n < rs.length) (hs:Read u xs b.steps) (hr:InI b.result):Fo Tryz.prog 37 #[.agg #[x.val,y.val],iV n,.agg #[xs.val,iV b.result]] u fun r u' J=>∃ y':Sl,r=.agg #[x.val,y'.val]∧Own u' y' (rs.set n.toNat ⟨(nth rs n).params,(nth rs n).lent,(nth rs n).result,b⟩) J:=by
 refine of37 _ _ _ _ _ _ _ ?_
 unfold vc37
 have hyl:=hy.le
 refine st_own (α:=RoutD) (l:=[]) (.refl u) VsOf.nil rfl (by decide) fun y0 w0 J0 hs0 hS hO=>?_
 refine Own.append hO hS (hy.src hS.sub) (by simp;omega) (by decide) fun y1 w1 J1 hO hS=>⟨y1,rfl,?_⟩
 obtain ⟨f1,f2,f3,e1,e2,e3,e4,e5,q1,q2,r1,r2,r3⟩:=(hy.src hS.sub).ofRoutD h0 h1
 refine ⟨hy.ix h0 h1,f1,f2,_,f3,_,⟨e1,e2,e3,e4,e5⟩,?_⟩
 refine (c_withBody (xs:=f3) (m:=(nth rs n).body.result) r1 r2).use hS ?_
 rintro _ w2 u2 hu2 hs2 hS ⟨py,ly,rfl,hpy,hly⟩
 have hO:Own u2 y1 rs J1:=by simpa using hO.mono hu2
 refine ⟨py,ly,_,xs,_,rfl,(hO.read hS).ix h0 h1,?_⟩
 refine hO.store hS h0 h1 (⟨(nth rs n).params,(nth rs n).lent,(nth rs n).result,b⟩:RoutD) (Nat.le_of_ble_eq_true rfl) (fun r hr'=>?_) fun w3 J3 hO hS=>?_
 ·obtain ⟨g1,g2,g3,rfl,_⟩:=hr'
  exact ⟨py,ly,xs,rfl,q1,hr,hpy,hly,hs.mono hu2⟩
 exact ⟨u2,J3,hu2,by simpa using hS,y1,rfl,hO⟩
theorem sh_put (h:ShB ds N d b) (hc:∀ e,ShS ds N e c) {j:Nat} {l:List StepD} (hl:l=b.steps.take j++[c]++b.steps.drop j):ShB ds (N+1) d ⟨l,b.result⟩:=by
 obtain ⟨e,rfl⟩:=h.pos
 subst hl
 refine ⟨?_,fun s hs=>?_⟩
 ·have:=h.1
  show (b.steps.take j++[c]++b.steps.drop j).length≤N+1
  simp only [List.length_append,List.length_take,List.length_drop,List.length_singleton]
  omega
 ·rcases List.mem_append.1 hs with hs|hs
  ·rcases List.mem_append.1 hs with hs|hs
   ·exact (ShS.le (h.2 s (List.mem_of_mem_take hs)) (by omega) (Nat.le_refl _))
   ·rw [List.mem_singleton.1 hs]
    exact (hc e).le (by omega) (Nat.le_refl _)
  ·exact (ShS.le (h.2 s (List.mem_of_mem_drop hs)) (by omega) (Nat.le_refl _))
theorem sh_ctg1 {q:Int} (hq:q≠8) (e:Nat):ShS ds N e ⟨q,0,0,[n],[]⟩:=⟨ShA.ctg hq,fun k hk=>by cases hk⟩
set_option maxRecDepth 4000 in
theorem c_hold (hF:FI u x y N) (hN:N≤900000000) (hm:m+10≤999900000) (h:GS u a R m w):Trip Tryz.prog 45 #[(pt a),.agg #[x.val,y.val]] w (FQ u a R (m+4) (N+2)):=by
 refine of45 _ _ _ _ _ ?_
 unfold vc45
 have hF0:=hF
 obtain ⟨ds,rs,hg,hx,hy,hl1,hl4,hsh⟩:=hF
 have hyn:=hy.n
 refine gs_pick h (by omega) (by omega) (by omega) fun f w1 h f0 f1 _=>?_
 have hf:f < rs.length:=by have:=f1 (by omega);omega
 obtain ⟨f1',f2',g,e1,e2,e3,e4,e5,q1,q2,r1,r2,rb⟩:=(hy.src h.sub).ofRoutD f0 hf
 have hgn:=rb.n
 have hgl:=rb.le
 have hbs:=(hsh _ (nth_mem f0 hf)).1
 have hbl:=hbs.len
 refine ⟨hy.ix f0 hf,g,_,⟨e4,e5⟩,?_⟩
 refine go_wr (by omega) (by omega) ?_
 refine gs_pick h (by omega) (by omega) (by omega) fun at_ w2 h a0 a1 _=>?_
 have ha1:at_≤(nth rs f).body.steps.length:=by have:=a1 (by omega);omega
 obtain ⟨Ir,hR,hS⟩:=h
 refine Trip.fr (c_ledgerAfter (f:=f) (k:=at_) hx hy) hS ?_
 rintro _ u3 w3 ⟨b,p,rfl,hA⟩ hS3 hsub3
 refine ⟨b,p,rfl,?_⟩
 cases haf:afterS ds rs f at_ with
 | none=>
  rw [haf] at hA
  obtain ⟨rfl,hs⟩:=hA
  exact ⟨fun _=>fq hs ⟨Ir,hR.mono hs,hS3⟩ (hF0.mono hs) (by omega) (by omega),fun hh=>(by simp at hh)⟩
 | some σ=>
  rw [haf] at hA
  obtain ⟨rfl,P,C,F,I,B,hL,hkk,hw,hSl,hl⟩:=hA
  have hS:St u w3 (I++(Ir++R)):=by
   have:=hSl.glue hS3
   simpa [List.append_assoc] using this
  clear hS3 hSl hsub3
  refine ⟨fun hh=>(by simp at hh),fun _=>?_⟩
  refine st_own (α:=Int) (l:=[]) hS VsOf.nil rfl (by decide) fun z0 w4 J0 hs4 hS hO=>?_
  refine ⟨fun z i w=>∃ (J:Items) (l:List Int),Own u z l J∧St u w (J++(I++(Ir++R)))∧(l.length:Int)≤i∧0≤i∧i≤σ.vars.length,fun _ i _=>(σ.vars.length - i).toNat,⟨J0,[],hO,hS,by simp,by omega,by omega⟩,?_⟩
  clear hS hO hs4
  rintro z i w4 ⟨J,l,hO,hS,hll,i0,i1⟩
  dsimp only
  have hRl:=hL.rd (hS.to:St u w4 (I++[]))
  obtain ⟨xv,ev,rv⟩:=hRl.k1
  have rvn:=rv.n
  refine ⟨xv,ev,fun hc=>?_,fun hc=>⟨fun hc2=>?_,fun hc2=>?_⟩⟩
  ·simp only [bls] at hc
   have hil:i < σ.vars.length:=by omega
   refine ⟨xv,ev,rv.ix i0 hil,_,((rv.src (.refl w4)).int i0 hil).1,_,fun _=>c_ledAlive hRl hw hkk i0 hil,fun _=>?_,fun _=>?_⟩
   ·refine st_push (α:=Int) hS hO (VOf.int ⟨by omega,by omega⟩) (by omega) (by decide) (by decide) fun z5 w5 J5 hS hO=>?_
    refine go_wr (by omega) (by omega) ?_
    exact ⟨rfl,rfl,rfl,rfl,rfl,rfl,⟨J5,_,hO,hS,by simp;omega,by omega,by omega⟩,by omega⟩
   ·refine go_wr (by omega) (by omega) ?_
    exact ⟨rfl,rfl,rfl,rfl,rfl,rfl,⟨J,l,hO,hS,by omega,by omega,by omega⟩,by omega⟩
  ·exact fq (.refl u) ⟨Ir,hR,hS.to⟩ hF0 (by omega) (by omega)
  ·simp only [bls] at hc2
   have hzn:=hO.n
   have h:GS u a (J++R) (m+1+1) w4:=⟨Ir,hR,hS.to⟩
   obtain ⟨u5,hu5,h,hJ⟩:=h.freeze
   have hz:=hO.read1 hJ
   refine gs_pick h (by omega) (by omega) (by omega) fun j w5 h j0 j1 _=>?_
   have hj:j < l.length:=by have:=j1 (by omega);omega
   obtain ⟨c1,c2⟩:=(hz.src h.sub).int j0 hj
   refine ⟨hz.ix j0 hj,_,c1,?_⟩
   refine go_wr (by omega) (by omega) ?_
   refine go_wr (by omega) (by omega) ?_
   refine gs_pick h (by omega) (by omega) (by omega) fun t w6 h t0 t1 _=>?_
   have ht1:t≤(nth rs f).body.steps.length - at_:=by have:=t1 (by omega);omega
   refine go_wr (by omega) (by omega) ?_
   refine gs_fz (c_counting c2) h ?_
   rintro _ w7 u7 hu7 hs7 h ⟨xc,xd,rfl,hxc,hxd⟩
   refine ⟨_,_,_,xc,xd,rfl,hs7,?_⟩
   have h57:=hu5.trans hu7
   refine gs_fz (c_putStep (c:=(⟨15,0,0,[nth l j],[]⟩:StepD)) (result:=(nth rs f).body.result) (n:=at_+t) (rb.mono h57) (by omega) (by omega) (in64_in rfl) (in64_in rfl) (in64_in rfl) hxc hxd (by omega)) h ?_
   rintro _ w8 u8 hu8 hs8 h ⟨y8,rfl,hy8⟩
   refine ⟨y8,_,rfl,?_⟩
   refine gs_fz (c_counting c2) h ?_
   rintro _ w9 u9 hu9 hs9 h ⟨xe,xg,rfl,hxe,hxg⟩
   refine ⟨_,_,_,xe,xg,rfl,hs9,?_⟩
   have hb1:=sh_put (j:=(at_+t).toNat) hbs (fun e=>sh_ctg1 (q:=15) (n:=nth l j) (by decide) e) rfl
   generalize hl8:(nth rs f).body.steps.take (at_+t).toNat++[(⟨15,0,0,[nth l j],[]⟩:StepD)]++(nth rs f).body.steps.drop (at_+t).toNat=l8 at hy8 hb1
   have hl8l:l8.length=(nth rs f).body.steps.length+1:=by
    rw [←hl8]
    simp only [List.length_append,List.length_take,List.length_drop,List.length_singleton]
    omega
   refine gs_fz (c_putStep (c:=(⟨14,0,0,[nth l j],[]⟩:StepD)) (result:=(nth rs f).body.result) (n:=at_) (hy8.mono hu9) (by omega) (by omega) (in64_in rfl) (in64_in rfl) (in64_in rfl) hxe hxg (by omega)) h ?_
   rintro _ w10 u10 hu10 hs10 h ⟨y10,rfl,hy10⟩
   refine ⟨y10,_,rfl,hs10,?_⟩
   have hb2:=sh_put (j:=at_.toNat) hb1 (fun e=>sh_ctg1 (q:=14) (n:=nth l j) (by decide) e) rfl
   have hU:=h57.trans (hu8.trans (hu9.trans hu10))
   refine gs_fo (c_withRoutine (x:=x) (b:=⟨_,(nth rs f).body.result⟩) (hy.mono hU) f0 hf hy10 q2) h ?_
   rintro _ w11 u11 J11 hu11 hs11 h ⟨y11,rfl,hO11⟩
   obtain ⟨u12,hu12,h,hJ⟩:=h.freeze
   refine ⟨x,y11,rfl,fq (hU.trans (hu11.trans hu12)) h ⟨ds,_,hg,hx.mono (hU.trans (hu11.trans hu12)),hO11.read1 hJ,by simpa using hl1,by simpa using hl4,fun r hr=>?_⟩ (by omega) (Nat.le_refl _)⟩
   rcases List.mem_or_eq_of_mem_set hr with hr|rfl
   ·exact ⟨ShB.le (hsh r hr).1 (by omega) (Nat.le_refl _),(hsh r hr).2⟩
   ·exact ⟨hb2,(hsh _ (nth_mem f0 hf)).2⟩
end
section
variable {u u' w:World} {x y f:Sl} {ds:List DeclD} {rs:List RoutD} {fs:List FunD} {a:Addr} {J R:Items} {m:Int} {N N':Nat} {k:List Int} {Q:Value→World→Prop}
theorem gs_pass {P:Program} {f:FuncId} (hF:FI u x y N) (hN:N≤400000000)
  (hf:∀ (ds:List DeclD) (rs:List RoutD),Read u x ds→typesOk ds→Read u y rs→(∀ r∈rs,RSN ds N r)→Fz P f #[.agg #[x.val,y.val]] u fun r u'=>∃ (x' y':Sl) (rs':List RoutD),r=.agg #[x'.val,y'.val]∧Read u' x' ds∧Read u' y' rs'∧rs'.length=rs.length∧∀ r∈rs',RSN ds N' r)
  (h:GS u a R m w) {K:Sl→Sl→World→Prop} (k:∀ x' y' w' u',Sub u u'→GS u' a R m w'→FI u' x' y' N'→K x' y' w'):
  Trip P f #[.agg #[x.val,y.val]] w fun r w'=>∃ x' y':Sl,r=.agg #[x'.val,y'.val]∧K x' y' w':=by
 obtain ⟨ds,rs,hg,hx,hy,hl1,hl4,hsh⟩:=hF
 refine gs_fz (hf ds rs hx hg.types hy hsh) h ?_
 rintro _ w2 u2 hu2 hs2 h ⟨x2,y2,rs2,rfl,hx2,hy2,hl2,hsh2⟩
 exact ⟨x2,y2,rfl,k x2 y2 w2 u2 hu2 h ⟨ds,rs2,hg,hx2,hy2,by omega,by omega,hsh2⟩⟩
theorem gs_cancelled (hF:FI u x y N) (hN:N≤400000000) (h:GS u a R m w) {K:Sl→Sl→World→Prop} (k:∀ x' y' w' u',Sub u u'→GS u' a R m w'→FI u' x' y' N→K x' y' w'):Trip Tryz.prog 46 #[.agg #[x.val,y.val]] w fun r w'=>∃ x' y':Sl,r=.agg #[x'.val,y'.val]∧K x' y' w':=
 gs_pass hF hN (fun ds rs h1 h2 h3 h4=>c_cancelled h1 h2 h3 h4 (by omega)) h k
theorem gs_specialized (hF:FI u x y N) (hN:N≤400000000) (h:GS u a R m w) {K:Sl→Sl→World→Prop} (k:∀ x' y' w' u',Sub u u'→GS u' a R m w'→FI u' x' y' (2 * N+4)→K x' y' w'):Trip Tryz.prog 47 #[.agg #[x.val,y.val]] w fun r w'=>∃ x' y':Sl,r=.agg #[x'.val,y'.val]∧K x' y' w':=
 gs_pass hF hN (fun ds rs h1 h2 h3 h4=>c_specialized h1 h2 h3 h4 (by omega) hN) h k
theorem gs_reused (hF:FI u x y N) (hN:N≤400000000) (h:GS u a R m w) {K:Sl→Sl→World→Prop} (k:∀ x' y' w' u',Sub u u'→GS u' a R m w'→FI u' x' y' N→K x' y' w'):Trip Tryz.prog 48 #[.agg #[x.val,y.val]] w fun r w'=>∃ x' y':Sl,r=.agg #[x'.val,y'.val]∧K x' y' w':=
 gs_pass hF hN (fun ds rs h1 h2 h3 h4=>c_reused h1 h2 h3 h4 (by omega)) h k
theorem gs_hold (hF:FI u x y N) (hN:N≤900000000) (hm:m+10≤999900000) (h:GS u a R m w) {K:Sl→Sl→World→Prop} (k:∀ x' y' w' u',Sub u u'→GS u' a R (m+4) w'→FI u' x' y' (N+2)→K x' y' w'):Trip Tryz.prog 45 #[(pt a),.agg #[x.val,y.val]] w fun r w'=>∃ x' y':Sl,r=.agg #[x'.val,y'.val]∧K x' y' w':=
 (c_hold hF hN hm h).mono' fun _ _ ⟨x',y',u',h1,h2,h3,h4⟩=>⟨x',y',h1,k _ _ _ _ h2 h3 h4⟩
theorem c_plainForm (hm:m+3000000≤999900000) (h:GS u a R m w):Trip Tryz.prog 33 #[(pt a)] w fun r w'=>∃ (x y:Sl) (u':World),r=.agg #[x.val,y.val]∧Sub u u'∧GS u' a R (m+1000001) w'∧PI u' x y:=by
 refine of33 _ _ _ ?_
 unfold vc33
 refine (c_goodProgram (by omega) h).mono' ?_
 rintro _ w1 ⟨x,y,rfl,u1,ds,fs,J,hu1,h,hx,hO,hgd,hl1,hl4,hok⟩
 obtain ⟨u2,hu2,h,hJ⟩:=h.freeze
 refine ⟨x,y,rfl,?_⟩
 refine gs_fz (c_normalize (hx.mono hu2) hgd.types (hO.read1 hJ) hok) h ?_
 rintro _ w3 u3 hu3 hs3 h ⟨x3,y3,rs3,rfl,hx3,hy3,hl3,hP3⟩
 refine ⟨x3,y3,rfl,?_⟩
 have hU:=hu1.trans (hu2.trans hu3)
 refine gs_pick h (by omega) (by omega) (by omega) fun p w4 h _ _ _=>⟨fun _=>?_,fun _=>?_⟩
 ·refine gs_fz (c_lentMost hx3 hy3 hP3) h ?_
  rintro _ w5 u5 hu5 hs5 h ⟨x5,y5,rs5,rfl,hx5,hy5,hl5,hP5⟩
  exact ⟨x5,y5,rfl,x5,y5,u5,rfl,hU.trans hu5,h.le (by omega),ds,rs5,hgd,hx5,hy5,by omega,by omega,hP5⟩
 ·exact ⟨x3,y3,u3,rfl,hU,h.le (by omega),ds,rs3,hgd,hx3,hy3,by omega,by omega,hP3⟩
theorem c_countedForm (hm:m+3000000≤999900000) (h:GS u a R m w):Trip Tryz.prog 44 #[(pt a)] w (FQ u a R (m+1000002) NC):=by
 refine of44 _ _ _ ?_
 unfold vc44
 refine (c_plainForm hm h).mono' ?_
 rintro _ w1 ⟨x,y,u1,rfl,hu1,h,ds,rs,hgd,hx,hy,hl1,hl4,hP⟩
 refine ⟨x,y,rfl,?_⟩
 refine gs_fz (c_counted hx hgd.types hy hP) h ?_
 rintro _ w2 u2 hu2 hs2 h ⟨x2,y2,rs2,rfl,hx2,hy2,hl2,hP2⟩
 refine ⟨x2,y2,rfl,?_⟩
 refine gs_pick h (by omega) (by omega) (by omega) fun p w4 h _ _ _=>⟨fun _=>?_,fun _=>?_⟩
 ·refine gs_fz (c_late (hx.mono hu2) hgd.types (hy.mono hu2) hP) h ?_
  rintro _ w5 u5 hu5 hs5 h ⟨x5,y5,rs5,rfl,hx5,hy5,hl5,hP5⟩
  exact ⟨x5,y5,rfl,fq (hu1.trans (hu2.trans hu5)) h ⟨ds,rs5,hgd,hx5,hy5,by omega,by omega,hP5⟩ (by omega) (Nat.le_refl _)⟩
 ·exact fq (hu1.trans hu2) h ⟨ds,rs2,hgd,hx2,hy2,by omega,by omega,hP2⟩ (by omega) (Nat.le_refl _)
theorem bf4 (hF:FI u x y N) (hN:N≤900000000) (hm:m+20≤999900000) (h:GS u a R m w) (hQ:∀ x y w' u',Sub u u'→GS u' a R (m+5) w'→FI u' x y (N+2)→Q (.agg #[x.val,y.val]) w'):
  Trip Tryz.prog 27 #[(pt a),iV 6] w fun r30 w31=>
   ∃ n32:Int,r30=iV n32∧
   ((decide (n32=0))=true→
    Trip Tryz.prog 45 #[(pt a),.agg #[x.val,y.val]] w31 fun r33 w34=>
     ∃ x35:Sl,∃ x36:Sl,r33=.agg #[x35.val,x36.val]∧
     Q (.agg #[x35.val,x36.val]) w34)∧
   ((decide (n32=0))=false→
    Q (.agg #[x.val,y.val]) w31):=by
 refine gs_pick h (by omega) (by omega) (by omega) fun p w1 h _ _ _=>⟨fun _=>?_,fun _=>hQ _ _ _ _ (.refl u) (h.le (by omega)) (hF.le (by omega))⟩
 exact gs_hold hF hN (by omega) h fun x' y' w' u' h1 h2 h3=>hQ _ _ _ _ h1 (h2.le (by omega)) h3
theorem bf3 (hF:FI u x y N) (hN:N≤100000000) (hm:m+30≤999900000) (h:GS u a R m w) (hQ:∀ x y w' u',Sub u u'→GS u' a R (m+6) w'→FI u' x y (2 * N+6)→Q (.agg #[x.val,y.val]) w'):
  Trip Tryz.prog 27 #[(pt a),iV 3] w fun r19 w20=>
   ∃ n21:Int,r19=iV n21∧
   ((decide (n21 > 0))=true→
    Trip Tryz.prog 47 #[.agg #[x.val,y.val]] w20 fun r22 w23=>
     ∃ x24:Sl,∃ x25:Sl,r22=.agg #[x24.val,x25.val]∧
     ((decide (n21 > 1))=true→
      Trip Tryz.prog 48 #[.agg #[x24.val,x25.val]] w23 fun r26 w27=>
       ∃ x28:Sl,∃ x29:Sl,r26=.agg #[x28.val,x29.val]∧
       Trip Tryz.prog 27 #[(pt a),iV 6] w27 fun r30 w31=>
        ∃ n32:Int,r30=iV n32∧
        ((decide (n32=0))=true→
         Trip Tryz.prog 45 #[(pt a),.agg #[x28.val,x29.val]] w31 fun r33 w34=>
          ∃ x35:Sl,∃ x36:Sl,r33=.agg #[x35.val,x36.val]∧
          Q (.agg #[x35.val,x36.val]) w34)∧
        ((decide (n32=0))=false→
         Q (.agg #[x28.val,x29.val]) w31))∧
     ((decide (n21 > 1))=false→
      Trip Tryz.prog 27 #[(pt a),iV 6] w23 fun r30 w31=>
       ∃ n32:Int,r30=iV n32∧
       ((decide (n32=0))=true→
        Trip Tryz.prog 45 #[(pt a),.agg #[x24.val,x25.val]] w31 fun r33 w34=>
         ∃ x35:Sl,∃ x36:Sl,r33=.agg #[x35.val,x36.val]∧
         Q (.agg #[x35.val,x36.val]) w34)∧
       ((decide (n32=0))=false→
        Q (.agg #[x24.val,x25.val]) w31)))∧
   ((decide (n21 > 0))=false→
    ((decide (n21 > 1))=true→
     Trip Tryz.prog 48 #[.agg #[x.val,y.val]] w20 fun r44 w45=>
      ∃ x46:Sl,∃ x47:Sl,r44=.agg #[x46.val,x47.val]∧
      Trip Tryz.prog 27 #[(pt a),iV 6] w45 fun r30 w31=>
       ∃ n32:Int,r30=iV n32∧
       ((decide (n32=0))=true→
        Trip Tryz.prog 45 #[(pt a),.agg #[x46.val,x47.val]] w31 fun r33 w34=>
         ∃ x35:Sl,∃ x36:Sl,r33=.agg #[x35.val,x36.val]∧
         Q (.agg #[x35.val,x36.val]) w34)∧
       ((decide (n32=0))=false→
        Q (.agg #[x46.val,x47.val]) w31))∧
    ((decide (n21 > 1))=false→
     Trip Tryz.prog 27 #[(pt a),iV 6] w20 fun r30 w31=>
      ∃ n32:Int,r30=iV n32∧
      ((decide (n32=0))=true→
       Trip Tryz.prog 45 #[(pt a),.agg #[x.val,y.val]] w31 fun r33 w34=>
        ∃ x35:Sl,∃ x36:Sl,r33=.agg #[x35.val,x36.val]∧
        Q (.agg #[x35.val,x36.val]) w34)∧
      ((decide (n32=0))=false→
       Q (.agg #[x.val,y.val]) w31))):=by
 refine gs_pick h (by omega) (by omega) (by omega) fun p w1 h _ _ _=>⟨fun _=>?_,fun _=>⟨fun _=>?_,fun _=>?_⟩⟩
 ·refine gs_specialized hF (by omega) h fun x1 y1 w2 u2 hu2 h hF=>⟨fun _=>?_,fun _=>?_⟩
  ·refine gs_reused hF (by omega) h fun x3 y3 w3 u3 hu3 h hF=>?_
   exact bf4 hF (by omega) (by omega) h fun x' y' w' u' h1 h2 h3=>hQ _ _ _ _ (hu2.trans (hu3.trans h1)) (h2.le (by omega)) (h3.le (by omega))
  ·exact bf4 hF (by omega) (by omega) h fun x' y' w' u' h1 h2 h3=>hQ _ _ _ _ (hu2.trans h1) (h2.le (by omega)) (h3.le (by omega))
 ·refine gs_reused hF (by omega) h fun x3 y3 w3 u3 hu3 h hF=>?_
  exact bf4 hF (by omega) (by omega) h fun x' y' w' u' h1 h2 h3=>hQ _ _ _ _ (hu3.trans h1) (h2.le (by omega)) (h3.le (by omega))
 ·exact bf4 hF (by omega) (by omega) h fun x' y' w' u' h1 h2 h3=>hQ _ _ _ _ h1 (h2.le (by omega)) (h3.le (by omega))
theorem bf2 (hF:FI u x y N) (hN:N≤100000000) (hm:m+40≤999900000) (h:GS u a R m w) (hQ:∀ x y w' u',Sub u u'→GS u' a R (m+7) w'→FI u' x y (2 * N+6)→Q (.agg #[x.val,y.val]) w'):
  Trip Tryz.prog 27 #[(pt a),iV 4] w fun r12 w13=>
   ∃ n14:Int,r12=iV n14∧
   ((decide (n14=0))=true→
    Trip Tryz.prog 46 #[.agg #[x.val,y.val]] w13 fun r15 w16=>
     ∃ x17:Sl,∃ x18:Sl,r15=.agg #[x17.val,x18.val]∧
     Trip Tryz.prog 27 #[(pt a),iV 3] w16 fun r19 w20=>
      ∃ n21:Int,r19=iV n21∧
      ((decide (n21 > 0))=true→
       Trip Tryz.prog 47 #[.agg #[x17.val,x18.val]] w20 fun r22 w23=>
        ∃ x24:Sl,∃ x25:Sl,r22=.agg #[x24.val,x25.val]∧
        ((decide (n21 > 1))=true→
         Trip Tryz.prog 48 #[.agg #[x24.val,x25.val]] w23 fun r26 w27=>
          ∃ x28:Sl,∃ x29:Sl,r26=.agg #[x28.val,x29.val]∧
          Trip Tryz.prog 27 #[(pt a),iV 6] w27 fun r30 w31=>
           ∃ n32:Int,r30=iV n32∧
           ((decide (n32=0))=true→
            Trip Tryz.prog 45 #[(pt a),.agg #[x28.val,x29.val]] w31 fun r33 w34=>
             ∃ x35:Sl,∃ x36:Sl,r33=.agg #[x35.val,x36.val]∧
             Q (.agg #[x35.val,x36.val]) w34)∧
           ((decide (n32=0))=false→
            Q (.agg #[x28.val,x29.val]) w31))∧
        ((decide (n21 > 1))=false→
         Trip Tryz.prog 27 #[(pt a),iV 6] w23 fun r30 w31=>
          ∃ n32:Int,r30=iV n32∧
          ((decide (n32=0))=true→
           Trip Tryz.prog 45 #[(pt a),.agg #[x24.val,x25.val]] w31 fun r33 w34=>
            ∃ x35:Sl,∃ x36:Sl,r33=.agg #[x35.val,x36.val]∧
            Q (.agg #[x35.val,x36.val]) w34)∧
          ((decide (n32=0))=false→
           Q (.agg #[x24.val,x25.val]) w31)))∧
      ((decide (n21 > 0))=false→
       ((decide (n21 > 1))=true→
        Trip Tryz.prog 48 #[.agg #[x17.val,x18.val]] w20 fun r44 w45=>
         ∃ x46:Sl,∃ x47:Sl,r44=.agg #[x46.val,x47.val]∧
         Trip Tryz.prog 27 #[(pt a),iV 6] w45 fun r30 w31=>
          ∃ n32:Int,r30=iV n32∧
          ((decide (n32=0))=true→
           Trip Tryz.prog 45 #[(pt a),.agg #[x46.val,x47.val]] w31 fun r33 w34=>
            ∃ x35:Sl,∃ x36:Sl,r33=.agg #[x35.val,x36.val]∧
            Q (.agg #[x35.val,x36.val]) w34)∧
          ((decide (n32=0))=false→
           Q (.agg #[x46.val,x47.val]) w31))∧
       ((decide (n21 > 1))=false→
        Trip Tryz.prog 27 #[(pt a),iV 6] w20 fun r30 w31=>
         ∃ n32:Int,r30=iV n32∧
         ((decide (n32=0))=true→
          Trip Tryz.prog 45 #[(pt a),.agg #[x17.val,x18.val]] w31 fun r33 w34=>
           ∃ x35:Sl,∃ x36:Sl,r33=.agg #[x35.val,x36.val]∧
           Q (.agg #[x35.val,x36.val]) w34)∧
         ((decide (n32=0))=false→
          Q (.agg #[x17.val,x18.val]) w31))))∧
   ((decide (n14=0))=false→
    Trip Tryz.prog 27 #[(pt a),iV 3] w13 fun r19 w20=>
     ∃ n21:Int,r19=iV n21∧
     ((decide (n21 > 0))=true→
      Trip Tryz.prog 47 #[.agg #[x.val,y.val]] w20 fun r22 w23=>
       ∃ x24:Sl,∃ x25:Sl,r22=.agg #[x24.val,x25.val]∧
       ((decide (n21 > 1))=true→
        Trip Tryz.prog 48 #[.agg #[x24.val,x25.val]] w23 fun r26 w27=>
         ∃ x28:Sl,∃ x29:Sl,r26=.agg #[x28.val,x29.val]∧
         Trip Tryz.prog 27 #[(pt a),iV 6] w27 fun r30 w31=>
          ∃ n32:Int,r30=iV n32∧
          ((decide (n32=0))=true→
           Trip Tryz.prog 45 #[(pt a),.agg #[x28.val,x29.val]] w31 fun r33 w34=>
            ∃ x35:Sl,∃ x36:Sl,r33=.agg #[x35.val,x36.val]∧
            Q (.agg #[x35.val,x36.val]) w34)∧
          ((decide (n32=0))=false→
           Q (.agg #[x28.val,x29.val]) w31))∧
       ((decide (n21 > 1))=false→
        Trip Tryz.prog 27 #[(pt a),iV 6] w23 fun r30 w31=>
         ∃ n32:Int,r30=iV n32∧
         ((decide (n32=0))=true→
          Trip Tryz.prog 45 #[(pt a),.agg #[x24.val,x25.val]] w31 fun r33 w34=>
           ∃ x35:Sl,∃ x36:Sl,r33=.agg #[x35.val,x36.val]∧
           Q (.agg #[x35.val,x36.val]) w34)∧
         ((decide (n32=0))=false→
          Q (.agg #[x24.val,x25.val]) w31)))∧
     ((decide (n21 > 0))=false→
      ((decide (n21 > 1))=true→
       Trip Tryz.prog 48 #[.agg #[x.val,y.val]] w20 fun r44 w45=>
        ∃ x46:Sl,∃ x47:Sl,r44=.agg #[x46.val,x47.val]∧
        Trip Tryz.prog 27 #[(pt a),iV 6] w45 fun r30 w31=>
         ∃ n32:Int,r30=iV n32∧
         ((decide (n32=0))=true→
          Trip Tryz.prog 45 #[(pt a),.agg #[x46.val,x47.val]] w31 fun r33 w34=>
           ∃ x35:Sl,∃ x36:Sl,r33=.agg #[x35.val,x36.val]∧
           Q (.agg #[x35.val,x36.val]) w34)∧
         ((decide (n32=0))=false→
          Q (.agg #[x46.val,x47.val]) w31))∧
      ((decide (n21 > 1))=false→
       Trip Tryz.prog 27 #[(pt a),iV 6] w20 fun r30 w31=>
        ∃ n32:Int,r30=iV n32∧
        ((decide (n32=0))=true→
         Trip Tryz.prog 45 #[(pt a),.agg #[x.val,y.val]] w31 fun r33 w34=>
          ∃ x35:Sl,∃ x36:Sl,r33=.agg #[x35.val,x36.val]∧
          Q (.agg #[x35.val,x36.val]) w34)∧
        ((decide (n32=0))=false→
         Q (.agg #[x.val,y.val]) w31)))):=by
 refine gs_pick h (by omega) (by omega) (by omega) fun p w1 h _ _ _=>⟨fun _=>?_,fun _=>?_⟩
 ·refine gs_cancelled hF (by omega) h fun x1 y1 w2 u2 hu2 h hF=>?_
  exact bf3 hF (by omega) (by omega) h fun x' y' w' u' h1 h2 h3=>hQ _ _ _ _ (hu2.trans h1) (h2.le (by omega)) h3
 ·exact bf3 hF (by omega) (by omega) h fun x' y' w' u' h1 h2 h3=>hQ _ _ _ _ h1 (h2.le (by omega)) h3
theorem c_balancedForm (hm:m+4000000≤999900000) (h:GS u a R m w):Trip Tryz.prog 34 #[(pt a)] w (FQ u a R (m+1000020) 130000000):=by
 refine of34 _ _ _ ?_
 unfold vc34
 refine (c_countedForm (by omega) h).mono' ?_
 rintro _ w1 ⟨x,y,u1,rfl,hu1,h,hF⟩
 refine ⟨x,y,rfl,?_⟩
 have hF:FI u1 x y 60000000:=hF
 refine gs_pick h (by omega) (by omega) (by omega) fun p w2 h _ _ _=>⟨fun _=>?_,fun _=>?_⟩
 ·refine gs_hold hF (by omega) (by omega) h fun x2 y2 w3 u3 hu3 h hF=>?_
  exact bf2 hF (by omega) (by omega) h fun x' y' w' u' h1 h2 h3=>fq (hu1.trans (hu3.trans h1)) h2 h3 (by omega) (by omega)
 ·exact bf2 hF (by omega) (by omega) h fun x' y' w' u' h1 h2 h3=>fq (hu1.trans h1) h2 h3 (by omega) (by omega)
end
def CdB (b:BlockD):Prop:=∀ (v:World) (f:Sl),Read v f b.steps→InI b.result→Mk Tryz.prog 53 #[.agg #[f.val,iV b.result]] v fun r J=>∃ y:Sl,r=.agg #[y.val,iV b.result]∧DatO.own [y.val,intV b.result] b J
section
variable {u u' u0 v w:World} {x y s f xa xk fa fk:Sl} {a:Addr} {I J L R I0:Items} {F:Items→Items} {n m op num into i:Int} {e:Nat} {l args:List Int} {kids:List BlockD} {steps:List StepD} {b:BlockD} {c:StepD} {k:Nat}
theorem OwnD.ofEmptyD {α:Type} [DatO α] {u:World} {y0:Sl} {J0:Items} (hO0:Own u y0 ([]:List α) J0):OwnD y0 ([]:List α) J0:=by
 obtain ⟨rows,k1,k2,k3⟩:=hO0
 have hr:rows=[]:=List.eq_nil_of_length_eq_zero (by have:=k2.1;simpa using this)
 subst hr
 exact ⟨[],J0,[],[],k1,rfl,rfl,fun i r a K h=>by simp at h,by simp,Nat.zero_le _⟩
theorem c_copyStepDH (H:∀ k∈c.kids,CdB k) (i1:InI c.op) (i2:InI c.num) (i3:InI c.into) (ha:Read u xa c.args) (hk:Read u xk c.kids):Mk Tryz.prog 72 #[.agg #[iV c.op,iV c.num,iV c.into,xa.val,xk.val]] u fun r J=>∃ ya yk:Sl,r=.agg #[iV c.op,iV c.num,iV c.into,ya.val,yk.val]∧DatO.own [intV c.op,intV c.num,intV c.into,ya.val,yk.val] c J:=by
 refine of72 _ _ _ _ _ _ _ ?_
 unfold vc72
 have hkn:=hk.n
 have hkl:=hk.le
 refine St.build (α:=BlockD) (l:=[]) (St.refl u) VsOf.nil rfl (by decide) ?_
 intro y0 w0 J0 hO0 hS0 hs0
 refine ⟨_,rfl,?_⟩
 have hO0:=OwnD.ofEmptyD hO0
 refine ⟨fun y i w=>∃ I,OwnD y (c.kids.take i.toNat) I∧St u w (I++[])∧0≤i∧i≤c.kids.length,fun _ i _=>(c.kids.length - i).toNat,⟨J0,by simpa using hO0,hS0,by omega,by omega⟩,?_⟩
 clear hO0 hS0 hs0
 rintro y i w ⟨I,hO,hS,h0,h1⟩
 dsimp only
 refine ⟨fun hi=>?_,fun hi=>?_⟩
 ·simp only [bls] at hi
  have hil:i < c.kids.length:=by omega
  refine go_ix hk h0 hil ?_
  obtain ⟨g,e1,e2,hr,hg⟩:=(hk.src hS.sub).ofBlockD h0 hil
  refine ⟨g,_,⟨e1,e2⟩,?_⟩
  refine Mk.use (H _ (nth_mem h0 hil) u g hg hr) hS ?_
  rintro _ w2 J2 ⟨t,rfl,hT⟩ hS hsub
  refine ⟨t,_,rfl,?_⟩
  refine St.buildR hS ?_ ?_ ?_ ?_
  ·simp [Value.cells]
  ·rfl
  ·decide
  intro x3 w3 I3 hB hS hs _
  refine ⟨_,rfl,?_⟩
  refine OwnD.push' (a:=nth c.kids i) hO hS (hB.rd hS.items) hT (by simp;omega) (by decide) ?_
  intro x4 w4 I4 hO4 hS
  refine ⟨_,rfl,?_⟩
  refine go_wr (by omega) (by omega) ?_
  refine ⟨rfl,rfl,rfl,rfl,rfl,rfl,rfl,rfl,rfl,rfl,⟨I4,?_,hS.to,by omega,by omega⟩,by omega⟩
  rw [take_nth h0 hil];exact hO4
 ·simp only [bls] at hi
  rw [take_all (by omega)] at hO
  refine Mk.use (c_copyInts ha) hS ?_
  rintro _ w2 Ja ⟨ya,rfl,hOa⟩ hS hs2
  exact ⟨ya,rfl,hs2,Ja++I,by simpa using hS,ya,y,rfl,step_own.2 ⟨ya,y,Ja,I,rfl,i1,i2,i3,fun u=>hOa.ofInts,hO,rfl⟩⟩
theorem c_copyBlockD (b:BlockD):CdB b:=by
 refine blk_ind (P:=CdB) (fun b H=>?_) b
 intro v f hx hr
 refine of53 _ _ _ _ ?_
 unfold vc53
 have hxn:=hx.n
 have hxl:=hx.le
 refine St.build (α:=StepD) (l:=[]) (St.refl v) VsOf.nil rfl (by decide) ?_
 intro y0 w0 J0 hO0 hS0 hs0
 refine ⟨_,rfl,?_⟩
 have hO0:=OwnD.ofEmptyD hO0
 refine ⟨fun i y w=>∃ I,OwnD y (b.steps.take i.toNat) I∧St v w (I++[])∧0≤i∧i≤b.steps.length,fun i _ _=>(b.steps.length - i).toNat,⟨J0,by simpa using hO0,hS0,by omega,by omega⟩,?_⟩
 clear hO0 hS0 hs0
 rintro i y w ⟨I,hO,hS,h0,h1⟩
 dsimp only
 refine ⟨fun hi=>?_,fun hi=>?_⟩
 ·simp only [bls] at hi
  have hil:i < b.steps.length:=by omega
  obtain ⟨g,t,e1,e2,e3,e4,e5,q1,q2,q3,hg,ht⟩:=(hx.src hS.sub).ofStepD h0 hil
  refine go_ix hx h0 hil ?_
  refine ⟨_,_,_,g,t,⟨e1,e2,e3,e4,e5⟩,?_⟩
  refine Mk.use (c_copyStepDH (H _ (nth_mem h0 hil)) q1 q2 q3 hg ht) hS ?_
  rintro _ w2 J2 ⟨ya,yk,rfl,hT⟩ hS hsub
  refine ⟨_,_,_,ya,yk,rfl,hsub,?_⟩
  refine St.buildR hS ?_ ?_ ?_ ?_
  ·simp [Value.cells]
  ·rfl
  ·decide
  intro x3 w3 I3 hB hS hs _
  refine ⟨_,rfl,hs,?_⟩
  refine OwnD.push' (a:=nth b.steps i) hO hS (hB.rd hS.items) hT (by simp;omega) (by decide) ?_
  intro x4 w4 I4 hO4 hS
  refine ⟨_,rfl,?_⟩
  refine go_wr (by omega) (by omega) ?_
  refine ⟨rfl,rfl,rfl,rfl,rfl,⟨I4,?_,hS.to,by omega,by omega⟩,by omega⟩
  rw [take_nth h0 hil];exact hO4
 ·simp only [bls] at hi
  rw [take_all (by omega)] at hO
  exact ⟨I,by simpa using hS,y,rfl,block_own.2 ⟨y,rfl,hr,hO⟩⟩
structure SpA (u:World) (x:Sl) (steps:List StepD) (k:Nat) (fa fk:Sl) (I0:Items):Prop where
 ex:∃ rows:List (List Value),OSl 5 x rows I0∧rows.length=steps.length∧(∀ (i:Nat) (r:List Value) (s:StepD),i≠k→rows[i]?=some r→steps[i]?=some s→Dat.cells BB u r s)∧
  rows[k]?=some [intV (nth steps k).op,intV (nth steps k).num,intV (nth steps k).into,fa.val,fk.val]
 lt:k < steps.length
 le:steps.length≤1099511627776
 i1:InI (nth steps k).op
 i2:InI (nth steps k).num
 i3:InI (nth steps k).into
 ra:Read u fa (nth steps k).args
theorem SpA.mono (h:SpA u x steps k fa fk I0) (hs:Sub u u'):SpA u' x steps k fa fk I0:=
 ⟨let ⟨rows,h1,h2,h3,h4⟩:=h.ex;⟨rows,h1,h2,fun i r s hi hr hs'=>Dat.mono hs (h3 i r s hi hr hs'),h4⟩,h.lt,h.le,h.i1,h.i2,h.i3,h.ra.mono hs⟩
theorem SpA.ix (h:SpA u x steps k fa fk I0):IxOk x k:=by
 obtain ⟨rows,h1,h2,_⟩:=h.ex
 have:=h.lt
 cases h1 with
 | nil=>simp at h2;omega
 | blk g o n c cur e _ hn hc hm hs hr=>exact ⟨rfl,by omega,by simp only [] at *;omega⟩
theorem SpA.cell (h:SpA u x steps k fa fk I0) (hS:St u0 w L) [p:Pos I0 L R F]:w.cell? ((elA x k 5).add 3)=some fa.val∧w.cell? ((elA x k 5).add 4)=some fk.val:=by
 obtain ⟨rows,h1,h2,h3,h4⟩:=h.ex
 have hr:=(h1.rd hS.items).2.2 k _ h4
 exact ⟨hr.2 3 _ rfl,hr.2 4 _ rfl⟩
theorem SpA.join (h:SpA u x steps k fa fk I0) (hk:Read u fk kids):Own u x (steps.set k ⟨(nth steps k).op,(nth steps k).num,(nth steps k).into,(nth steps k).args,kids⟩) I0:=by
 obtain ⟨rows,h1,h2,h3,h4⟩:=h.ex
 refine ⟨rows,h1,⟨by rw [List.length_set];exact h2,fun i r s hr hs=>?_⟩,by rw [List.length_set];exact h.le⟩
 by_cases e:i=k
 ·subst e
  rw [hr] at h4
  injection h4 with h4
  subst h4
  rw [List.getElem?_set_self h.lt] at hs
  injection hs with hs
  subst hs
  exact step_cells.2 ⟨fa,fk,rfl,h.i1,h.i2,h.i3,h.ra,hk⟩
 ·rw [List.getElem?_set_ne (fun h=>e h.symm)] at hs
  exact h3 i r s e hr hs
theorem GS.open_ (h:GS u a (J++R) m w) (hO:OwnD x steps J) (hk:k < steps.length):∃ (u':World) (I0 Kk:Items) (fa fk:Sl),Sub u u'∧GS u' a (Kk++(I0++R)) m w∧SpA u' x steps k fa fk I0∧Own u' fk (nth steps k).kids Kk:=by
 obtain ⟨rows,I0,Is,E,h1,h2,h3,h4,h5,h6⟩:=hO
 have hrk:k < rows.length:=by omega
 have hik:k < Is.length:=by omega
 have hs:=List.getElem?_eq_getElem hk
 have hn:nth steps (k:Int)=steps[k]:=nth_of (i:=(k:Int)) hs
 have hown:=h4 k _ _ _ (List.getElem?_eq_getElem hrk) hs (List.getElem?_eq_getElem hik)
 rw [←hn] at hown
 obtain ⟨fa,fk,Ka,Kk,er,j1,j2,j3,hOa,hOk,eK⟩:=step_own.1 hown
 obtain ⟨rows2,I2,Is2,E2,g1,g2,g3,g4,g5,g6⟩:=hOk
 have hper:=perm_flatten_mid (List.getElem?_eq_getElem hik)
 obtain ⟨I,hR,hS⟩:=h
 have hS:St u w ((Ka++(Is2.flatten++(E2++((Is.take k++Is.drop (k+1)).flatten++E))))++(I++(I2++(I0++R)))):=hS.perm (by
  classical
  refine List.perm_iff_count.2 fun p=>?_
  have c5:=h5.count_eq p
  have cp:=hper.count_eq p
  have c2:=g5.count_eq p
  rw [eK] at cp
  simp only [List.count_append] at *
  omega)
 obtain ⟨u2,hu,hS2,hJ⟩:=hS.freeze (Ka++(Is2.flatten++(E2++((Is.take k++Is.drop (k+1)).flatten++E))))
 have hat:∀ {K:Items},(∀ p∈K,p∈Ka++(Is2.flatten++(E2++((Is.take k++Is.drop (k+1)).flatten++E))))→AtAll u2 K:=fun hK p hp=>hJ.at_ p (hK p hp)
 have hAa:AtAll u2 Ka:=hat fun p hp=>List.mem_append_left _ hp
 refine ⟨u2,I0,I2,fa,fk,hu,⟨I,hR.mono hu,hS2⟩,⟨⟨rows,h1,h2,fun i r s hi hr hs'=>?_,?_⟩,hk,h6,j1,j2,j3,?_⟩,?_⟩
 ·have hlt:i < Is.length:=by
   have:=(List.getElem?_eq_some_iff.1 hr).1
   omega
  have hI:=List.getElem?_eq_getElem hlt
  refine DatO.read (h4 i r s _ hr hs' hI) (hat fun p hp=>?_)
  refine List.mem_append_right _ (List.mem_append_right _ (List.mem_append_right _ (List.mem_append_left _ ?_)))
  refine List.mem_flatten.2 ⟨_,?_,hp⟩
  rcases Nat.lt_or_ge i k with hlt2|hge
  ·exact List.mem_append_left _ (List.mem_of_getElem? (i:=i) (by rw [List.getElem?_take,if_pos hlt2];exact hI))
  ·exact List.mem_append_right _ (List.mem_of_getElem? (i:=i - (k+1)) (by rw [List.getElem?_drop,show k+1+(i - (k+1))=i by omega];exact hI))
 ·rw [List.getElem?_eq_getElem hrk,er]
 ·obtain ⟨ra,b1,b2,b3⟩:=hOa u2
  exact ⟨ra,b1.rd hAa,b2,b3⟩
 ·refine ⟨rows2,g1,⟨g2,fun i r s hr hs'=>?_⟩,g6⟩
  have hlt:i < Is2.length:=by
   have:=(List.getElem?_eq_some_iff.1 hr).1
   omega
  have hI:=List.getElem?_eq_getElem hlt
  refine DatO.read (g4 i r s _ hr hs' hI) (hat fun p hp=>?_)
  exact List.mem_append_right _ (List.mem_append_left _ (List.mem_flatten.2 ⟨_,List.getElem_mem hlt,hp⟩))
end
def SQ (u:World) (a:Addr) (R:Items) (m:Int) (r:Value) (w:World):Prop:=∃ (c:StepD) (ya yk:Sl) (u':World),r=.agg #[iV c.op,iV c.num,iV c.into,ya.val,yk.val]∧InI c.op∧InI c.num∧InI c.into∧Sub u u'∧GS u' a R m w∧Read u' ya c.args∧Read u' yk c.kids
def BQ (u:World) (a:Addr) (R:Items) (m:Int) (r:Value) (w:World):Prop:=∃ (b:BlockD) (y:Sl) (u':World),r=.agg #[y.val,iV b.result]∧InI b.result∧Sub u u'∧GS u' a R m w∧Read u' y b.steps
def SoD (ds:List DeclD) (N d:Nat):Prop:=∀ (b:BlockD) (u:World) (a:Addr) (R:Items) (m:Int) (w:World) (xs:Sl),ShB ds N d b→GS u a R m w→m+20 * (d:Int)≤999900000→Read w xs b.steps→InI b.result→
 Trip Tryz.prog 40 #[(pt a),.agg #[xs.val,iV b.result]] w (BQ u a R (m+20 * (d:Int)))
section
variable {u u' w:World} {x y xa xk xs fa fk ya yk:Sl} {ds:List DeclD} {a:Addr} {I J R I0:Items} {n m op num into result i m':Int} {d N e:Nat} {args:List Int} {kids:List BlockD} {steps:List StepD} {b:BlockD} {c:StepD} {k:Nat}
theorem slval_inj {x y:Sl} (h:x.val=y.val):x=y:=by
 cases x;cases y
 simp only [Sl.val,Value.slice.injEq] at h
 obtain ⟨rfl,rfl,rfl⟩:=h
 rfl
theorem sq_fin (hu:Sub u u') (h:GS u' a (J++R) m w) (hO:Own u' ya args J) (hk:Read u' yk kids) (i1:InI op) (i2:InI num) (i3:InI into) (hm:m≤m'):SQ u a R m' (.agg #[iV op,iV num,iV into,ya.val,yk.val]) w:=by
 obtain ⟨u2,hu2,h,hJ⟩:=h.freeze
 exact ⟨⟨op,num,into,args,kids⟩,ya,yk,u2,rfl,i1,i2,i3,hu.trans hu2,h.le hm,hO.read1 hJ,hk.mono hu2⟩
theorem c_spoilStep (h:GS u a R m w) (hm:m+10≤999900000) (ha:Read w xa c.args) (hk:Read w xk c.kids) (i1:InI c.op) (i2:InI c.num) (i3:InI c.into) (hl:c.args.length≤900000):Trip Tryz.prog 56 #[(pt a),.agg #[iV c.op,iV c.num,iV c.into,xa.val,xk.val]] w (SQ u a R (m+4)):=by
 refine of56 _ _ _ _ _ _ _ _ ?_
 unfold vc56
 obtain ⟨I,hR,hS⟩:=h
 refine Mk.usew (c_copyStepDH (fun k _=>c_copyBlockD k) i1 i2 i3 ha hk) hS ?_
 rintro _ w1 J1 ⟨ya,yk,rfl,hown⟩ hS hs1
 obtain ⟨fa,fk,Ka,Kk,er,j1,j2,j3,hOa,hOk,eK⟩:=step_own.1 hown
 obtain ⟨rfl,rfl⟩:ya=fa∧yk=fk:=by
  injection er with _ er
  injection er with _ er
  injection er with _ er
  injection er with e1 er
  injection er with e2 er
  exact ⟨slval_inj e1,slval_inj e2⟩
 subst eK
 have h:GS u a (Kk++(Ka++R)) m w1:=⟨I,hR,by
  have h1:St u w1 (Ka++(Kk++(I++R))):=by simpa [List.append_assoc] using hS
  exact h1.to⟩
 obtain ⟨u1,Kk0,hu1,h,hOk⟩:=h.split hOk
 obtain ⟨u2,hu2,h,hJ⟩:=h.freeze
 have hrk:=hOk.read1 hJ
 have hOa:=hOa u2
 have hU:=hu1.trans hu2
 clear hJ hOk hS hR hown er
 refine ⟨_,_,_,ya,yk,rfl,?_⟩
 have han:=hOa.n
 refine gs_pick h (by omega) (by omega) (by omega) fun p w2 h _ _ _=>⟨fun _=>?_,fun _=>⟨fun _=>?_,fun _=>⟨fun _=>?_,fun _=>⟨fun _=>?_,fun _=>⟨fun _=>⟨fun hc=>⟨?_,?_⟩,fun _=>?_⟩,fun _=>⟨fun _=>⟨fun hc=>⟨?_,?_⟩,fun _=>?_⟩,fun _=>?_⟩⟩⟩⟩⟩⟩
 ·refine gs_ints h (by (repeat' (first|exact VsOf.nil|apply VsOf.cons|(apply VOf.int;first|assumption|(constructor<;>first|omega|(simp only [lz] at *;omega)))|exact VOf.bool|exact VOf.str))) rfl (by decide) fun x3 w3 u3 hu3 hs3 h hx3=>?_
  refine gs_one h hx3 (by omega) (by simp) (by simp) fun t w4 h ht=>?_
  have htI:InI t:=by simp only [List.mem_cons,List.not_mem_nil,or_false] at ht;constructor<;>omega
  exact sq_fin (hU.trans hu3) h (hOa.mono hu3) (hrk.mono hu3) htI j2 j3 (by omega)
 ·refine gs_ints h (by (repeat' (first|exact VsOf.nil|apply VsOf.cons|(apply VOf.int;first|assumption|(constructor<;>first|omega|(simp only [lz] at *;omega)))|exact VOf.bool|exact VOf.str))) rfl (by decide) fun x3 w3 u3 hu3 hs3 h hx3=>?_
  refine gs_one h hx3 (by omega) (by simp) (by simp) fun t w4 h ht=>?_
  have htI:InI t:=by simp only [List.mem_cons,List.not_mem_nil,or_false] at ht;constructor<;>omega
  exact sq_fin (hU.trans hu3) h (hOa.mono hu3) (hrk.mono hu3) j1 htI j3 (by omega)
 ·refine gs_ints h (by (repeat' (first|exact VsOf.nil|apply VsOf.cons|(apply VOf.int;first|assumption|(constructor<;>first|omega|(simp only [lz] at *;omega)))|exact VOf.bool|exact VOf.str))) rfl (by decide) fun x3 w3 u3 hu3 hs3 h hx3=>?_
  refine gs_one h hx3 (by omega) (by simp) (by simp) fun t w4 h ht=>?_
  have htI:InI t:=by simp only [List.mem_cons,List.not_mem_nil,or_false] at ht;constructor<;>omega
  exact sq_fin (hU.trans hu3) h (hOa.mono hu3) (hrk.mono hu3) j1 j2 htI (by omega)
 ·refine gs_ints h (by (repeat' (first|exact VsOf.nil|apply VsOf.cons|(apply VOf.int;first|assumption|(constructor<;>first|omega|(simp only [lz] at *;omega)))|exact VOf.bool|exact VOf.str))) rfl (by decide) fun x3 w3 u3 hu3 hs3 h hx3=>?_
  refine gs_one h hx3 (by omega) (by simp) (by simp) fun t w4 h ht=>?_
  have htI:InI t:=by simp only [List.mem_cons,List.not_mem_nil,or_false] at ht;constructor<;>omega
  refine gs_pushL (α:=Int) (news:=[t]) h (hOa.mono hu3) (by exact VsOf.cons (VOf.int htI) VsOf.nil) rfl (by decide) (by simp;omega) (by decide) fun z' w11 K' h hz'=>?_
  exact sq_fin (hU.trans hu3) h hz' (hrk.mono hu3) j1 j2 j3 (by omega)
 ·simp only [bls] at hc
  refine gs_pick h (by omega) (by omega) (by omega) fun j w3 h q0 q1 _=>?_
  have hj:j < c.args.length:=by have:=q1 (by omega);omega
  refine gs_ints h (by (repeat' (first|exact VsOf.nil|apply VsOf.cons|(apply VOf.int;first|assumption|(constructor<;>first|omega|(simp only [lz] at *;omega)))|exact VOf.bool|exact VOf.str))) rfl (by decide) fun x3 w4 u3 hu3 hs3 h hx3=>⟨hs3,?_⟩
  refine gs_one h hx3 (by omega) (by simp) (by simp) fun t w5 h ht=>?_
  have htI:InI t:=by simp only [List.mem_cons,List.not_mem_nil,or_false] at ht;constructor<;>omega
  obtain ⟨I,hR,hS⟩:=h
  refine ⟨((hOa.mono hu3).read hS).ix q0 hj,?_⟩
  refine st_int (hOa.mono hu3) hS q0 hj htI fun w6 I6 hO6 hS6=>?_
  exact sq_fin (hU.trans hu3) ⟨I,hR,hS6.to⟩ hO6 (hrk.mono hu3) j1 j2 j3 (by omega)
 ·simp only [bls] at hc
  refine gs_ints h (by (repeat' (first|exact VsOf.nil|apply VsOf.cons|(apply VOf.int;first|assumption|(constructor<;>first|omega|(simp only [lz] at *;omega)))|exact VOf.bool|exact VOf.str))) rfl (by decide) fun x3 w4 u3 hu3 hs3 h hx3=>⟨hs3,?_⟩
  refine gs_pick h (by omega) (by omega) (by omega) fun j w3 h q0 q1 _=>?_
  have hj:j < c.args.length:=by have:=q1 (by omega);omega
  refine gs_one h hx3 (by omega) (by simp) (by simp) fun t w5 h ht=>?_
  have htI:InI t:=by simp only [List.mem_cons,List.not_mem_nil,or_false] at ht;constructor<;>omega
  obtain ⟨I,hR,hS⟩:=h
  refine ⟨((hOa.mono hu3).read hS).ix q0 hj,?_⟩
  refine st_int (hOa.mono hu3) hS q0 hj htI fun w6 I6 hO6 hS6=>?_
  exact sq_fin (hU.trans hu3) ⟨I,hR,hS6.to⟩ hO6 (hrk.mono hu3) j1 j2 j3 (by omega)
 ·exact sq_fin hU h hOa hrk j1 j2 j3 (by omega)
 ·simp only [bls] at hc
  omega
 ·have hkn:=hrk.n
  simp only [bls] at hc
  exact sq_fin hU h hOa (hrk.cut (lo:=1) (hi:=(yk.n:Int)) (by omega) (by omega) (by omega)) j1 j2 j3 (by omega)
 ·exact sq_fin hU h hOa hrk j1 j2 j3 (by omega)
 ·exact sq_fin hU h hOa hrk j1 j2 j3 (by omega)
theorem bq_fin (hu:Sub u u') (h:GS u' a (J++R) m w) (hO:Own u' y steps J) (hr:InI result) (hm:m≤m'):BQ u a R m' (.agg #[y.val,iV result]) w:=by
 obtain ⟨u2,hu2,h,hJ⟩:=h.freeze
 exact ⟨⟨steps,result⟩,y,u2,rfl,hr,hu.trans hu2,h.le hm,hO.read1 hJ⟩
theorem c_spoilBlock (hN:N≤500000000):∀ d:Nat,SoD ds N d
 | 0=>fun b u a R m w xs hsh=>hsh.elim
 | e+1=>by
  have H:=c_spoilBlock hN e
  intro b u a R m w xs hsh h hm hxs hri
  refine of40 _ _ _ _ _ ?_
  unfold vc40
  have hln:=hsh.1
  obtain ⟨I,hR,hS⟩:=h
  refine Mk.usew (c_copyBlockD b w xs hxs hri) hS ?_
  rintro _ w1 J1 ⟨y,rfl,hown⟩ hS hs1
  obtain ⟨fy,er,j1,hO⟩:=block_own.1 hown
  obtain rfl:y=fy:=by
   injection er with e1 er
   exact slval_inj e1
  have h:GS u a (J1++R) m w1:=⟨I,hR,hS.to⟩
  clear hR hS hown er
  have hyn:=hO.n
  refine ⟨y,_,rfl,fun hc=>?_,fun _=>?_⟩
  ·simp only [bls] at hc
   refine gs_pick h (by omega) (by omega) (by omega) fun p w2 h _ _ _=>⟨fun _=>?_,fun _=>?_⟩
   ·obtain ⟨u1,J0,hu1,h,hO1⟩:=h.split hO
    refine gs_ints h (by (repeat' (first|exact VsOf.nil|apply VsOf.cons|(apply VOf.int;first|assumption|(constructor<;>first|omega|(simp only [lz] at *;omega)))|exact VOf.bool|exact VOf.str))) rfl (by decide) fun x3 w3 u3 hu3 hs3 h hx3=>?_
    refine gs_one h hx3 (by omega) (by simp) (by simp) fun t w4 h ht=>?_
    have htI:InI t:=by simp only [List.mem_cons,List.not_mem_nil,or_false] at ht;constructor<;>omega
    exact bq_fin (hu1.trans hu3) h (hO1.mono hu3) htI (by omega)
   refine gs_pick h (by omega) (by omega) (by omega) fun k w3 h k0 k1 _=>?_
   obtain ⟨kn,rfl⟩:=Int.eq_ofNat_of_zero_le k0
   have hkn:kn < b.steps.length:=by have:=k1 (by omega);omega
   obtain ⟨u1,I0,Kk,fa,fk,hu1,h,hA,hOk⟩:=h.open_ hO hkn
   have hsk:=hsh.2 _ (nth_mem (i:=(kn:Int)) (by omega) (by omega))
   have hfn:=hOk.n
   have hk5:=hsk.1.2.1
   have hce:∀ {u2 w:World} {m:Int},Sub u1 u2→GS u2 a (Kk++(I0++R)) m w→w.cell? ((elA y kn 5).add 4)=some fk.val:=fun hs h=>by
    obtain ⟨I,_,hS⟩:=h
    exact ((hA.mono hs).cell hS).2
   have hix:=hA.ix
   clear hO
   refine ⟨hix,fk,hce (.refl _) h,fun hc2=>?_,fun hc2=>?_⟩
   ·simp only [bls] at hc2
    refine gs_pick h (by omega) (by omega) (by omega) fun p w4 h _ _ _=>⟨fun _=>?_,fun _=>?_⟩
    ·refine ⟨hix,fk,hce (.refl _) h,?_⟩
     refine gs_pick h (by omega) (by omega) (by omega) fun j w5 h j0 j1' _=>?_
     have hj:j < (nth b.steps kn).kids.length:=by have:=j1' (by omega);omega
     have hkid:=hsk.2 _ (nth_mem j0 hj)
     obtain ⟨g,hg⟩:∃ g:Sl,w5.cell? ((elA fk j 2).add 0)=some g.val∧w5.cell? ((elA fk j 2).add 1)=some (iV (nth (nth b.steps kn).kids j).result)∧InI (nth (nth b.steps kn).kids j).result∧Read u1 g (nth (nth b.steps kn).kids j).steps∧IxOk fk j:=by
      obtain ⟨I,hR,hS⟩:=h
      obtain ⟨g,a1,a2,hr,hg⟩:=(hOk.src hS).ofBlockD j0 hj
      exact ⟨g,a1,a2,hr,hg,(hOk.read hS).ix j0 hj⟩
     obtain ⟨a1,a2,hr,hg,hixk⟩:=hg
     
     have call:∀ {K:Value→World→Prop},(∀ y' b' w' u',Sub u1 u'→GS u' a (Kk++(I0++R)) (m+4+20 * (e:Int)) w'→Read u' y' b'.steps→InI b'.result→K (.agg #[Sl.val y',iV (BlockD.result b')]) w')→Trip Tryz.prog 40 #[(pt a),.agg #[g.val,iV (nth (nth b.steps kn).kids j).result]] w5 K:=by
      intro K kk
      refine (H _ u1 a _ (m+4) w5 g hkid (h.le (by omega)) (by omega) (hg.mono h.sub) hr).mono' ?_
      rintro _ w6 ⟨b6,y6,u6,rfl,hr6,hu6,h6,hy6⟩
      exact kk y6 b6 w6 u6 hu6 h6 hy6 hr6
     have put:∀ {y':Sl} {b':BlockD} {w' u':World},Sub u1 u'→GS u' a (Kk++(I0++R)) (m+4+20 * (e:Int)) w'→Read u' y' b'.steps→InI b'.result→StoreAt w' (elA fk j 2) 0 [y'.val,iV b'.result] fun w''=>BQ u a R (m+20 * ((e+1:Nat):Int)) (.agg #[y.val,iV b.result]) w'':=by
      intro y' b' w' u' hu' h' hy' hr'
      obtain ⟨I,hR,hS⟩:=h'
      refine (hOk.mono hu').store hS j0 hj b' (Nat.le_of_ble_eq_true rfl) (fun r hr=>?_) fun w7 J7 hO7 hS7=>?_
      ·obtain ⟨f',rfl,_⟩:=block_cells.1 hr
       exact block_cells.2 ⟨y',rfl,hr',hy'⟩
      have h7:GS u' a (J7++(I0++R)) (m+4+20 * (e:Int)) w7:=⟨I,hR,hS7.to⟩
      obtain ⟨u8,hu8,h8,hJ8⟩:=h7.freeze
      exact bq_fin (hu1.trans (hu'.trans hu8)) h8 (((hA.mono hu').mono hu8).join (hO7.read1 hJ8)) j1 (by omega)
     refine ⟨hix,fk,hce (.refl _) h,hixk,g,_,⟨a1,a2⟩,⟨hix,⟨fk,hce (.refl _) h,?_⟩,?_⟩,?_⟩
     ·exact call fun y' b' w' u' hu' h' hy' hr'=>⟨y',_,rfl,hixk,put hu' h' hy' hr'⟩
     ·exact call fun y' b' w' u' hu' h' hy' hr'=>⟨y',_,rfl,fk,hce hu' h',hixk,put hu' h' hy' hr'⟩
     ·exact call fun y' b' w' u' hu' h' hy' hr'=>⟨y',_,rfl,hix,fk,hce hu' h',hixk,put hu' h' hy' hr'⟩
    ·obtain ⟨u2,hu2,h,hJ⟩:=h.freeze
     have hO:=(hA.mono hu2).join (hOk.read1 hJ)
     have hU:=hu1.trans hu2
     have hnk:nth (b.steps.set kn ⟨(nth b.steps kn).op,(nth b.steps kn).num,(nth b.steps kn).into,(nth b.steps kn).args,(nth b.steps kn).kids⟩) (kn:Int)=⟨(nth b.steps kn).op,(nth b.steps kn).num,(nth b.steps kn).into,(nth b.steps kn).args,(nth b.steps kn).kids⟩:=nth_of (by simp [hkn])
     have hll:(b.steps.set kn ⟨(nth b.steps kn).op,(nth b.steps kn).num,(nth b.steps kn).into,(nth b.steps kn).args,(nth b.steps kn).kids⟩).length=b.steps.length:=by simp
     generalize b.steps.set kn ⟨(nth b.steps kn).op,(nth b.steps kn).num,(nth b.steps kn).into,(nth b.steps kn).args,(nth b.steps kn).kids⟩=l1 at hO hnk hll
     refine gs_pick h (by omega) (by omega) (by omega) fun p w6 h _ _ _=>⟨fun _=>?_,fun _=>⟨fun _=>?_,fun _=>?_⟩⟩
     ·obtain ⟨I,hR,hS⟩:=h
      have hr:=hO.read hS
      refine ⟨cutOkD hr (by omega) (by omega),?_⟩
      refine go_wr (by omega) (by omega) ?_
      refine ⟨⟨by omega,by omega⟩,?_⟩
      refine Own.append (hO.cut (lo:=0) (hi:=(kn:Int)) (by omega) (by omega) (by omega)) hS ((hO.cut (lo:=(kn:Int)+1) (hi:=(y.n:Int)) (by omega) (by omega) (by omega)).src hS) (by simp only [List.length_drop,List.length_take];omega) (by decide) fun x7 w7 J7 hO7 hS7=>⟨x7,rfl,?_⟩
      exact bq_fin hU ⟨I,hR,hS7.to⟩ hO7 j1 (by omega)
     ·refine gs_ints h (by (repeat' (first|exact VsOf.nil|apply VsOf.cons|(apply VOf.int;first|assumption|(constructor<;>first|omega|(simp only [lz] at *;omega)))|exact VOf.bool|exact VOf.str))) rfl (by decide) fun x3 w7 u3 hu3 hs3 h hx3=>?_
      refine gs_one h hx3 (by omega) (by simp) (by simp) fun t w8 h ht=>?_
      have htI:InI t:=by simp only [List.mem_cons,List.not_mem_nil,or_false] at ht;constructor<;>omega
      refine gs_pick h (by omega) (by omega) (by omega) fun p w9 h p0 p1 _=>?_
      have hpI:InI p:=by have:=p1 (by omega);exact ⟨by omega,by omega⟩
      obtain ⟨u4,hu4,h,hJ4⟩:=h.freeze
      have hr:=(hO.mono hu3).read1 hJ4
      refine gs_fz (c_counting hpI) h ?_
      rintro _ w10 u5 hu5 hs5 h ⟨xc,xd,rfl,hxc,hxd⟩
      refine ⟨_,_,_,xc,xd,rfl,?_⟩
      refine gs_fz (c_putStep (c:=(⟨t,0,0,[p],[]⟩:StepD)) (result:=b.result) (n:=(kn:Int)) (hr.mono hu5) (by omega) (by omega) htI (in64_in rfl) (in64_in rfl) hxc hxd (by omega)) h ?_
      rintro _ w11 u6 hu6 hs6 h ⟨y6,rfl,hy6⟩
      exact ⟨y6,_,rfl,⟨_,b.result⟩,y6,u6,rfl,j1,hU.trans (hu3.trans (hu4.trans (hu5.trans hu6))),h.le (by omega),hy6⟩
     ·obtain ⟨g,t,e1,e2,e3,e4,e5,q1,q2,q3,hg,ht⟩:∃ g t:Sl,w6.cell? ((elA y kn 5).add 0)=some (iV (nth l1 kn).op)∧w6.cell? ((elA y kn 5).add 1)=some (iV (nth l1 kn).num)∧w6.cell? ((elA y kn 5).add 2)=some (iV (nth l1 kn).into)∧w6.cell? ((elA y kn 5).add 3)=some g.val∧w6.cell? ((elA y kn 5).add 4)=some t.val∧InI (nth l1 kn).op∧InI (nth l1 kn).num∧InI (nth l1 kn).into∧Read u2 g (nth l1 kn).args∧Read u2 t (nth l1 kn).kids:=by
       obtain ⟨I,hR,hS⟩:=h
       exact (hO.src hS).ofStepD (by omega) (by omega)
      refine ⟨hix,_,_,_,g,t,⟨e1,e2,e3,e4,e5⟩,?_⟩
      refine (c_spoilStep (c:=nth l1 kn) h (by omega) (hg.mono h.sub) (ht.mono h.sub) q1 q2 q3 (by rw [hnk];have:=hsk.1.1;show (nth b.steps kn).args.length≤900000;omega)).mono' ?_
      rintro _ w7 ⟨c7,ya,yk,u7,rfl,p1,p2,p3,hu7,h,hya,hyk⟩
      refine ⟨_,_,_,ya,yk,rfl,hix,?_⟩
      obtain ⟨I,hR,hS⟩:=h
      refine (hO.mono hu7).store hS (i:=(kn:Int)) (by omega) (by omega) c7 (Nat.le_of_ble_eq_true rfl) (fun r hr=>?_) fun w8 J8 hO8 hS8=>?_
      ·obtain ⟨f1,f2,rfl,_⟩:=step_cells.1 hr
       exact step_cells.2 ⟨ya,yk,rfl,p1,p2,p3,hya,hyk⟩
      exact bq_fin (hU.trans hu7) ⟨I,hR,hS8.to⟩ hO8 j1 (by omega)
   ·obtain ⟨u2,hu2,h,hJ⟩:=h.freeze
    have hO:=(hA.mono hu2).join (hOk.read1 hJ)
    have hU:=hu1.trans hu2
    have hnk:nth (b.steps.set kn ⟨(nth b.steps kn).op,(nth b.steps kn).num,(nth b.steps kn).into,(nth b.steps kn).args,(nth b.steps kn).kids⟩) (kn:Int)=⟨(nth b.steps kn).op,(nth b.steps kn).num,(nth b.steps kn).into,(nth b.steps kn).args,(nth b.steps kn).kids⟩:=nth_of (by simp [hkn])
    have hll:(b.steps.set kn ⟨(nth b.steps kn).op,(nth b.steps kn).num,(nth b.steps kn).into,(nth b.steps kn).args,(nth b.steps kn).kids⟩).length=b.steps.length:=by simp
    generalize b.steps.set kn ⟨(nth b.steps kn).op,(nth b.steps kn).num,(nth b.steps kn).into,(nth b.steps kn).args,(nth b.steps kn).kids⟩=l1 at hO hnk hll
    refine gs_pick h (by omega) (by omega) (by omega) fun p w6 h _ _ _=>⟨fun _=>?_,fun _=>⟨fun _=>?_,fun _=>?_⟩⟩
    ·obtain ⟨I,hR,hS⟩:=h
     have hr:=hO.read hS
     refine ⟨cutOkD hr (by omega) (by omega),?_⟩
     refine go_wr (by omega) (by omega) ?_
     refine ⟨⟨by omega,by omega⟩,?_⟩
     refine Own.append (hO.cut (lo:=0) (hi:=(kn:Int)) (by omega) (by omega) (by omega)) hS ((hO.cut (lo:=(kn:Int)+1) (hi:=(y.n:Int)) (by omega) (by omega) (by omega)).src hS) (by simp only [List.length_drop,List.length_take];omega) (by decide) fun x7 w7 J7 hO7 hS7=>⟨x7,rfl,?_⟩
     exact bq_fin hU ⟨I,hR,hS7.to⟩ hO7 j1 (by omega)
    ·refine gs_ints h (by (repeat' (first|exact VsOf.nil|apply VsOf.cons|(apply VOf.int;first|assumption|(constructor<;>first|omega|(simp only [lz] at *;omega)))|exact VOf.bool|exact VOf.str))) rfl (by decide) fun x3 w7 u3 hu3 hs3 h hx3=>?_
     refine gs_one h hx3 (by omega) (by simp) (by simp) fun t w8 h ht=>?_
     have htI:InI t:=by simp only [List.mem_cons,List.not_mem_nil,or_false] at ht;constructor<;>omega
     refine gs_pick h (by omega) (by omega) (by omega) fun p w9 h p0 p1 _=>?_
     have hpI:InI p:=by have:=p1 (by omega);exact ⟨by omega,by omega⟩
     obtain ⟨u4,hu4,h,hJ4⟩:=h.freeze
     have hr:=(hO.mono hu3).read1 hJ4
     refine gs_fz (c_counting hpI) h ?_
     rintro _ w10 u5 hu5 hs5 h ⟨xc,xd,rfl,hxc,hxd⟩
     refine ⟨_,_,_,xc,xd,rfl,?_⟩
     refine gs_fz (c_putStep (c:=(⟨t,0,0,[p],[]⟩:StepD)) (result:=b.result) (n:=(kn:Int)) (hr.mono hu5) (by omega) (by omega) htI (in64_in rfl) (in64_in rfl) hxc hxd (by omega)) h ?_
     rintro _ w11 u6 hu6 hs6 h ⟨y6,rfl,hy6⟩
     exact ⟨y6,_,rfl,⟨_,b.result⟩,y6,u6,rfl,j1,hU.trans (hu3.trans (hu4.trans (hu5.trans hu6))),h.le (by omega),hy6⟩
    ·obtain ⟨g,t,e1,e2,e3,e4,e5,q1,q2,q3,hg,ht⟩:∃ g t:Sl,w6.cell? ((elA y kn 5).add 0)=some (iV (nth l1 kn).op)∧w6.cell? ((elA y kn 5).add 1)=some (iV (nth l1 kn).num)∧w6.cell? ((elA y kn 5).add 2)=some (iV (nth l1 kn).into)∧w6.cell? ((elA y kn 5).add 3)=some g.val∧w6.cell? ((elA y kn 5).add 4)=some t.val∧InI (nth l1 kn).op∧InI (nth l1 kn).num∧InI (nth l1 kn).into∧Read u2 g (nth l1 kn).args∧Read u2 t (nth l1 kn).kids:=by
      obtain ⟨I,hR,hS⟩:=h
      exact (hO.src hS).ofStepD (by omega) (by omega)
     refine ⟨hix,_,_,_,g,t,⟨e1,e2,e3,e4,e5⟩,?_⟩
     refine (c_spoilStep (c:=nth l1 kn) h (by omega) (hg.mono h.sub) (ht.mono h.sub) q1 q2 q3 (by rw [hnk];have:=hsk.1.1;show (nth b.steps kn).args.length≤900000;omega)).mono' ?_
     rintro _ w7 ⟨c7,ya,yk,u7,rfl,p1,p2,p3,hu7,h,hya,hyk⟩
     refine ⟨_,_,_,ya,yk,rfl,hix,?_⟩
     obtain ⟨I,hR,hS⟩:=h
     refine (hO.mono hu7).store hS (i:=(kn:Int)) (by omega) (by omega) c7 (Nat.le_of_ble_eq_true rfl) (fun r hr=>?_) fun w8 J8 hO8 hS8=>?_
     ·obtain ⟨f1,f2,rfl,_⟩:=step_cells.1 hr
      exact step_cells.2 ⟨ya,yk,rfl,p1,p2,p3,hya,hyk⟩
     exact bq_fin (hU.trans hu7) ⟨I,hR,hS8.to⟩ hO8 j1 (by omega)
  ·obtain ⟨u1,J0,hu1,h,hO1⟩:=h.split hO
   refine gs_ints h (by (repeat' (first|exact VsOf.nil|apply VsOf.cons|(apply VOf.int;first|assumption|(constructor<;>first|omega|(simp only [lz] at *;omega)))|exact VOf.bool|exact VOf.str))) rfl (by decide) fun x3 w3 u3 hu3 hs3 h hx3=>?_
   refine gs_one h hx3 (by omega) (by simp) (by simp) fun t w4 h ht=>?_
   have htI:InI t:=by simp only [List.mem_cons,List.not_mem_nil,or_false] at ht;constructor<;>omega
   exact bq_fin (hu1.trans hu3) h (hO1.mono hu3) htI (by omega)
end
end Go.Vc
