/- Part of the proofs about the heaps and memories: a law is joined in the text whose name ends in W and the law. -/
import Derived.Test.YtlcegaeioheikaaGreatEK2
import Derived.Test.YtlcegaeioheikaaGreatEH1
import Derived.Test.YtlcegaeioheikaaGreatEK1
set_option linter.all false
namespace Go.Vc
open Go Go.Proofs Go.RowKit
section
variable {v w:World} {x y z ax kx xs:Sl} {vars args:List Int} {ds:List DeclD} {rs:List RoutD} {ss:List SigD} {n i t op num into:Int} {c:StepD} {b:BlockD} {kids:List BlockD}
theorem apply_iff {f:Int} (h2:args.length=2) (h0:0≤nth args 0∧nth args 0 < vars.length):(argsIn vars args∧typs vars args=[nth vars (nth args 0),f])↔(argsIn vars (args.drop 1)∧typs vars (args.drop 1)=[f]):=by
  match args,h2,h0 with
  | [a,b],_,h0=>
    have e0:nth [a,b] 0=a:=rfl
    rw [e0] at h0 ⊢
    simp only [typs,argsIn,List.map_cons,List.map_nil,List.drop_succ_cons,List.drop_zero,List.cons.injEq,and_true,true_and,List.mem_cons,List.not_mem_nil,or_false,forall_eq_or_imp,forall_eq]
    exact ⟨fun ⟨⟨_,q1⟩,q2⟩=>⟨q1,q2⟩,fun ⟨q1,q2⟩=>⟨⟨h0,q1⟩,q2⟩⟩
theorem c_stepTypeS (h:Nrm v x y ds rs) (hz:Read v z vars) (hv:nonneg vars) (ha:Read v ax c.args) (hk:Read v kx c.kids) (hi1:InI c.num) (hi2:InI c.into) (H:∀ k∈c.kids,BtP ds rs k) (hb:vars.length+3+4 * cntS c≤10000):
    Fn Tryz.prog 113 #[.agg #[x.val,y.val],z.val,.agg #[iV c.op,iV c.num,iV c.into,ax.val,kx.val]] v (iV (gD (stpT ds (rs.map sgOf) vars c))):=by
  classical
  refine of113 _ _ _ _ _ _ _ _ _ _ ?_
  unfold vc113
  have han:=ha.n
  have hal:=ha.le
  have hkn:=hk.n
  have hzn:=hz.n
  have hzl:=hz.le
  have hS0:=St.refl v
  rw [cntS_eq] at hb
  refine ⟨_,fun _=>c_hasNum,_,fun _=>c_validInto hz hv hi2,fun hc=>⟨?_,.refl v⟩,fun hc=>?_⟩
  · simp only [bls] at hc
    rcases hc with (hc|hc)|hc
    · rw [stp_num hc.1 (by omega)];rfl
    · rw [stp_into fun hh=>by rw [pB_t hh] at hc;cases hc];rfl
    · rw [stp_kids (by omega) (by omega) (by omega)];rfl
  simp only [bls] at hc
  obtain ⟨⟨hnum,hin⟩,hkz⟩:=hc
  replace hin:=pB_iff.1 hin
  have hno:(c.op≠0∧c.op≠6∧c.op≠8∧c.op≠9∧c.op≠10)→c.num=0:=fun hh=>by omega
  have hk0':c.op≠7→c.op≠8→c.kids.length=0:=fun h7 h8=>by omega
  clear hnum hkz
  by_cases o0:c.op=0
  · repeat (first|refine ⟨fun h=>absurd (of_decide_eq_true h) (by omega),fun _=>?_⟩|refine ⟨fun _=>?_,fun h=>absurd (of_decide_eq_false h) (by omega)⟩)
    have hcn:¬ isCnt c.op:=by unfold isCnt;omega
    have hk0:=hk0' (by omega) (by omega)
    by_cases hr:-999≤c.num∧c.num≤999
    · have hw:wantB ds (rs.map sgOf) c.op c.num (nth (typs vars c.args) 0)=some ([],0):=by unfold wantB;rw [if_pos o0,if_pos hr]
      rw [stp_w hin (by omega) (by omega) hcn hk0 hw]
      refine ⟨_,fun _=>c_inRange,fun hq=>⟨?_,.refl v⟩,fun hq=>⟨?_,.refl v⟩⟩
      · simp only [bls] at hq
        have:c.args=[]:=List.eq_nil_of_length_eq_zero (by omega)
        rw [this,pB_t ⟨fun a h=>by (cases h),rfl⟩];rfl
      · simp only [bls] at hq
        rw [pB_f]
        · rfl
        rintro ⟨_,he⟩
        have:=congrArg List.length he
        rw [typs_len] at this
        simp only [List.length_nil] at this
        omega
    · have hw:wantB ds (rs.map sgOf) c.op c.num (nth (typs vars c.args) 0)=none:=by unfold wantB;rw [if_pos o0,if_neg hr]
      rw [stp_n hin (by omega) (by omega) hcn hk0 hw]
      refine ⟨_,fun _=>c_inRange,fun hq=>⟨?_,.refl v⟩,fun hq=>⟨rfl,.refl v⟩⟩
      simp only [bls] at hq
      omega
  by_cases o1:c.op=1∨c.op=2∨c.op=3∨c.op=4
  · have hcn:¬ isCnt c.op:=by unfold isCnt;omega
    have hk0:=hk0' (by omega) (by omega)
    have hw:wantB ds (rs.map sgOf) c.op c.num (nth (typs vars c.args) 0)=some ([0,0],0):=by unfold wantB;rw [if_neg o0,if_pos o1,if_pos (hno (by omega))]
    rcases o1 with o1|o1|o1|o1
    all_goals
      repeat (first|refine ⟨fun h=>absurd (of_decide_eq_true h) (by omega),fun _=>?_⟩|refine ⟨fun _=>?_,fun h=>absurd (of_decide_eq_false h) (by omega)⟩)
      refine St.build (α:=Int) hS0 (by (repeat' (first|exact VsOf.nil|apply VsOf.cons|(apply VOf.int;first|assumption|(constructor<;>first|omega|(simp only [lz] at *;omega)))|exact VOf.bool|exact VOf.str))) rfl (by decide) ?_
      intro z1 w1 I1 hO hS hs
      refine ⟨_,rfl,?_⟩
      (refine ⟨_,c_typed (hz.mono hs) (ha.mono hs) (hO.read hS),fun hq=>⟨?_,hS.sub⟩,fun hq=>⟨?_,hS.sub⟩⟩)
      · (first|(rw [stp_w hin (by omega) (by omega) hcn hk0 hw,hq];rfl)|(rw [stp_w hin (by omega) (by omega) hcn hk0 hw,hq];simp))
      · (first|(rw [stp_w hin (by omega) (by omega) hcn hk0 hw,hq];rfl)|(rw [stp_w hin (by omega) (by omega) hcn hk0 hw,hq];simp))
  by_cases o5:c.op=5
  · have hcn:¬ isCnt c.op:=by unfold isCnt;omega
    have hk0:=hk0' (by omega) (by omega)
    have hw:wantB ds (rs.map sgOf) c.op c.num (nth (typs vars c.args) 0)=some ([0],0):=by unfold wantB;rw [if_neg o0,if_neg o1,if_pos o5,if_pos (hno (by omega))]
    repeat (first|refine ⟨fun h=>absurd (of_decide_eq_true h) (by omega),fun _=>?_⟩|refine ⟨fun _=>?_,fun h=>absurd (of_decide_eq_false h) (by omega)⟩)
    refine St.build (α:=Int) hS0 (by (repeat' (first|exact VsOf.nil|apply VsOf.cons|(apply VOf.int;first|assumption|(constructor<;>first|omega|(simp only [lz] at *;omega)))|exact VOf.bool|exact VOf.str))) rfl (by decide) ?_
    intro z1 w1 I1 hO hS hs
    refine ⟨_,rfl,?_⟩
    (refine ⟨_,c_typed (hz.mono hs) (ha.mono hs) (hO.read hS),fun hq=>⟨?_,hS.sub⟩,fun hq=>⟨?_,hS.sub⟩⟩)
    · (first|(rw [stp_w hin (by omega) (by omega) hcn hk0 hw,hq];rfl)|(rw [stp_w hin (by omega) (by omega) hcn hk0 hw,hq];simp))
    · (first|(rw [stp_w hin (by omega) (by omega) hcn hk0 hw,hq];rfl)|(rw [stp_w hin (by omega) (by omega) hcn hk0 hw,hq];simp))
  by_cases o6:c.op=6
  · have hcn:¬ isCnt c.op:=by unfold isCnt;omega
    have hk0:=hk0' (by omega) (by omega)
    repeat (first|refine ⟨fun h=>absurd (of_decide_eq_true h) (by omega),fun _=>?_⟩|refine ⟨fun _=>?_,fun h=>absurd (of_decide_eq_false h) (by omega)⟩)
    refine ⟨_,c_specConType h.hx h.sm,fun hc=>?_,fun hc=>?_⟩
    · simp only [bls] at hc
      have hw:wantB ds (rs.map sgOf) c.op c.num (nth (typs vars c.args) 0)=some (conF ds c.num,conTyV ds c.num):=by unfold wantB;rw [if_neg o0,if_neg o1,if_neg o5,if_pos o6,if_pos hc]
      refine Mk.use (c_conFieldsR h.hx h.sm hi1) hS0 ?_
      rintro _ w1 J ⟨z1,rfl,hr⟩ hS hs
      rw [List.append_nil] at hS
      refine ⟨_,rfl,hs,_,c_typed (hz.mono hs) (ha.mono hs) (hr _ hS),fun hq=>?_,fun hq=>⟨?_,hs⟩⟩
      · refine ⟨_,c_specConType (h.hx.mono hs) h.sm,?_,hs⟩
        (first|(rw [stp_w hin (by omega) (by omega) hcn hk0 hw,hq];rfl)|(rw [stp_w hin (by omega) (by omega) hcn hk0 hw,hq];simp))
      · (first|(rw [stp_w hin (by omega) (by omega) hcn hk0 hw,hq];rfl)|(rw [stp_w hin (by omega) (by omega) hcn hk0 hw,hq];simp))
    · simp only [bls] at hc
      have hw:wantB ds (rs.map sgOf) c.op c.num (nth (typs vars c.args) 0)=none:=by unfold wantB;rw [if_neg o0,if_neg o1,if_neg o5,if_pos o6,if_neg (by omega)]
      exact ⟨.refl v,by rw [stp_n hin (by omega) (by omega) hcn hk0 hw],.refl v⟩
  by_cases o7:c.op=7
  · have hcn:¬ isCnt c.op:=by unfold isCnt;omega
    have hn0:=hno (by omega)
    repeat (first|refine ⟨fun h=>absurd (of_decide_eq_true h) (by omega),fun _=>?_⟩|refine ⟨fun _=>?_,fun h=>absurd (of_decide_eq_false h) (by omega)⟩)
    refine St.build (α:=Int) hS0 (by (repeat' (first|exact VsOf.nil|apply VsOf.cons|(apply VOf.int;first|assumption|(constructor<;>first|omega|(simp only [lz] at *;omega)))|exact VOf.bool|exact VOf.str))) rfl (by decide) ?_
    intro z1 w1 I1 hO hS hs
    refine ⟨_,rfl,?_⟩
    refine ⟨_,c_typed (hz.mono hs) (ha.mono hs) (hO.read hS),fun hq=>?_,fun hq=>⟨?_,hS.sub⟩⟩
    · obtain ⟨q1,q2⟩:=pB_iff.1 hq
      refine ⟨_,c_kidsType7 (h.mono hs) (hz.mono hs) hv (hk.mono hs) o7 hi1 H hb,?_,hS.sub⟩
      rw [stp_7 q1 hin o7]
      by_cases hl:c.kids.length=2
      · rw [if_pos hl,if_pos ⟨q2,hn0,hl⟩]
      · rw [if_neg hl,if_neg fun hh=>hl hh.2.2];rfl
    · have hq':¬ (argsIn vars c.args∧typs vars c.args=[0]):=fun hh=>by rw [pB_t hh] at hq;cases hq
      rcases Classical.em (argsIn vars c.args) with hh|hh
      · rw [stp_7 hh hin o7,if_neg fun h2=>hq' ⟨hh,h2.1⟩];rfl
      · rw [stp_out hh];rfl
  by_cases o8:c.op=8
  · have hcn:¬ isCnt c.op:=by unfold isCnt;omega
    repeat (first|refine ⟨fun h=>absurd (of_decide_eq_true h) (by omega),fun _=>?_⟩|refine ⟨fun _=>?_,fun h=>absurd (of_decide_eq_false h) (by omega)⟩)
    refine St.build (α:=Int) (l:=[c.num]) hS0 (by (repeat' (first|exact VsOf.nil|apply VsOf.cons|(apply VOf.int;first|assumption|(constructor<;>first|omega|(simp only [lz] at *;omega)))|exact VOf.bool|exact VOf.str))) rfl (by decide) ?_
    intro z1 w1 I1 hO hS hs
    refine ⟨_,rfl,?_⟩
    refine ⟨_,c_typed (hz.mono hs) (ha.mono hs) (hO.read hS),fun hq=>?_,fun hq=>⟨?_,hS.sub⟩⟩
    · obtain ⟨q1,q2⟩:=pB_iff.1 hq
      refine ⟨_,c_kidsType8 (h.mono hs) (hz.mono hs) hv (hk.mono hs) o8 hi1 H hb,?_,hS.sub⟩
      rw [stp_8 q1 hin o8]
      by_cases hl:0 < (armF ds c.num).length∧c.kids.length=(armF ds c.num).length
      · rw [if_pos hl,if_pos ⟨q2,hl⟩]
      · rw [if_neg hl,if_neg fun hh=>hl hh.2];rfl
    · have hq':¬ (argsIn vars c.args∧typs vars c.args=[c.num]):=fun hh=>by rw [pB_t hh] at hq;cases hq
      rcases Classical.em (argsIn vars c.args) with hh|hh
      · rw [stp_8 hh hin o8,if_neg fun h2=>hq' ⟨hh,h2.1⟩];rfl
      · rw [stp_out hh];rfl
  by_cases o9:c.op=9∨c.op=10
  · have hcn:¬ isCnt c.op:=by unfold isCnt;omega
    have hk0:=hk0' (by omega) (by omega)
    have hfin:(if argsIn vars c.args then gD (simB ds (rs.map sgOf) c.op c.num (typs vars c.args)) else -1)=gD (stpT ds (rs.map sgOf) vars c):=by
      obtain ⟨s1,s2⟩:=stp_simple (ds:=ds) (ss:=rs.map sgOf) hin o7 o8 hcn hk0
      split
      · rename_i hh;rw [s1 hh]
      · rename_i hh;rw [s2 hh];rfl
    rw [←hfin]
    rcases o9 with o9|o9
    all_goals
      repeat (first|refine ⟨fun h=>absurd (of_decide_eq_true h) (by omega),fun _=>?_⟩|refine ⟨fun _=>?_,fun h=>absurd (of_decide_eq_false h) (by omega)⟩)
      exact ⟨_,c_routineType h hz ha (by omega),rfl,.refl v⟩
  by_cases o11:c.op=11
  · have hcn:¬ isCnt c.op:=by unfold isCnt;omega
    have hk0:=hk0' (by omega) (by omega)
    have hn0:=hno (by omega)
    repeat (first|refine ⟨fun h=>absurd (of_decide_eq_true h) (by omega),fun _=>?_⟩|refine ⟨fun _=>?_,fun h=>absurd (of_decide_eq_false h) (by omega)⟩)
    have hg1:decide ((ax.n:Int)=2)=true→c.args.length=2:=fun h=>by simp only [bls] at h;omega
    refine go_ixg ha (fun h=>by have:=hg1 h;omega) ?_
    refine ld_intg ha (fun h=>by have:=hg1 h;omega) ?_
    refine go_wrg (fun h=>by omega) ?_
    refine ⟨_,fun _=>c_inRange,?_⟩
    have hg:(decide ((ax.n:Int)=2) && (decide (0≤nth c.args 0) && decide (nth c.args 0≤(z.n:Int) - 1)))=true→c.args.length=2∧0≤nth c.args 0∧nth c.args 0 < vars.length:=fun h=>by simp only [bls] at h;omega
    refine go_ixg ha (fun h=>by have:=hg h;omega) ?_
    refine ld_intg ha (fun h=>by have:=hg h;omega) ?_
    refine go_ixg hz (fun h=>by have:=hg h;omega) ?_
    refine ld_intg hz (fun h=>by have:=hg h;omega) ?_
    obtain ⟨q,hq,hT⟩:=c_isArrow (n:=nth vars (nth c.args 0)) h.hx h.sm.len
    have hw:∀ t0,wantB ds (rs.map sgOf) c.op c.num t0=if isArr ds t0 then some ([t0,(nth ds (t0 - 1)).frm],(nth ds (t0 - 1)).to_) else none:=by
      intro t0
      unfold wantB
      rw [if_neg o0,if_neg o1,if_neg o5,if_neg o6,if_neg (by omega),if_neg (by omega),if_pos o11]
      by_cases hh:isArr ds t0
      · rw [if_pos ⟨hn0,hh⟩,if_pos hh]
      · rw [if_neg fun h2=>hh h2.2,if_neg hh]
    refine ⟨q,fun _=>hT,fun hc=>?_,fun hc=>⟨?_,.refl v⟩⟩
    · simp only [bls] at hc
      have hl2:c.args.length=2:=by omega
      have hb0:0≤nth c.args 0∧nth c.args 0 < vars.length:=by omega
      have hisA:=hq.1 hc.2
      have ht0:nth (typs vars c.args) 0=nth vars (nth c.args 0):=nth_typs (by omega) (by omega)
      replace hw:=hw (nth (typs vars c.args) 0)
      rw [ht0,if_pos hisA,←ht0] at hw
      rw [stp_w hin o7 o8 hcn hk0 hw,ht0,(by exact (congrArg pB (propext (apply_iff hl2 hb0))):pB (argsIn vars c.args∧typs vars c.args=[nth vars (nth c.args 0),(nth ds (nth vars (nth c.args 0) - 1)).frm])=_)]
      obtain ⟨g1,g2,g3⟩:=hisA
      have hsm:=h.sm.len
      refine go_ix ha (by omega) (by omega) ?_
      refine ld_int ha (by omega) (by omega) ?_
      intro _ _
      refine go_ix hz hb0.1 hb0.2 ?_
      refine ld_int hz hb0.1 hb0.2 ?_
      intro _ _
      refine go_wr (by omega) (by omega) ?_
      refine go_ix h.hx (by omega) (by omega) ?_
      obtain ⟨f_cons,e1,e2,e3,j1,j2,r1⟩:=(h.hx.src (.refl v)).ofDeclD (i:=nth vars (nth c.args 0) - 1) (by omega) (by omega)
      refine ⟨_,_,f_cons,⟨e1,e2,e3⟩,.refl v,⟨by omega,by omega⟩,?_⟩
      refine St.build (α:=Int) (l:=[(nth ds (nth vars (nth c.args 0) - 1)).frm]) hS0 (by (repeat' (first|exact VsOf.nil|apply VsOf.cons|(apply VOf.int;first|assumption|(constructor<;>first|omega|(simp only [lz] at *;omega)))|exact VOf.bool|exact VOf.str))) rfl (by decide) ?_
      intro z1 w1 I1 hO hS hs
      have hcut:=ha.cut (lo:=1) (hi:=(ax.n:Int)) (by omega) (by omega) (by omega)
      rw [show ((ax.n:Int)).toNat=c.args.length from by omega,List.take_length,show ((1:Int)).toNat=1 from rfl] at hcut
      refine ⟨_,rfl,hs,_,c_typed (hz.mono hs) (hcut.mono hs) (hO.read hS),fun hq=>⟨?_,hs⟩,fun hq=>⟨?_,hs⟩⟩
      · rw [hq];rfl
      · rw [hq];rfl
    · simp only [bls] at hc
      by_cases hl:(c.args.length=2∧0≤nth c.args 0∧nth c.args 0 < vars.length)
      · have ht0:nth (typs vars c.args) 0=nth vars (nth c.args 0):=nth_typs (by omega) (by omega)
        have hnA:¬ isArr ds (nth vars (nth c.args 0)):=fun hh=>by
          have:=hq.2 hh
          rw [this] at hc
          simp at hc
          omega
        replace hw:=hw (nth (typs vars c.args) 0)
        rw [ht0,if_neg hnA,←ht0] at hw
        rw [stp_n hin o7 o8 hcn hk0 hw]
      · replace hw:=hw (nth (typs vars c.args) 0)
        split at hw
        · rw [stp_w hin o7 o8 hcn hk0 hw,pB_f]
          · rfl
          rintro ⟨p1,p2⟩
          have h2:c.args.length=2:=by
            have:=congrArg List.length p2
            rw [typs_len] at this
            simpa using this
          exact hl ⟨h2,argsIn_nth p1 (by omega) (by omega)⟩
        · rw [stp_n hin o7 o8 hcn hk0 hw]
  by_cases o14:c.op=14∨c.op=15∨c.op=16∨c.op=17
  · have hcn:isCnt c.op:=by unfold isCnt;omega
    have hk0:=hk0' (by omega) (by omega)
    have hn0:=hno (by omega)
    rw [stp_cnt hin hcn hk0]
    rcases o14 with o|o|o|o
    all_goals
      repeat (first|refine ⟨fun h=>absurd (of_decide_eq_true h) (by omega),fun _=>?_⟩|refine ⟨fun _=>?_,fun h=>absurd (of_decide_eq_false h) (by omega)⟩)
      exact ⟨_,c_countingType h hz hv ha hcn hn0,rfl,.refl v⟩
  · have hcn:¬ isCnt c.op:=by unfold isCnt;omega
    have hk0:=hk0' (by omega) (by omega)
    repeat (first|refine ⟨fun h=>absurd (of_decide_eq_true h) (by omega),fun _=>?_⟩|refine ⟨fun _=>?_,fun h=>absurd (of_decide_eq_false h) (by omega)⟩)
    refine ⟨?_,.refl v⟩
    rw [stp_n hin o7 o8 hcn hk0 (wantB_other (by omega))]
theorem c_blockTypeS (b:BlockD):BtP ds rs b:=by
  refine blk_ind (P:=BtP ds rs) (fun b ih=>?_) b
  intro v x y z xs vars h hz hv hxs hi hb
  refine of117 _ _ _ _ _ _ _ ?_
  unfold vc117
  have hxn:=hxs.n
  have hxl:=hxs.le
  rw [cntB_eq] at hb
  rw [blkT_eq]
  refine Mk.use (c_copyInts hz) (.refl v) ?_
  rintro _ w1 J1 ⟨z1,rfl,hO⟩ hS hs
  refine ⟨_,rfl,?_⟩
  refine ⟨fun z2 i w=>∃ (I:Items) (inner:List Int),Own v z2 inner I∧St v w (I++[])∧0≤i∧i≤b.steps.length∧nonneg inner∧stpsT ds (rs.map sgOf) vars b.steps=stpsT ds (rs.map sgOf) inner (b.steps.drop i.toNat)∧inner.length+4 * cntL (b.steps.drop i.toNat)≤10000,fun _ i _=>(b.steps.length - i).toNat,⟨J1,vars,hO,hS,by omega,by omega,hv,rfl,hb⟩,?_⟩
  clear hO hS hs
  rintro z2 i w ⟨I,inner,hO,hS,i0,i1,hnn,heq,hbd⟩
  dsimp only
  have hz2:=hO.read hS
  have hz2n:=hz2.n
  have hw:=hS.sub
  refine ⟨fun hc=>?_,fun hc=>?_⟩
  · simp only [bls] at hc
    have hil:i < b.steps.length:=by omega
    have hmem:=nth_mem (l:=b.steps) i0 hil
    have hdr:b.steps.drop i.toNat=nth b.steps i ::b.steps.drop (i+1).toNat:=by
      rw [show (i+1).toNat=i.toNat+1 from by omega]
      have:=nth_get (l:=b.steps) i0 hil
      rw [List.drop_eq_getElem_cons (by omega)]
      congr 1
      rw [List.getElem?_eq_getElem (by omega)] at this
      exact Option.some.inj this
    obtain ⟨f1,f2,e1,e2,e3,e4,e5,j1,j2,j3,r1,r2⟩:=(hxs.src hw).ofStepD i0 hil
    refine go_ix hxs i0 hil ?_
    rw [hdr,cntL_cons] at hbd
    have hst:=c_stepTypeS (c:=nth b.steps i) (h.mono hw) hz2 hnn (r1.mono hw) (r2.mono hw) j2 j3 (ih _ hmem) (by omega)
    rw [hdr,stpsT_cons] at heq
    refine ⟨_,_,_,f1,f2,⟨e1,e2,e3,e4,e5⟩,_,hst,fun hq=>⟨?_,hw⟩,fun hq=>?_⟩
    · simp only [bls] at hq
      have:stpT ds (rs.map sgOf) inner (nth b.steps i)=none:=by
        cases hst:stpT ds (rs.map sgOf) inner (nth b.steps i) with
        | none=>rfl
        | some t=>
          exfalso
          rw [hst,gD_some] at hq
          have:=stpT_nn h.sg hnn hst
          omega
      rw [this] at heq
      rw [heq];rfl
    · simp only [bls] at hq
      have hsm:=gD_eq hq
      rw [hsm] at heq
      dsimp only at heq
      refine go_ix hxs i0 hil ?_
      refine ⟨_,e1,_,c_defines,fun hd=>?_,fun hd=>?_⟩
      · simp only [bls] at hd
        have hcn:¬ isCnt (nth b.steps i).op:=by unfold isCnt;omega
        rw [if_neg hcn] at heq
        have hti:InI (gD (stpT ds (rs.map sgOf) inner (nth b.steps i))):=by
          have:=stpT_nn h.sg hnn hsm
          exact ⟨by omega,by omega⟩
        refine St.build (α:=Int) (l:=[gD (stpT ds (rs.map sgOf) inner (nth b.steps i))]) hS (by (repeat' (first|exact VsOf.nil|apply VsOf.cons|(apply VOf.int;first|assumption|(constructor<;>first|omega|(simp only [lz] at *;omega)))|exact VOf.bool|exact VOf.str))) rfl (by decide) ?_
        intro z3 w2 I3 hO3 hS3 hs3
        refine ⟨_,rfl,?_⟩
        refine hO.append hS3 (hO3.src hS3) (by simp;omega) (by decide) ?_
        intro z4 w3 I4 hO4 hS4
        refine ⟨_,rfl,?_⟩
        refine go_wr (by omega) (by omega) ?_
        refine ⟨rfl,rfl,rfl,rfl,⟨I4,_,hO4,hS4.to,by omega,by omega,hnn.app fun t ht=>by rw [List.mem_singleton.1 ht];exact stpT_nn h.sg hnn hsm,heq,?_⟩,by omega⟩
        rw [List.length_append]
        simp only [List.length_singleton]
        omega
      · simp only [bls] at hd
        have hcn:isCnt (nth b.steps i).op:=by
          rcases stp_op hsm with h1|h1
          · omega
          · exact h1
        rw [if_pos hcn] at heq
        refine go_wr (by omega) (by omega) ?_
        exact ⟨rfl,rfl,rfl,rfl,⟨I,inner,hO,hS,by omega,by omega,hnn,heq,by omega⟩,by omega⟩
  · simp only [bls] at hc
    have hd0:b.steps.drop i.toNat=[]:=List.drop_eq_nil_of_le (by omega)
    rw [hd0,stpsT_nil] at heq
    rw [heq]
    dsimp only
    refine go_wr (by omega) (by omega) ?_
    refine ⟨_,c_inRange,fun hq=>⟨?_,hw⟩,fun hq=>?_⟩
    · simp only [bls] at hq
      rw [if_neg (by omega)];rfl
    · simp only [bls] at hq
      refine go_ix hz2 (by omega) (by omega) ?_
      refine ld_int hz2 (by omega) (by omega) ?_
      intro _ _
      refine ⟨?_,hw⟩
      rw [if_pos (by omega)];rfl
end
section
variable {α:Type} [Dat α] {v:World} {n:Int}
instance:SlT Tryz.prog 94 1 24 [.slice none 0 0]:=.of (by kernel_rfl) rfl (by decide)
theorem c_isCounting:Fn Tryz.prog 35 #[iV n] v (.bool ((decide (n≥14)) && (decide (n≤17)))):=by
  refine of35 _ _ _ ?_
  unfold vc35
  exact ⟨rfl,.refl v⟩
end
def TyR (n:Int) (q:Bool) (o:Option Int):Prop:=(q=true→o=some n)∧(q=false→o=none)
section

end
structure FunD where
  params:List Int
  result:Int
  body:ExprD
instance:Inhabited FunD:=⟨⟨[],0,default⟩⟩
noncomputable instance:DecidableEq FunD:=fun a b=>Classical.propDecidable _
instance:Dat FunD where
  sz:=5
  cells B w cs c:=∃ f k:Sl,cs=[f.val,intV c.result,intV c.body.op,intV c.body.num,k.val]∧InI c.result∧InI c.body.op∧InI c.body.num∧ReadB B w f c.params∧ReadB B w k c.body.kids
  mono:=fun hs ⟨f,k,h0,i,j,l,r,q⟩=>⟨f,k,h0,i,j,l,r.mono hs,q.mono hs⟩
  len:=fun ⟨f,k,h0,_⟩=>by rw [h0];rfl
  one:=fun ⟨f,k,h0,_⟩ v hv=>by
    rw [h0] at hv;simp only [List.mem_cons,List.not_mem_nil,or_false] at hv
    rcases hv with rfl|rfl|rfl|rfl|rfl<;>rfl
theorem Src.ofFunD {u w:World} {x:Sl} {l:List FunD} {i:Int} (hx:Src u w x l) (h0:0≤i) (h1:i < l.length):∃ f k:Sl,w.cell? ((elA x i 5).add 0)=some f.val∧w.cell? ((elA x i 5).add 1)=some (iV (nth l i).result)∧w.cell? ((elA x i 5).add 2)=some (iV (nth l i).body.op)∧w.cell? ((elA x i 5).add 3)=some (iV (nth l i).body.num)∧w.cell? ((elA x i 5).add 4)=some k.val∧
    InI (nth l i).result∧InI (nth l i).body.op∧InI (nth l i).body.num∧Read u f (nth l i).params∧Read u k (nth l i).body.kids:=by
  obtain ⟨r,⟨f,k,rfl,i1,i2,i3,r1,r2⟩,h5⟩:=hx.row h0 h1
  exact ⟨f,k,h5 0 _ rfl,h5 1 _ rfl,h5 2 _ rfl,h5 3 _ rfl,h5 4 _ rfl,i1,i2,i3,r1,r2⟩
section

end
def dLi:DeclD:=⟨0,0,[⟨[]⟩,⟨[0,1]⟩]⟩
def dAr:DeclD:=⟨0,0,[]⟩
def dTr:DeclD:=⟨0,0,[⟨[]⟩,⟨[3,0,3]⟩]⟩
def lastG:List DeclD:=[⟨0,0,[⟨[1,3]⟩]⟩,⟨1,0,[]⟩,⟨0,0,[⟨[1,1,0]⟩,⟨[0]⟩,⟨[3]⟩]⟩,⟨0,1,[]⟩]
def GD (ds:List DeclD):Prop:=ds=[dLi,dAr,dTr]∨∃ d∈lastG,ds=[dLi,dAr,dTr,d]
def sigsG:List (List Int×Int):=[([],0),([1],0),([1,1],1),([1],1),([1,0],1),([2,1],1),([1,1],0),([3],0),([0],1),([0,1],1),([3,0],3),([3],1),([1,3,0],0),([0],0),([0,0],0),([1,0],0)]
def GF (fs:List FunD):Prop:=1≤fs.length∧fs.length≤4∧∀ f∈fs,(f.params,f.result)∈sigsG
theorem GD.cases {ds:List DeclD} (h:GD ds):ds=[dLi,dAr,dTr]∨ds=[dLi,dAr,dTr,⟨0,0,[⟨[1,3]⟩]⟩]∨ds=[dLi,dAr,dTr,⟨1,0,[]⟩]∨ds=[dLi,dAr,dTr,⟨0,0,[⟨[1,1,0]⟩,⟨[0]⟩,⟨[3]⟩]⟩]∨ds=[dLi,dAr,dTr,⟨0,1,[]⟩]:=by
  rcases h with h|⟨d,hd,h⟩
  · exact .inl h
  · simp only [lastG,List.mem_cons,List.not_mem_nil,or_false] at hd
    rcases hd with rfl|rfl|rfl|rfl
    · exact .inr (.inl h)
    · exact .inr (.inr (.inl h))
    · exact .inr (.inr (.inr (.inl h)))
    · exact .inr (.inr (.inr (.inr h)))
theorem GD.len {ds:List DeclD} (h:GD ds):3≤ds.length∧ds.length≤4:=by
  rcases h.cases with rfl|rfl|rfl|rfl|rfl<;>exact ⟨by decide,by decide⟩
theorem GD.nth0 {ds:List DeclD} (h:GD ds):nth ds 0=dLi∧nth ds 1=dAr∧nth ds 2=dTr:=by
  rcases h.cases with rfl|rfl|rfl|rfl|rfl<;>exact ⟨rfl,rfl,rfl⟩
theorem int4 {i:Int} (h0:0≤i) (h1:i < 4):i=0∨i=1∨i=2∨i=3:=by omega
theorem GD.types {ds:List DeclD} (h:GD ds):typesOk ds:=by
  refine ⟨h.len.2,fun i h0 h1=>?_⟩
  rcases h.cases with rfl|rfl|rfl|rfl|rfl<;>rcases int4 h0 (by simp at h1;omega) with rfl|rfl|rfl|rfl<;>first
    | (simp at h1;done)
    | (unfold declOk
       first
       | (rw [if_pos (by decide)]
          refine ⟨by decide,rfl,rfl,?_⟩
          intro c hc
          simp [nth,dLi,dTr] at hc
          first
          | (rcases hc with rfl|rfl|rfl<;>exact ⟨by decide,by decide⟩)
          | (rcases hc with rfl|rfl<;>exact ⟨by decide,by decide⟩)
          | (rcases hc with rfl<;>exact ⟨by decide,by decide⟩))
       | (rw [if_neg (by decide)]
          refine ⟨?_,by decide,by decide⟩
          intro j j0 j1
          first
          | omega
          | (have hj:j=0∨j=1∨j=2:=by omega
             rcases hj with rfl|rfl|rfl<;>first|omega|decide)))
theorem GF.mem {fs:List FunD} (h:GF fs) {i:Int} (h0:0≤i) (h1:i < fs.length):((nth fs i).params,(nth fs i).result)∈sigsG:=h.2.2 _ (nth_mem h0 h1)
theorem sig_facts {p:List Int×Int} (h:p∈sigsG):p.1.length≤3∧(∀ t∈p.1,0≤t∧t≤3)∧0≤p.2∧p.2≤3∧(∀ t∈p.1.dropLast,t=0∨t=1∨t=3∨(p.1.getLast?=some 1∧p.2=1)):=by
  have:∀ q∈sigsG,q.1.length≤3∧(∀ t∈q.1,0≤t∧t≤3)∧0≤q.2∧q.2≤3∧(∀ t∈q.1.dropLast,t=0∨t=1∨t=3∨(q.1.getLast?=some 1∧q.2=1)):=by decide
  exact this p h
theorem GD.no11 {ds:List DeclD} (h:GD ds):arrI ds 1 1=-1:=by
  refine arrI_none fun j j0 j1=>?_
  have hl:=h.len.2
  unfold arrP
  rcases h.cases with rfl|rfl|rfl|rfl|rfl<;>rcases int4 j0 (by omega) with rfl|rfl|rfl|rfl<;>decide
theorem conF_at {ds:List DeclD} {t k:Int} (t0:1≤t) (t1:t≤ds.length) (k0:0≤k) (k1:k < (nth ds (t - 1)).cons.length):conF ds (firstC ds (t - 1).toNat+k)=(nth (nth ds (t - 1)).cons k).fields:=by
  have hs:conI ds (firstC ds (t - 1).toNat+k)=t - 1:=by
    refine conI_some (by omega) (by omega) ⟨by omega,by omega⟩ fun j j0 j1 hj=>?_
    have h1:=firstC_succ (ds:=ds) (i:=j) j0 (by omega)
    have h2:=firstC_mono (ds:=ds) (a:=(j+1).toNat) (b:=(t - 1).toNat) (by omega)
    obtain ⟨q1,q2⟩:=hj
    omega
  unfold conF
  rw [hs,if_neg (by omega)]
  congr 2
  omega
theorem consL_nth {ds:List DeclD} {t k:Int} (t0:1≤t) (t1:t≤ds.length) (k0:0≤k) (k1:k < (nth ds (t - 1)).cons.length):nth (consL ds t) k=firstC ds (t - 1).toNat+k:=by
  unfold consL
  rw [if_pos ⟨t0,t1⟩]
  refine nth_of ?_
  rw [List.getElem?_map,List.getElem?_range (by omega)]
  simp only [Option.map_some,Option.some.injEq]
  omega
theorem consL_length {ds:List DeclD} {t:Int} (t0:1≤t) (t1:t≤ds.length):(consL ds t).length=(nth ds (t - 1)).cons.length:=by
  unfold consL
  rw [if_pos ⟨t0,t1⟩]
  simp
theorem conF_nth {ds:List DeclD} {t k:Int} (t0:1≤t) (t1:t≤ds.length) (k0:0≤k) (k1:k < (nth ds (t - 1)).cons.length):conF ds (nth (consL ds t) k)=(nth (nth ds (t - 1)).cons k).fields:=by rw [consL_nth t0 t1 k0 k1,conF_at t0 t1 k0 k1]
theorem consL_none {ds:List DeclD} {t:Int} (h:¬ (1≤t∧t≤ds.length)):consL ds t=[]:=by
  unfold consL
  rw [if_neg h]
theorem consL_num {ds:List DeclD} (hd:typesOk ds) (t:Int):∀ c∈consL ds t,0≤c∧c < 13:=by
  intro c hc
  unfold consL at hc
  split at hc
  · rename_i ht
    obtain ⟨k,hk,rfl⟩:=List.mem_map.1 hc
    have h1:=hd.sm.fc (t - 1).toNat (by omega)
    have h2:=hd.sm.cons _ (nth_mem (l:=ds) (i:=t - 1) (by omega) (by omega))
    have h3:=firstC_le hd.sm.cons (t - 1).toNat
    have h4:=hd.1
    rw [List.mem_range] at hk
    omega
  · cases hc
theorem GD.low {ds:List DeclD} (h:GD ds) {t:Int} (ht:t=1∨t=3):(consL ds t).length=2∧conF ds (nth (consL ds t) 0)=[]∧t∈conF ds (nth (consL ds t) 1):=by
  obtain ⟨e0,e1,e2⟩:=h.nth0
  have hl:=h.len.1
  rcases ht with rfl|rfl
  · have e:nth ds (1 - 1)=dLi:=e0
    refine ⟨by rw [consL_length (by omega) (by omega),e];rfl,?_,?_⟩
    · rw [conF_nth (by omega) (by omega) (by omega) (by rw [e];decide),e];rfl
    · rw [conF_nth (by omega) (by omega) (by omega) (by rw [e];decide),e];decide
  · have e:nth ds (3 - 1)=dTr:=e2
    refine ⟨by rw [consL_length (by omega) (by omega),e];rfl,?_,?_⟩
    · rw [conF_nth (by omega) (by omega) (by omega) (by rw [e];decide),e];rfl
    · rw [conF_nth (by omega) (by omega) (by omega) (by rw [e];decide),e];decide
def lowT (t:Int):Prop:=t=0∨t=1∨t=3
theorem GD.high {ds:List DeclD} (h:GD ds) {t c:Int} (ht:¬ lowT t) (hc:c∈consL ds t):∀ p∈conF ds c,lowT p:=by
  have hl:=h.len
  by_cases h4:1≤t∧t≤ds.length
  · obtain ⟨k,hk,rfl⟩:=List.getElem_of_mem hc
    have hk':(k:Int) < (nth ds (t - 1)).cons.length:=by rw [←consL_length h4.1 h4.2];omega
    have e:=conF_nth h4.1 h4.2 (k:=k) (by omega) hk'
    rw [nth_of (a:=(consL ds t)[k]) (by simp [List.getElem?_eq_getElem hk])] at e
    rw [e]
    unfold lowT at ht
    have:t=2∨t=4:=by omega
    rcases this with rfl|rfl
    · have e1:nth ds (2 - 1)=dAr:=h.nth0.2.1
      rw [e1] at hk'
      simp [dAr] at hk'
      omega
    · rcases h.cases with rfl|rfl|rfl|rfl|rfl
      · simp at h4
      · have hk2:(k:Int) < 1:=hk'
        have:k=0:=by omega
        subst this
        intro p hp
        simp [nth] at hp
        unfold lowT;omega
      · have hk2:(k:Int) < 0:=hk'
        omega
      · have hk2:(k:Int) < 3:=hk'
        have:k=0∨k=1∨k=2:=by omega
        rcases this with rfl|rfl|rfl<;>intro p hp<;>simp [nth] at hp<;>unfold lowT<;>omega
      · have hk2:(k:Int) < 0:=hk'
        omega
  · rw [consL_none h4] at hc
    cases hc
def clos1 (ds:List DeclD) (f:FunD) (t:Int):Prop:=0 < f.params.length∧arrI ds (nth f.params ((f.params.length:Int) - 1)) f.result=t
theorem last_nth {l:List Int} {x:Int} (h:l.getLast?=some x):nth l ((l.length:Int) - 1)=x:=by
  refine nth_of ?_
  rw [List.getLast?_eq_getElem?] at h
  rwa [show ((l.length:Int) - 1).toNat=l.length - 1 from by omega]
theorem clos_low {ds:List DeclD} {f:FunD} {t:Int} (hd:GD ds) (hf:(f.params,f.result)∈sigsG) (ht:0 < t) (hc:clos1 ds f t) {i:Int} (h0:0≤i) (h1:i+1 < f.params.length):lowT (nth f.params i):=by
  have h2:=(sig_facts hf).2.2.2.2 (nth f.params i) (by
    have:i.toNat < f.params.dropLast.length:=by simp;omega
    rw [nth_of (a:=f.params[i.toNat]'(by omega)) (by simp [List.getElem?_eq_getElem (show i.toNat < f.params.length by omega)])]
    rw [List.mem_iff_getElem]
    exact ⟨i.toNat,this,by rw [List.getElem_dropLast]⟩)
  rcases h2 with h2|h2|h2|⟨h2,h3⟩
  · exact .inl h2
  · exact .inr (.inl h2)
  · exact .inr (.inr h2)
  · exfalso
    have h4:=hc.2
    have h3:f.result=1:=h3
    rw [last_nth h2,h3,hd.no11] at h4
    omega
def kp (ks:List (Nat→Prop)) (i:Nat):Nat→Prop:=ks.getD i fun _=>False
def scN (ds:List DeclD) (nf op num:Int) (ks:List (Nat→Prop)) (V:Nat):Prop:=
  if op=12 then 0≤num∧num < V
  else if op=13 then ks.length=2∧kp ks 0 V∧kp ks 1 (V+1)
  else if op=8 then ks.length=1+(consL ds num).length∧kp ks 0 V∧∀ i:Nat,i < (consL ds num).length→kp ks (i+1) (V+(conF ds (nth (consL ds num) i)).length)
  else (op=7→1≤ks.length)∧(op=9∨op=10→0≤num∧num < nf)∧∀ k∈ks,k V
mutual
def scX (ds:List DeclD) (nf:Int):ExprD→Nat→Prop
  | ⟨op,num,kids⟩=>scN ds nf op num (scK ds nf kids)
def scK (ds:List DeclD) (nf:Int):List ExprD→List (Nat→Prop)
  | []=>[]
  | k ::r=>scX ds nf k ::scK ds nf r
end
structure CxE where
  ds:List DeclD
  nf:Int
  V:Nat
def CxE.more (C:CxE) (n:Nat):CxE:=⟨C.ds,C.nf,C.V+n⟩
def cE (C:CxE) (e:ExprD):Prop:=canE e=true∧scX C.ds C.nf e C.V
def cL (C:CxE) (ks:List ExprD):Prop:=canL ks=true∧∀ k∈ks,scX C.ds C.nf k C.V
def okS (C:CxE) (op num:Int) (n:Nat):Prop:=okN op num n=true∧op≠12∧op≠13∧op≠8∧(op=7→1≤n)∧(op=9∨op=10→0≤num∧num < C.nf)
section
variable {ds:List DeclD} {nf op num n:Int} {C:CxE} {e k k0 k1:ExprD} {ks:List ExprD} {V:Nat}
theorem scK_map:∀ l:List ExprD,scK ds nf l=l.map (scX ds nf)
  | []=>by rw [scK];rfl
  | k ::r=>by rw [scK,scK_map r];rfl
theorem scX_eq:scX ds nf e=scN ds nf e.op e.num (e.kids.map (scX ds nf)):=by
  cases e
  rw [scX,scK_map]
  rfl
theorem kp_map {i:Nat} (h:ks[i]?=some k):kp (ks.map (scX ds nf)) i=scX ds nf k:=by
  unfold kp List.getD
  rw [List.getElem?_map,h]
  rfl
theorem kp_some {i:Nat} (h:kp (ks.map (scX ds nf)) i V):∃ k,ks[i]?=some k∧scX ds nf k V:=by
  unfold kp List.getD at h
  rw [List.getElem?_map] at h
  cases hk:ks[i]? with
  | none=>rw [hk] at h;exact h.elim
  | some k=>rw [hk] at h;exact ⟨k,rfl,h⟩
theorem cL_nil:cL C []:=⟨canL_nil,fun k hk=>by cases hk⟩
theorem cL_cons (h:cE C e) (hs:cL C ks):cL C (e ::ks):=⟨by rw [canL_cons,h.1,hs.1];rfl,fun k hk=>by
  rcases List.mem_cons.1 hk with rfl|hk
  · exact h.2
  · exact hs.2 k hk⟩
theorem canL_snoc' (h:canL ks=true) (he:canE e=true):canL (ks++[e])=true:=by rw [canL_app,h,canL_cons,canL_nil,he];rfl
theorem cL_snoc (hs:cL C ks) (h:cE C e):cL C (ks++[e]):=⟨canL_snoc' hs.1 h.1,fun k hk=>by
  rcases List.mem_append.1 hk with hk|hk
  · exact hs.2 k hk
  · rw [List.mem_singleton.1 hk];exact h.2⟩
theorem cE.node (hs:cL C ks) (h:okS C op num ks.length):cE C ⟨op,num,ks⟩:=by
  refine ⟨by rw [canE_eq];show (okN op num ks.length && canL ks)=true;rw [h.1,hs.1];rfl,?_⟩
  rw [scX_eq]
  show scN C.ds C.nf op num (ks.map (scX C.ds C.nf)) C.V
  unfold scN
  rw [if_neg h.2.1,if_neg h.2.2.1,if_neg h.2.2.2.1]
  refine ⟨fun ho=>by rw [List.length_map];exact h.2.2.2.2.1 ho,h.2.2.2.2.2,fun p hp=>?_⟩
  obtain ⟨k,hk,rfl⟩:=List.mem_map.1 hp
  exact hs.2 k hk
theorem cE.let_ (h0:cE C k0) (h1:cE (C.more 1) k1):cE C ⟨13,0,[k0,k1]⟩:=by
  refine ⟨by rw [canE_eq];show (okN 13 0 2 && canL [k0,k1])=true;rw [canL_cons,canL_cons,canL_nil,h0.1,h1.1];rfl,?_⟩
  rw [scX_eq]
  show scN C.ds C.nf 13 0 ([k0,k1].map (scX C.ds C.nf)) C.V
  unfold scN
  rw [if_neg (by decide),if_pos rfl]
  exact ⟨rfl,h0.2,h1.2⟩
theorem cE.var (h0:0≤n) (h1:n < C.V) (h2:n≤99):cE C ⟨12,n,[]⟩:=by
  refine ⟨?_,?_⟩
  · rw [canE_eq]
    show (okN 12 n 0 && canL [])=true
    rw [canL_nil,Bool.and_true,okN_iff]
    exact .inr (.inl ⟨rfl,rfl,h0,h2⟩)
  · rw [scX_eq]
    show scN C.ds C.nf 12 n _ C.V
    unfold scN
    rw [if_pos rfl]
    exact ⟨h0,h1⟩
def armC (C:CxE) (d:Int) (ks:List ExprD):Prop:=canL ks=true∧∀ i:Nat,i < ks.length→∃ k,ks[i]?=some k∧scX C.ds C.nf k (C.V+(conF C.ds (nth (consL C.ds d) i)).length)
theorem armC_nil {d:Int}:armC C d []:=⟨canL_nil,fun i hi=>by cases hi⟩
theorem armC_snoc {d:Int} (h:armC C d ks) (he:cE (C.more (conF C.ds (nth (consL C.ds d) (ks.length:Nat))).length) e):armC C d (ks++[e]):=by
  refine ⟨canL_snoc' h.1 he.1,fun i hi=>?_⟩
  rw [List.length_append,List.length_singleton] at hi
  by_cases hl:i < ks.length
  · obtain ⟨k,h1,h2⟩:=h.2 i hl
    exact ⟨k,by rw [List.getElem?_append_left hl];exact h1,h2⟩
  · have e1:i=ks.length:=by omega
    subst e1
    exact ⟨e,by rw [List.getElem?_append_right (Nat.le_refl _),Nat.sub_self];rfl,he.2⟩
theorem cE.match_ {d:Int} (hd0:0≤d) (hd:d < 13) (h0:cE C k0) (h:armC C d ks) (hl:ks.length=(consL C.ds d).length):cE C ⟨8,d,k0 ::ks⟩:=by
  refine ⟨?_,?_⟩
  · rw [canE_eq]
    show (okN 8 d (k0 ::ks).length && canL (k0 ::ks))=true
    rw [canL_cons,h0.1,h.1,Bool.and_true,Bool.and_true,okN_iff]
    omega
  · rw [scX_eq]
    show scN C.ds C.nf 8 d ((k0 ::ks).map (scX C.ds C.nf)) C.V
    unfold scN
    rw [if_neg (by decide),if_neg (by decide),if_pos rfl]
    refine ⟨by simp;omega,h0.2,fun i hi=>?_⟩
    obtain ⟨k,h1,h2⟩:=h.2 i (by omega)
    rw [kp_map (k:=k) (by simpa using h1)]
    exact h2
theorem scX_more (e:ExprD):∀ V W:Nat,V≤W→scX ds nf e V→scX ds nf e W:=by
  refine ex_ind (P:=fun e=>∀ V W:Nat,V≤W→scX ds nf e V→scX ds nf e W) (fun e H V W hVW h=>?_) e
  rw [scX_eq] at h ⊢
  have kpm:∀ (i:Nat) (V W:Nat),V≤W→kp (e.kids.map (scX ds nf)) i V→kp (e.kids.map (scX ds nf)) i W:=by
    intro i V W hVW h
    obtain ⟨k,hk,hs⟩:=kp_some h
    rw [kp_map hk]
    exact H k (List.mem_of_getElem? hk) V W hVW hs
  unfold scN at h ⊢
  by_cases o12:e.op=12
  · rw [if_pos o12] at h ⊢
    omega
  rw [if_neg o12] at h ⊢
  by_cases o13:e.op=13
  · rw [if_pos o13] at h ⊢
    exact ⟨h.1,kpm _ _ _ hVW h.2.1,kpm _ _ _ (by omega) h.2.2⟩
  rw [if_neg o13] at h ⊢
  by_cases o8:e.op=8
  · rw [if_pos o8] at h ⊢
    exact ⟨h.1,kpm _ _ _ hVW h.2.1,fun i hi=>kpm _ _ _ (by omega) (h.2.2 i hi)⟩
  rw [if_neg o8] at h ⊢
  refine ⟨h.1,h.2.1,fun p hp=>?_⟩
  obtain ⟨k,hk,rfl⟩:=List.mem_map.1 hp
  exact H k hk V W hVW (h.2.2 _ hp)
theorem cE.le {C':CxE} (h:cE C e) (h1:C.ds=C'.ds) (h2:C.nf=C'.nf) (h3:C.V≤C'.V):cE C' e:=⟨h.1,by rw [←h1,←h2];exact scX_more e _ _ h3 h.2⟩
end
def PlA (ds:List DeclD) (nf:Int) (m:Nat) (s:StepD):Prop:=
  s.args.length≤5000∧s.kids.length≤5000∧0≤s.op∧s.op≤11∧(∀ a∈s.args,0≤a∧a < m)∧(s.op=9→0≤s.num∧s.num < nf)∧(s.op=8→1≤s.args.length∧s.kids.length≤(consL ds s.num).length)
noncomputable def armV (ds:List DeclD) (s:StepD) (m i:Nat):Nat:=if s.op=8 then m+(conF ds (nth (consL ds s.num) (i:Int))).length else m
def PlL (ds:List DeclD) (nf:Int):Nat→Nat→List StepD→Prop
  | _,_,[]=>True
  | 0,_,_ ::_=>False
  | d+1,m,s ::r=>PlA ds nf m s∧(∀ i:Nat,∀ k:BlockD,s.kids[i]?=some k→PlL ds nf d (armV ds s m i) k.steps∧0≤k.result∧k.result < ((armV ds s m i+k.steps.length:Nat):Int))∧PlL ds nf d (m+1) r
def PlB (ds:List DeclD) (nf:Int) (d m:Nat) (b:BlockD):Prop:=PlL ds nf d m b.steps∧0≤b.result∧b.result < ((m+b.steps.length:Nat):Int)
def ShA (ds:List DeclD) (s:StepD):Prop:=
  s.args.length≤5000∧s.kids.length≤5000∧(14≤s.op→s.op≤17→1≤s.args.length)∧(s.op=8→1≤s.args.length∧s.kids.length≤(consL ds s.num).length)
def ShB (ds:List DeclD) (N:Nat):Nat→BlockD→Prop
  | 0,_=>False
  | d+1,b=>b.steps.length≤N∧∀ s∈b.steps,ShA ds s∧∀ k∈s.kids,ShB ds N d k
def ShS (ds:List DeclD) (N d:Nat) (s:StepD):Prop:=ShA ds s∧∀ k∈s.kids,ShB ds N d k
section
variable {ds:List DeclD} {nf:Int} {N N' d d' m:Nat} {s:StepD} {b:BlockD} {l l1 l2:List StepD}
theorem PlL.nil:PlL ds nf d m []:=by cases d<;>exact trivial
theorem PlL.cons:PlL ds nf (d+1) m (s ::l)↔PlA ds nf m s∧(∀ i:Nat,∀ k:BlockD,s.kids[i]?=some k→PlB ds nf d (armV ds s m i) k)∧PlL ds nf d (m+1) l:=Iff.rfl
theorem PlL.le:∀ {d d' m:Nat} {l:List StepD},PlL ds nf d m l→d≤d'→PlL ds nf d' m l
  | 0,d',m,[],_,_=>.nil
  | 0,d',m,s ::r,h,_=>h.elim
  | d+1,d',m,[],_,_=>.nil
  | d+1,0,m,s ::r,h,hd=>by omega
  | d+1,d'+1,m,s ::r,h,hd=>by
    rw [PlL.cons] at h ⊢
    exact ⟨h.1,fun i k hk=>⟨PlL.le (h.2.1 i k hk).1 (by omega),(h.2.1 i k hk).2⟩,PlL.le h.2.2 (by omega)⟩
theorem PlB.le (h:PlB ds nf d m b) (hd:d≤d'):PlB ds nf d' m b:=⟨h.1.le hd,h.2⟩
theorem PlL.len:∀ {d m:Nat} {l:List StepD},PlL ds nf d m l→l.length≤d
  | _,_,[],_=>Nat.zero_le _
  | 0,m,s ::r,h=>h.elim
  | d+1,m,s ::r,h=>by
    have:=PlL.len (PlL.cons.1 h).2.2
    simp
    exact this
theorem PlL.app:∀ {d1 d2 m:Nat} {l1 l2:List StepD},PlL ds nf d1 m l1→PlL ds nf d2 (m+l1.length) l2→PlL ds nf (d1+d2) m (l1++l2)
  | d1,d2,m,[],l2,_,h=>PlL.le (by simpa using h) (by omega)
  | 0,d2,m,s ::r,l2,h,_=>h.elim
  | d+1,d2,m,s ::r,l2,h1,h2=>by
    rw [PlL.cons] at h1
    have h2':PlL ds nf d2 (m+1+r.length) l2:=by
      rw [show m+1+r.length=m+(s ::r).length by simp;omega]
      exact h2
    have h3:=PlL.app h1.2.2 h2'
    show PlL ds nf (d+1+d2) m (s ::(r++l2))
    rw [show d+1+d2=(d+d2)+1 by omega,PlL.cons]
    exact ⟨h1.1,fun i k hk=>(h1.2.1 i k hk).le (by omega),h3⟩
theorem PlL.one (h:PlA ds nf m s) (hk:∀ i:Nat,∀ k:BlockD,s.kids[i]?=some k→PlB ds nf d (armV ds s m i) k):PlL ds nf (d+1) m [s]:=PlL.cons.2 ⟨h,hk,.nil⟩
theorem PlL.drop:∀ {d m:Nat} {l:List StepD} (i:Nat),PlL ds nf d m l→i≤l.length→PlL ds nf (d - i) (m+i) (l.drop i)
  | d,m,l,0,h,_=>h
  | d,m,[],i+1,_,hi=>by simp at hi
  | 0,m,s ::r,i+1,h,_=>h.elim
  | d+1,m,s ::r,i+1,h,hi=>by
    have h2:=PlL.drop i (PlL.cons.1 h).2.2 (by simpa using hi)
    show PlL ds nf (d+1 - (i+1)) (m+(i+1)) (r.drop i)
    rw [show d+1 - (i+1)=d - i by omega,show m+(i+1)=m+1+i by omega]
    exact h2
theorem PlL.at {i:Int} (h:PlL ds nf d m l) (h0:0≤i) (h1:i < l.length):∃ e:Nat,d=e+1+i.toNat∧PlA ds nf (m+i.toNat) (nth l i)∧∀ j:Nat,∀ k:BlockD,(nth l i).kids[j]?=some k→PlB ds nf e (armV ds (nth l i) (m+i.toNat) j) k:=by
  have hi:i.toNat < l.length:=by omega
  have h2:=h.drop i.toNat (by omega)
  have hn:=h.len
  rw [List.drop_eq_getElem_cons hi] at h2
  rw [show nth l i=l[i.toNat] from nth_of (List.getElem?_eq_getElem hi)]
  obtain ⟨e,he⟩:∃ e:Nat,d - i.toNat=e+1:=⟨d - i.toNat - 1,by omega⟩
  rw [he,PlL.cons] at h2
  exact ⟨e,by omega,h2.1,h2.2.1⟩
theorem ShB.le:∀ {d d':Nat} {b:BlockD},ShB ds N d b→N≤N'→d≤d'→ShB ds N' d' b
  | 0,_,b,h,_,_=>h.elim
  | d+1,0,b,h,_,hd=>by omega
  | d+1,d'+1,b,h,hN,hd=>⟨Nat.le_trans h.1 hN,fun s hs=>⟨(h.2 s hs).1,fun k hk=>ShB.le ((h.2 s hs).2 k hk) hN (by omega)⟩⟩
theorem ShS.le (h:ShS ds N d s) (hN:N≤N') (hd:d≤d'):ShS ds N' d' s:=⟨h.1,fun k hk=>(h.2 k hk).le hN hd⟩
theorem ShB.pos (h:ShB ds N d b):∃ e,d=e+1:=by cases d with
  | zero=>exact h.elim
  | succ e=>exact ⟨e,rfl⟩
theorem ShB.len (h:ShB ds N d b):b.steps.length≤N:=by
  obtain ⟨e,rfl⟩:=h.pos
  exact h.1
end
def Asc (n:Int) (l:List Int):Prop:=l.Pairwise (· < ·)∧∀ x∈l,0≤x∧x < n
theorem Asc.nil {n:Int}:Asc n []:=⟨.nil,fun x hx=>by cases hx⟩
theorem Asc.len:∀ {l:List Int} {n:Int},0≤n→Asc n l→(l.length:Int)≤n:=by
  have key:∀ (l:List Int) (lo n:Int),lo≤n→l.Pairwise (· < ·)→(∀ x∈l,lo≤x∧x < n)→(l.length:Int)≤n - lo:=by
    intro l
    induction l with
    | nil=>intro lo n h _ _;simp;omega
    | cons a r ih=>
      intro lo n h hp hb
      have ha:=hb a List.mem_cons_self
      have:=ih (a+1) n (by omega) (List.pairwise_cons.1 hp).2 fun x hx=>⟨by have:=(List.pairwise_cons.1 hp).1 x hx;omega,(hb x (List.mem_cons_of_mem _ hx)).2⟩
      simp
      omega
  intro l n hn h
  have:=key l 0 n hn h.1 h.2
  omega
structure PrgG (u:World) (R:Items) (x y:Sl) (ds:List DeclD) (fs:List FunD):Prop where
  gd:GD ds
  gf:GF fs
  rx:Read u x ds
  ry:∀ (u' w':World) (I':Items),Sub u u'→St u' w' (I'++R)→Src u' w' y fs
def GS (u:World) (a:Addr) (R:Items) (m:Int) (w:World):Prop:=∃ I,Rdr u a m I∧St u w (I++R)
def EV (C:CxE) (u:World) (N:Int) (n1 n2:Int) (x:Sl):Prop:=∃ e:ExprD,n1=e.op∧n2=e.num∧Read u x e.kids∧cE C e∧(nodesE e:Int)≤N
def GQ (C:CxE) (u:World) (a:Addr) (R:Items) (m N:Int) (n1 n2:Int) (x:Sl) (w:World):Prop:=∃ u',Sub u u'∧GS u' a R m w∧EV C u' N n1 n2 x
def Pg (b:Int):Int:=if b≤0 then 30 else 130 * b - 100
section
variable {C:CxE} {u u' v w:World} {x y z s:Sl} {ds:List DeclD} {fs:List FunD} {a:Addr} {I J R:Items} {m m' N N' n n1 n2 op num t:Int} {l vars:List Int} {ks:List ExprD} {e:ExprD}
theorem PrgG.mono (h:PrgG u R x y ds fs) (hs:Sub u u'):PrgG u' R x y ds fs:=⟨h.gd,h.gf,h.rx.mono hs,fun u2 w2 I2 h1=>h.ry u2 w2 I2 (hs.trans h1)⟩
theorem PrgG.app (h:PrgG u R x y ds fs) (J:Items):PrgG u (J++R) x y ds fs:=⟨h.gd,h.gf,h.rx,fun u2 w2 I2 h1 h2=>h.ry u2 w2 (I2++J) h1 (by rw [List.append_assoc];exact h2)⟩
theorem Src.rd {α:Type} [Dat α] {l:List α} (h:Src u w y l) (hs:Sub u w):Read w y l:=let ⟨rows,h1,h2,h3⟩:=h;⟨rows,h1,h2.mono hs,h3⟩
theorem GS.sub (h:GS u a R m w):Sub u w:=let ⟨_,_,h2⟩:=h;h2.sub
theorem GS.le (h:GS u a R m w) (hm:m≤m'):GS u a R m' w:=let ⟨I,h1,h2⟩:=h;⟨I,h1.le hm,h2⟩
theorem PrgG.fsr (hp:PrgG u R x y ds fs) (h:GS u a R m w):Read w y fs:=let ⟨I,_,h2⟩:=h;(hp.ry u w I (.refl u) h2).rd h2.sub
theorem PrgG.src (hp:PrgG u R x y ds fs) (h:GS u a R m w):Src u w y fs:=let ⟨I,_,h2⟩:=h;hp.ry u w I (.refl u) h2
def VrG (u:World) (R:Items) (z:Sl) (vars:List Int):Prop:=∀ (u' w':World) (I':Items),Sub u u'→St u' w' (I'++R)→Src u' w' z vars
theorem VrG.of (h:Read u z vars):VrG u R z vars:=fun u' w' I' hs hS=>(h.mono hs).src hS.sub
theorem VrG.mono (h:VrG u R z vars) (hs:Sub u u'):VrG u' R z vars:=fun u2 w2 I2 h1=>h u2 w2 I2 (hs.trans h1)
theorem VrG.app (h:VrG u R z vars) (J:Items):VrG u (J++R) z vars:=fun u2 w2 I2 h1 h2=>h u2 w2 (I2++J) h1 (by rw [List.append_assoc];exact h2)
theorem VrG.rd (hv:VrG u R z vars) (h:GS u a R m w):Read w z vars:=let ⟨I,_,h2⟩:=h;(hv u w I (.refl u) h2).rd h2.sub
theorem EV.mono (h:EV C u N n1 n2 x) (hs:Sub u u'):EV C u' N n1 n2 x:=let ⟨e,h1,h2,h3,h4⟩:=h;⟨e,h1,h2,h3.mono hs,h4⟩
theorem EV.le (h:EV C u N n1 n2 x) (hs:N≤N'):EV C u N' n1 n2 x:=let ⟨e,h1,h2,h3,h4,h5⟩:=h;⟨e,h1,h2,h3,h4,by omega⟩
theorem GQ.le (h:GQ C u' a R m N n1 n2 x w) (hs:Sub u u') (hm:m≤m') (hN:N≤N'):GQ C u a R m' N' n1 n2 x w:=let ⟨u2,h1,h2,h3⟩:=h;⟨u2,hs.trans h1,h2.le hm,h3.le hN⟩
theorem can_in (h:canE e=true):InI e.op∧InI e.num:=by
  rw [canE_eq,Bool.and_eq_true,okN_iff] at h
  exact ⟨⟨by omega,by omega⟩,⟨by omega,by omega⟩⟩
theorem vof (r:Read u x e.kids) (c:canE e=true):VOf u (.agg #[iV e.op,iV e.num,x.val]) e:=
  ⟨rfl,expr_cells.2 ⟨x,rfl,(can_in c).1,(can_in c).2,r⟩⟩
theorem EV.of (hx:Read u x ks) (hc:cE C ⟨op,num,ks⟩) (hN:1+(nodesL ks:Int)≤N):EV C u N op num x:=
  ⟨⟨op,num,ks⟩,rfl,rfl,hx,hc,by rw [nodesE_eq];show ((1+nodesL ks:Nat):Int)≤N;omega⟩
theorem EV.mk (hx:Read u x ks) (hc:cL C ks) (hok:okS C op num ks.length) (hN:1+(nodesL ks:Int)≤N):EV C u N op num x:=EV.of hx (cE.node hc hok) hN
theorem GS.freeze (h:GS u a (J++R) m w):∃ u',Sub u u'∧GS u' a R m w∧St u u' J:=by
  obtain ⟨I,h1,h2⟩:=h
  obtain ⟨u2,hu,hS,hJ⟩:=h2.freeze J
  exact ⟨u2,hu,⟨I,h1.mono hu,hS⟩,hJ⟩
theorem gs_pick (h:GS u a R m w) (hm:m≤1000000000) (hn1:-1000000000000≤n) (hn:n≤1000000000000) {K:Int→World→Prop}
    (k:∀ j w',GS u a R (m+1) w'→0≤j→(1≤n→j < n)→(n < 1→j=0)→K j w'):
    Trip Tryz.prog 27 #[(pt a),iV n] w fun r w'=>∃ j,r=iV j∧K j w':=by
  obtain ⟨I,h1,h2⟩:=h
  refine (c_pick h1 h2 hm hn1 hn).mono' ?_
  rintro _ w' ⟨j,I',rfl,h3,h4,h5,h6,h7⟩
  exact ⟨j,rfl,k j w' ⟨I',h3,h4⟩ h5 h6 h7⟩
theorem gs_ints {c:Nat} {ps:Array (Nat×Value)} (h:GS u a R m w) (hv:VsOf (α:=Int) u (ps.toList.map (·.2)) l) (hi:ps.toList.map (·.1)=List.range c) (hsz:c * Dat.sz Int≤16777216) {K:Sl→World→Prop}
    (k:∀ x w' u',Sub u u'→Sub w w'→GS u' a R m w'→Read u' x l→K x w'):StepT Tryz.prog (Instr.buildSlice 28 c ps) w fun r w'=>∃ x,r=x.val∧K x w':=by
  obtain ⟨I,h1,h2⟩:=h
  refine St.build (α:=Int) h2 hv hi hsz fun x w' J hO hS hs=>⟨x,rfl,?_⟩
  obtain ⟨u2,hu,hS2,hJ⟩:=hS.freeze J
  exact k x w' u2 hu hs ⟨I,h1.mono hu,hS2⟩ (hO.read1 hJ)
theorem gs_kids {c:Nat} {ps:Array (Nat×Value)} (h:GS u a R m w) (hv:VsOf (α:=ExprD) u (ps.toList.map (·.2)) ks) (hi:ps.toList.map (·.1)=List.range c) (hsz:c * Dat.sz ExprD≤16777216) {K:Sl→World→Prop}
    (k:∀ x w' u',Sub u u'→Sub w w'→GS u' a R m w'→Read u' x ks→K x w'):StepT Tryz.prog (Instr.buildSlice 84 c ps) w fun r w'=>∃ x,r=x.val∧K x w':=by
  obtain ⟨I,h1,h2⟩:=h
  refine St.build (α:=ExprD) h2 hv hi hsz fun x w' J hO hS hs=>⟨x,rfl,?_⟩
  obtain ⟨u2,hu,hS2,hJ⟩:=hS.freeze J
  exact k x w' u2 hu hs ⟨I,h1.mono hu,hS2⟩ (hO.read1 hJ)
theorem gs_kids0 (h:GS u a R m w) {K:Sl→World→Prop} (k:∀ x w' J,GS u a (J++R) m w'→Sub w w'→Own u x ([]:List ExprD) J→K x w'):StepT Tryz.prog (Instr.buildSlice 84 0 #[]) w fun r w'=>∃ x,r=x.val∧K x w':=by
  obtain ⟨I,h1,h2⟩:=h
  refine St.build (α:=ExprD) (l:=[]) h2 VsOf.nil rfl (by decide) fun x w' J hO hS hs=>⟨x,rfl,k x w' J ⟨I,h1,hS.to⟩ hs hO⟩
theorem gs_push (h:GS u a (J++R) m w) (hO:Own u x ks J) (r:Read u s e.kids) (c:cE C e) (hb:ks.length+1≤1000000) {K:Sl→World→Prop} (k:∀ x' w' J',GS u a (J'++R) m w'→Own u x' (ks++[e]) J'→K x' w'):
    StepT Tryz.prog (Instr.buildSlice 84 1 #[(0,(.agg #[iV e.op,iV e.num,s.val]))]) w fun r1 w1=>∃ z:Sl,r1=z.val∧StepT Tryz.prog (Builtin.append_ #[84,84] 84 #[(x.val),(z.val)]) w1 fun r2 w2=>∃ x':Sl,r2=x'.val∧K x' w2:=by
  obtain ⟨I,h1,h2⟩:=h
  refine St.build (α:=ExprD) h2 (VsOf.cons (vof r c.1) VsOf.nil) rfl (by decide) fun z w1 J1 hO1 hS hs=>⟨z,rfl,?_⟩
  refine Own.append hO hS (Own.src hO1 hS) (by simp only [List.length_cons,List.length_nil];omega) (by decide) fun x' w2 J2 hO2 hS2=>⟨x',rfl,k x' w2 J2 ⟨I,h1,hS2.to⟩ hO2⟩
theorem gs_one (h:GS u a R m w) (hx:Read u x l) (hm:m≤1000000000) (hl:0 < l.length) (hl2:l.length≤1000000) {K:Int→World→Prop} (k:∀ j w',GS u a R (m+1) w'→j∈l→K j w'):
    Trip Tryz.prog 20 #[(pt a),x.val] w fun r w'=>∃ j,r=iV j∧K j w':=by
  refine of20 _ _ _ _ ?_
  unfold vc20
  have hn:=hx.n
  refine gs_pick (n:=x.n) h hm (by omega) (by omega) fun j w' h' h0 h1 h2=>?_
  refine go_ix hx h0 (by omega) ?_
  refine ld_int (hx.mono h'.sub) h0 (by omega) ?_
  intro b0 b1
  exact ⟨_,rfl,k _ w' h' (nth_mem h0 (by omega))⟩
theorem gs_node {op num:Int} {K:Int→Int→Sl→World→Prop} (k:K op num x w):Trip Tryz.prog 102 #[iV op,iV num,x.val] w fun r w'=>∃ n1 n2 x',r=.agg #[iV n1,iV n2,x'.val]∧K n1 n2 x' w':=by
  refine of102 _ _ _ _ _ ?_
  unfold vc102
  exact ⟨op,num,x,rfl,k⟩
theorem gs_var (h:GS u a R m w) (h0:0≤n) (h1:n≤99) (hV:n < C.V) {K:Int→Int→Sl→World→Prop} (k:∀ n1 n2 x w' u',Sub u u'→Sub w w'→GS u' a R m w'→EV C u' 1 n1 n2 x→K n1 n2 x w'):
    Trip Tryz.prog 104 #[iV n] w fun r w'=>∃ n1 n2 x,r=.agg #[iV n1,iV n2,x.val]∧K n1 n2 x w':=by
  refine of104 _ _ _ ?_
  unfold vc104
  refine gs_kids h VsOf.nil rfl (by decide) fun x w' u' hu hs h' hx=>⟨_,_,_,rfl,k _ _ _ w' u' hu hs h' (EV.of hx (cE.var h0 hV h1) (by rw [nodesL_nil];omega))⟩
theorem gs_int (h:GS u a R m w) (h0:-999≤n) (h1:n≤999) {K:Int→Int→Sl→World→Prop} (k:∀ n1 n2 x w' u',Sub u u'→Sub w w'→GS u' a R m w'→EV C u' 1 n1 n2 x→K n1 n2 x w'):
    Trip Tryz.prog 75 #[iV n] w fun r w'=>∃ n1 n2 x,r=.agg #[iV n1,iV n2,x.val]∧K n1 n2 x w':=by
  refine of75 _ _ _ ?_
  unfold vc75
  refine gs_kids h VsOf.nil rfl (by decide) fun x w' u' hu hs h' hx=>⟨_,_,_,rfl,k _ _ _ w' u' hu hs h' (EV.mk hx cL_nil ⟨?_,by decide,by decide,by decide,by omega,by omega⟩ (by rw [nodesL_nil];omega))⟩
  rw [okN_iff]
  refine .inl ⟨rfl,rfl,h0,h1⟩
theorem gs_someInt (h:GS u a R m w) (hm:m≤999999000) {K:Int→World→Prop} (k:∀ j w' u',Sub u u'→GS u' a R (m+4) w'→-999≤j→j≤999→K j w'):
    Trip Tryz.prog 139 #[(pt a)] w fun r w'=>∃ j,r=iV j∧K j w':=by
  refine of139 _ _ _ ?_
  unfold vc139
  refine gs_pick h (by omega) (by omega) (by omega) fun j1 w1 h p0 p1 p2=>?_
  refine gs_pick h (by omega) (by omega) (by omega) fun j2 w2 h q0 q1 q2=>?_
  refine gs_pick h (by omega) (by omega) (by omega) fun j3 w3 h r0 r1 r2=>?_
  refine gs_ints h (by (repeat' (first|exact VsOf.nil|apply VsOf.cons|(apply VOf.int;first|assumption|(constructor<;>first|omega|(simp only [lz] at *;omega)))|exact VOf.bool|exact VOf.str))) rfl (by decide) fun x w4 u4 hu hs h hx=>?_
  refine gs_one h hx (by omega) (by simp) (by simp) fun j w5 h hj=>?_
  refine ⟨_,rfl,k j w5 u4 hu (h.le (by omega)) ?_ ?_⟩<;>(simp only [List.mem_cons,List.not_mem_nil,or_false] at hj;omega)
theorem use_e {P:Program} {f:FuncId} {args:Array Value} {G K:Int→Int→Sl→World→Prop} (hT:Trip P f args w fun r w'=>∃ n1 n2 x,r=.agg #[iV n1,iV n2,Sl.val x]∧G n1 n2 x w') (k:∀ n1 n2 x w',G n1 n2 x w'→K n1 n2 x w'):
    Trip P f args w fun r w'=>∃ n1 n2 x,r=.agg #[iV n1,iV n2,Sl.val x]∧K n1 n2 x w':=
  hT.mono' fun _ _ ⟨n1,n2,x,h1,h2⟩=>⟨n1,n2,x,h1,k _ _ _ _ h2⟩
theorem gs_mku {P:Program} {f:FuncId} {args:Array Value} (hM:Mk P f args u fun r J=>∃ z:Sl,r=z.val∧Own u z l J) (h:GS u a R m w) {K:Sl→World→Prop} (k:∀ z w' u',Sub u u'→Sub w w'→GS u' a R m w'→Read u' z l→K z w'):
    Trip P f args w fun r w'=>∃ z:Sl,r=z.val∧K z w':=by
  obtain ⟨I,h1,h2⟩:=h
  refine Mk.use hM h2 ?_
  rintro _ w' J ⟨z,rfl,hO⟩ hS hs
  obtain ⟨u2,hu,hS2,hJ⟩:=hS.freeze J
  exact ⟨z,rfl,k z w' u2 hu hs ⟨I,h1.mono hu,hS2⟩ (hO.read1 hJ)⟩
theorem gs_mkw {P:Program} {f:FuncId} {args:Array Value} {G:List Int→Prop} (hM:Mk P f args w fun r J=>∃ (z:Sl) (l:List Int),r=z.val∧Own w z l J∧G l) (h:GS u a R m w) {K:Sl→World→Prop} (k:∀ z l w' u',Sub u u'→Sub w w'→GS u' a R m w'→Read u' z l→G l→K z w'):
    Trip P f args w fun r w'=>∃ z:Sl,r=z.val∧K z w':=by
  obtain ⟨I,h1,h2⟩:=h
  refine Mk.usew hM h2 ?_
  rintro _ w' J ⟨z,l,rfl,hO,hG⟩ hS hs
  obtain ⟨u2,hu,hS2,hJ⟩:=hS.freeze J
  exact ⟨z,rfl,k z l w' u2 hu hs ⟨I,h1.mono hu,hS2⟩ (hO.ofInts.read1 hJ) hG⟩
theorem gs_consOf (hp:PrgG u R x y ds fs) (hn:InI n) (h:GS u a R m w) {K:Sl→World→Prop} (k:∀ z w' u',Sub u u'→Sub w w'→GS u' a R m w'→Read u' z (consL ds n)→K z w'):
    Trip Tryz.prog 94 #[x.val,iV n] w fun r w'=>∃ z:Sl,r=z.val∧K z w':=
  gs_mku (c_consOfB hp.rx hp.gd.types.sm hn) h k
theorem gs_extend {args:List Int} (hz:Read u z vars) (hs:Read u s args) (hb:vars.length+args.length≤1000000) (h:GS u a R m w) {K:Sl→World→Prop} (k:∀ z w' u',Sub u u'→Sub w w'→GS u' a R m w'→Read u' z (vars++args)→K z w'):
    Trip Tryz.prog 99 #[z.val,s.val] w fun r w'=>∃ z:Sl,r=z.val∧K z w':=
  gs_mku (c_extend hz hs (by omega)) h k
theorem gs_extendV {args:List Int} (hz:VrG u R z vars) (hs:Read u s args) (hb:vars.length+args.length≤1000000) (h:GS u a R m w) {K:Sl→World→Prop} (k:∀ z w' u',Sub u u'→Sub w w'→GS u' a R m w'→Read u' z (vars++args)→K z w'):
    Trip Tryz.prog 99 #[z.val,s.val] w fun r w'=>∃ z:Sl,r=z.val∧K z w':=by
  have hzr:=hz.rd h
  obtain ⟨I,h1,h2⟩:=h
  refine Mk.usew (c_extend hzr (hs.mono h2.sub) (by omega)) h2 ?_
  rintro _ w' J ⟨z,rfl,hO⟩ hS hsub
  obtain ⟨u2,hu,hS2,hJ⟩:=hS.freeze J
  exact ⟨z,rfl,k z w' u2 hu hsub ⟨I,h1.mono hu,hS2⟩ (hO.ofInts.read1 hJ)⟩
theorem gs_conFields (hp:PrgG u R x y ds fs) (hn:InI n) (h:GS u a R m w) {K:Sl→World→Prop} (k:∀ z w' u',Sub u u'→Sub w w'→GS u' a R m w'→Read u' z (conF ds n)→K z w'):
    Trip Tryz.prog 95 #[x.val,iV n] w fun r w'=>∃ z:Sl,r=z.val∧K z w':=by
  obtain ⟨I,h1,h2⟩:=h
  refine Mk.use (c_conFieldsR hp.rx hp.gd.types.sm hn) h2 ?_
  rintro _ w' J ⟨z,rfl,hO⟩ hS hs
  obtain ⟨u2,hu,hS2,hJ⟩:=hS.freeze J
  exact ⟨z,rfl,k z w' u2 hu hs ⟨I,h1.mono hu,hS2⟩ (hO u2 hJ)⟩
noncomputable def closU (ds:List DeclD) (fs:List FunD) (t:Int) (i:Nat):List Int:=((List.range i).map Int.ofNat).filter fun k=>pB (clos1 ds (nth fs k) t)
theorem closU_succ (i:Int) (h:0≤i):closU ds fs t (i+1).toNat=closU ds fs t i.toNat++(if pB (clos1 ds (nth fs i) t)=true then [i] else []):=by
  unfold closU
  rw [show (i+1).toNat=i.toNat+1 from by omega,List.range_succ,List.map_append,List.filter_append]
  congr 1
  have e:Int.ofNat i.toNat=i:=by show ((i.toNat:Nat):Int)=i;omega
  simp only [List.map_cons,List.map_nil,e,List.filter_cons,List.filter_nil]
theorem closU_mem {i:Nat} {k:Int} (h:k∈closU ds fs t i):0≤k∧k < i∧clos1 ds (nth fs k) t:=by
  unfold closU at h
  obtain ⟨h1,h2⟩:=List.mem_filter.1 h
  obtain ⟨j,hj,rfl⟩:=List.mem_map.1 h1
  rw [List.mem_range] at hj
  exact ⟨by simp only [Int.ofNat_eq_natCast];omega,by simp only [Int.ofNat_eq_natCast];omega,pB_iff.1 h2⟩
theorem closU_len (i:Nat):(closU ds fs t i).length≤i:=by
  unfold closU
  refine Nat.le_trans (List.length_filter_le _ _) ?_
  simp
theorem c_closable (hx:Read v x ds) (hd:ds.length≤4) (hy:Read v y fs) (hf:∀ f∈fs,f.params.length≤3) (hl:fs.length≤4):Mk Tryz.prog 164 #[.agg #[x.val,y.val],iV t] v fun r J=>∃ z:Sl,r=z.val∧Own v z (closU ds fs t fs.length) J:=by
  refine of164 _ _ _ _ _ ?_
  unfold vc164
  have hyn:=hy.n
  refine St.build (α:=Int) (l:=[]) (St.refl v) VsOf.nil rfl (by decide) ?_
  intro z w J hO hS hs
  refine ⟨_,rfl,?_⟩
  refine ⟨fun z i w=>∃ I,Own v z (closU ds fs t i.toNat) I∧St v w (I++[])∧0≤i∧i≤fs.length,fun _ i _=>(fs.length - i).toNat,⟨J,hO,hS,by omega,by omega⟩,?_⟩
  clear hO hS hs
  rintro z i w ⟨I,hO,hS,i0,i1⟩
  dsimp only
  refine ⟨fun hi=>?_,fun hi=>?_⟩
  · simp only [bls] at hi
    have hil:i < fs.length:=by omega
    obtain ⟨f1,k1,e1,e2,e3,e4,e5,j1,j2,j3,r1,r2⟩:=(hy.src hS.sub).ofFunD i0 hil
    have hn1:=r1.n
    have hpl:=hf _ (nth_mem (l:=fs) i0 hil)
    have hsu:=closU_succ (ds:=ds) (fs:=fs) (t:=t) i i0
    have hcl:=closU_len (ds:=ds) (fs:=fs) (t:=t) i.toNat
    have hix:=hy.ix i0 hil
    refine ⟨hix,f1,e1,fun _=>hix,f1,fun _=>e1,?_⟩
    refine go_wrg ?_ ?_
    · intro hc
      simp only [bls] at hc
      constructor<;>omega
    refine ⟨fun hc=>r1.ix (by simp only [bls] at hc;omega) (by omega),nth (nth fs i).params ((f1.n:Int) - 1),fun hc=>((r1.mono hS.sub).int (by simp only [bls] at hc;omega) (by omega)).1,fun _=>hix,_,fun _=>e2,_,fun hc=>c_arrowOf (hx.mono hS.sub) hd,fun hc=>?_,fun hc=>?_⟩
    · simp only [bls] at hc
      refine St.build (α:=Int) (l:=[i]) hS (by (repeat' (first|exact VsOf.nil|apply VsOf.cons|(apply VOf.int;first|assumption|(constructor<;>first|omega|(simp only [lz] at *;omega)))|exact VOf.bool|exact VOf.str))) rfl (by decide) ?_
      intro x4 w4 I4 hO4 hS hs
      refine ⟨_,rfl,?_⟩
      refine Own.append hO hS (Own.src hO4 hS) (by simp;omega) (by decide) ?_
      intro x5 w5 I5 hO5 hS
      refine ⟨_,rfl,?_⟩
      refine go_wr (by omega) (by omega) ?_
      refine ⟨rfl,rfl,⟨I5,?_,hS.to,by omega,by omega⟩,by omega⟩
      rw [hsu,if_pos (pB_t ⟨by omega,by rw [←hn1];exact hc.2⟩)]
      exact hO5
    · simp only [bls] at hc
      refine go_wr (by omega) (by omega) ?_
      refine ⟨rfl,rfl,⟨I,?_,hS,by omega,by omega⟩,by omega⟩
      rw [hsu,if_neg]
      · simpa using hO
      · intro hh
        obtain ⟨g1,g2⟩:=pB_iff.1 hh
        rw [←hn1] at g2
        rcases hc with hc|hc
        · omega
        · exact hc g2
  · simp only [bls] at hi
    have e:i=fs.length:=by omega
    subst e
    exact ⟨I,by simpa using hS,z,rfl,by simpa using hO⟩
theorem gs_closable (hp:PrgG u R x y ds fs) (h:GS u a R m w) {K:Sl→World→Prop} (k:∀ z w' u',Sub u u'→Sub w w'→GS u' a R m w'→Read u' z (closU ds fs t fs.length)→K z w'):
    Trip Tryz.prog 164 #[.agg #[x.val,y.val],iV t] w fun r w'=>∃ z:Sl,r=z.val∧K z w':=by
  refine gs_mkw (G:=fun l=>l=closU ds fs t fs.length) ((c_closable (hp.rx.mono h.sub) hp.gd.len.2 (hp.fsr h) (fun f hf=>(sig_facts (hp.gf.2.2 f hf)).1) hp.gf.2.1).mono' ?_) h fun z l w' u' h1 h2 h3 h4 h5=>k z w' u' h1 h2 h3 (h5 ▸ h4)
  rintro r w' ⟨J,hS,z,rfl,hO⟩
  exact ⟨J,hS,z,_,rfl,hO,rfl⟩
theorem c_canMake (hx:Read v x ds) (hd:ds.length≤4) (hy:Read v y fs) (hf:∀ f∈fs,f.params.length≤3) (hl:fs.length≤4) (hz:Read v z vars):∃ q,Fn Tryz.prog 141 #[.agg #[x.val,y.val],z.val,iV t] v (.bool q):=by
  obtain ⟨q1,_,hq1⟩:=c_isArrow (n:=t) hx hd
  refine ⟨!q1 || (decide (((closU ds fs t fs.length).length:Int) > 0) || decide (t∈vars)),?_⟩
  refine of141 _ _ _ _ _ _ ?_
  unfold vc141
  refine ⟨q1,hq1,fun hc=>?_,fun hc=>⟨by rw [hc];rfl,.refl v⟩⟩
  refine Mk.use (c_closable hx hd hy hf hl) (.refl v) ?_
  rintro _ w' J ⟨s,rfl,hO⟩ hS hs
  refine ⟨_,rfl,_,fun _=>c_specIsIn (hz.mono hs),?_,hs⟩
  have e:=hO.n
  rw [hc,e]
  rfl
theorem gs_canMake (hp:PrgG u R x y ds fs) (h:GS u a R m w) (hz:Read u z vars) (t:Int):∃ q,Fn Tryz.prog 141 #[.agg #[x.val,y.val],z.val,iV t] w (.bool q):=
  c_canMake (hp.rx.mono h.sub) hp.gd.len.2 (hp.fsr h) (fun f hf=>(sig_facts (hp.gf.2.2 f hf)).1) hp.gf.2.1 (hz.mono h.sub)
theorem gs_canMakeV (hp:PrgG u R x y ds fs) (h:GS u a R m w) (hz:VrG u R z vars) (t:Int):∃ q,Fn Tryz.prog 141 #[.agg #[x.val,y.val],z.val,iV t] w (.bool q):=
  c_canMake (hp.rx.mono h.sub) hp.gd.len.2 (hp.fsr h) (fun f hf=>(sig_facts (hp.gf.2.2 f hf)).1) hp.gf.2.1 (hz.rd h)
theorem c_varsOfType (hz:Read v z vars) (hl:vars.length≤1000):Mk Tryz.prog 140 #[z.val,iV t] v fun r J=>∃ (s:Sl) (l:List Int),r=s.val∧Own v s l J∧(l.length≤1000∧∀ i∈l,0≤i∧i < vars.length):=by
  refine of140 _ _ _ _ ?_
  unfold vc140
  have hzn:=hz.n
  refine St.build (α:=Int) (l:=[]) (St.refl v) VsOf.nil rfl (by decide) ?_
  intro s w J hO hS hs
  refine ⟨_,rfl,?_⟩
  refine ⟨fun s i w=>∃ (I:Items) (l:List Int),Own v s l I∧St v w (I++[])∧0≤i∧i≤vars.length∧(l.length:Int)≤i∧∀ k∈l,0≤k∧k < vars.length,fun _ i _=>(vars.length - i).toNat,⟨J,[],hO,hS,by omega,by omega,by simp,by simp⟩,?_⟩
  clear hO hS hs
  rintro s i w ⟨I,l,hO,hS,i0,i1,hle,hm⟩
  dsimp only
  refine ⟨fun hi=>?_,fun hi=>?_⟩
  · simp only [bls] at hi
    refine go_ix hz i0 (by omega) ?_
    refine ⟨_,((hz.mono hS.sub).int i0 (by omega)).1,fun hc=>?_,fun hc=>?_⟩
    · refine St.build (α:=Int) (l:=[i]) hS (by (repeat' (first|exact VsOf.nil|apply VsOf.cons|(apply VOf.int;first|assumption|(constructor<;>first|omega|(simp only [lz] at *;omega)))|exact VOf.bool|exact VOf.str))) rfl (by decide) ?_
      intro x4 w4 I4 hO4 hS hs
      refine ⟨_,rfl,?_⟩
      refine Own.append hO hS (Own.src hO4 hS) (by simp;omega) (by decide) ?_
      intro x5 w5 I5 hO5 hS
      refine ⟨_,rfl,?_⟩
      refine go_wr (by omega) (by omega) ?_
      refine ⟨⟨I5,_,hO5,hS.to,by omega,by omega,by simp;omega,fun k hk=>?_⟩,by omega⟩
      rcases List.mem_append.1 hk with hk|hk
      · exact hm k hk
      · rw [List.mem_singleton.1 hk];omega
    · refine go_wr (by omega) (by omega) ?_
      exact ⟨⟨I,l,hO,hS,by omega,by omega,by omega,hm⟩,by omega⟩
  · simp only [bls] at hi
    exact ⟨I,by simpa using hS,s,l,rfl,hO,by omega,hm⟩
end
def SmC (t P N:Int):Prop:=∀ (V:Nat) (u:World) (a:Addr) (R:Items) (x y:Sl) (ds:List DeclD) (fs:List FunD) (m:Int) (w:World),PrgG u R x y ds fs→m+P≤999900000→GS u a R m w→
  Trip Tryz.prog 142 #[(pt a),.agg #[x.val,y.val],iV t] w fun r w'=>∃ n1 n2 z,r=.agg #[iV n1,iV n2,Sl.val z]∧GQ ⟨ds,fs.length,V⟩ u a R (m+P) N n1 n2 z w'
section
variable {C:CxE} {u u' w:World} {x y z:Sl} {ds:List DeclD} {fs:List FunD} {a:Addr} {J R:Items} {m N n n1 n2 op num t:Int} {l:List Int} {ks:List ExprD} {e:ExprD}
theorem gs_fin (h:GS u' a (J++R) m w) (hO:Own u' z ks J) (hu:Sub u u') (hc:cL C ks) (hok:okS C op num ks.length) (hN:1+(nodesL ks:Int)≤N):GQ C u a R m N op num z w:=by
  obtain ⟨u2,hu2,h2,hJ⟩:=h.freeze
  exact ⟨u2,hu.trans hu2,h2,EV.mk (hO.read1 hJ) hc hok hN⟩
theorem gs_finE (h:GS u' a (J++R) m w) (hO:Own u' z ks J) (hu:Sub u u') (hc:cE C ⟨op,num,ks⟩) (hN:1+(nodesL ks:Int)≤N):GQ C u a R m N op num z w:=by
  obtain ⟨u2,hu2,h2,hJ⟩:=h.freeze
  exact ⟨u2,hu.trans hu2,h2,EV.of (hO.read1 hJ) hc hN⟩
theorem ok_con {k:Nat} (h0:0≤n) (h1:n < 13):okS C 6 n k:=⟨by rw [okN_iff];omega,by decide,by decide,by decide,by omega,by omega⟩
theorem ok_call {k:Nat} (h0:0≤n) (h1:n < 13) (h2:n < C.nf):okS C 9 n k:=⟨by rw [okN_iff];omega,by decide,by decide,by decide,by omega,fun _=>⟨h0,h2⟩⟩
theorem ok_close {k:Nat} (h0:0≤n) (h1:n < 13) (h2:n < C.nf):okS C 10 n k:=⟨by rw [okN_iff];omega,by decide,by decide,by decide,by omega,fun _=>⟨h0,h2⟩⟩
theorem ok_zero {k:Nat} (h:n=1∨n=2∨n=3∨n=4∨n=5∨n=7∨n=11) (hk:1≤k):okS C n 0 k:=⟨by rw [okN_iff];omega,by omega,by omega,by omega,fun _=>hk,by omega⟩
theorem nodesL_snoc:nodesL (ks++[e])=nodesL ks+nodesE e:=by rw [nodesL_app,nodesL_cons,nodesL_nil];omega
theorem smallest_go (t:Int) (hti:InI t) (A:Int→Prop) (K:Nat) (hK:K≤3) (hA:∀ p,A p→SmC p 5 1)
    (hcon:∀ ds,GD ds→(∀ n∈consL ds t,t∉conF ds n→(conF ds n).length≤K∧∀ p∈conF ds n,A p)∧(0 < (consL ds t).length→(conF ds (nth (consL ds t) 0)).length≤K∧∀ p∈conF ds (nth (consL ds t) 0),A p))
    (hclo:∀ ds f,GD ds→(f.params,f.result)∈sigsG→0 < t→(consL ds t).length=0→clos1 ds f t→f.params.length≤K+1∧∀ i:Int,0≤i→i+1 < f.params.length→A (nth f.params i)):SmC t (5+5 * K) (1+K):=by
  intro V u a R x y ds fs m w hp hm h
  refine of142 _ _ _ _ _ _ ?_
  unfold vc142
  have hty:=hp.gd.types
  obtain ⟨hc1,hc2⟩:=hcon ds hp.gd
  refine gs_consOf hp hti h fun xc w1 u1 hu1 hs1 h hxc=>?_
  have hcn:=hxc.n
  have hp1:=hp.mono hu1
  refine ⟨fun hc=>?_,fun hc=>?_⟩
  · simp only [bls] at hc
    refine go_ix hxc (by omega) (by omega) ?_
    refine ⟨_,((hxc.mono h.sub).int (by omega) (by omega)).1,?_⟩
    have hm0:nth (consL ds t) 0∈consL ds t:=nth_mem (by omega) (by omega)
    refine ⟨fun n w=>n∈consL ds t∧GS u1 a R (m+1) w,⟨fun hc=>?_,fun hc=>⟨rfl,rfl,rfl,rfl,rfl,hm0,h.le (by omega)⟩⟩,?_⟩
    · simp only [bls] at hc
      refine gs_pick h (by omega) (by omega) (by omega) fun j w2 h _ _ _=>⟨fun hc2=>?_,fun hc2=>⟨rfl,rfl,rfl,rfl,rfl,hm0,h⟩⟩
      refine go_ix hxc (by omega) (by omega) ?_
      exact ⟨_,((hxc.mono h.sub).int (by omega) (by omega)).1,rfl,rfl,rfl,rfl,rfl,nth_mem (by omega) (by omega),h⟩
    rintro n1 w2 ⟨hn1,h⟩
    have hcN:=consL_num hty t
    refine ⟨fun n w=>(n∈consL ds t∧(conF ds n).length≤K∧∀ p∈conF ds n,A p)∧∃ u2,Sub u1 u2∧GS u2 a R (m+1) w,?_,?_⟩
    · have:=hcN n1 hn1
      refine gs_conFields hp1 ⟨by omega,by omega⟩ h fun xf w3 u3 hu3 hs3 h hxf=>?_
      refine ⟨_,c_specIsIn (hxf.mono h.sub),fun hq=>?_,fun hq=>?_⟩
      · have hxc3:=hxc.mono hu3
        refine go_ix hxc (by omega) (by omega) ?_
        exact ⟨_,((hxc3.mono h.sub).int (by omega) (by omega)).1,rfl,rfl,rfl,rfl,rfl,⟨hm0,hc2 (by omega)⟩,u3,hu3,h⟩
      · simp only [bls] at hq
        exact ⟨rfl,rfl,rfl,rfl,rfl,⟨hn1,hc1 _ hn1 hq⟩,u3,hu3,h⟩
    rintro n2 w3 ⟨⟨hn2,hl2,hA2⟩,u2,hu2,h⟩
    dsimp only
    have hnn:=hcN n2 hn2
    refine gs_kids0 h fun x4 w4 J4 h hs4 hO=>?_
    have hp2:=(hp1.mono hu2).app J4
    refine gs_conFields hp2 ⟨by omega,by omega⟩ h fun xf w5 u5 hu5 hs5 h hxf=>?_
    have hfn:=hxf.n
    refine ⟨fun z i w=>∃ (u6:World) (J:Items) (ks:List ExprD),Sub u5 u6∧GS u6 a (J++R) (m+1+5 * i) w∧Own u6 z ks J∧cL ⟨ds,fs.length,V⟩ ks∧(nodesL ks:Int)≤i∧(ks.length:Int)=i∧0≤i∧i≤(conF ds n2).length,fun _ i _=>((conF ds n2).length - i).toNat,⟨u5,J4,[],.refl _,by simpa using h,hO.mono hu5,cL_nil,by rw [nodesL_nil];omega,rfl,by omega,by omega⟩,?_⟩
    rintro z i w6 ⟨u6,J6,ks,hu6,h,hO,hcl,hnl,hkl,i0,i1⟩
    dsimp only
    refine ⟨fun hi=>?_,fun hi=>?_⟩
    · simp only [bls] at hi
      have hil:i < (conF ds n2).length:=by omega
      refine go_ix hxf i0 hil ?_
      refine ⟨_,((hxf.mono (hu6.trans h.sub)).int i0 hil).1,?_⟩
      refine use_e (hA _ (hA2 _ (nth_mem i0 hil)) V u6 a (J6++R) x y ds fs _ _ (((hp1.mono hu2).mono (hu5.trans hu6)).app J6) (by omega) h) ?_
      rintro n1 n2 xk w7 ⟨u7,hu7,h,e,rfl,rfl,hr,hce,hne⟩
      refine gs_push h (hO.mono hu7) hr hce (by omega) fun x' w8 J8 h hO=>?_
      refine go_wr (by omega) (by omega) ?_
      refine ⟨rfl,rfl,rfl,rfl,rfl,⟨u7,J8,_,hu6.trans hu7,h.le (by omega),hO,cL_snoc hcl hce,by rw [nodesL_snoc];omega,by simp;omega,by omega,by omega⟩,by omega⟩
    · simp only [bls] at hi
      refine gs_node ?_
      exact ⟨_,_,_,rfl,gs_fin (h.le (by omega)) hO ((hu1.trans hu2).trans (hu5.trans hu6)) hcl (ok_con hnn.1 hnn.2) (by omega)⟩
  · simp only [bls] at hc
    refine gs_closable hp1 h fun xl w2 u2 hu2 hs2 h hxl=>?_
    have hln:=hxl.n
    have hp2:=hp1.mono hu2
    refine ⟨fun hc2=>?_,fun hc2=>?_⟩
    · simp only [bls] at hc2
      have hul:=closU_len (ds:=ds) (fs:=fs) (t:=t) fs.length
      have hfl:=hp.gf.2.1
      refine gs_pick h (by omega) (by omega) (by omega) fun j w3 h j0 j1 _=>?_
      refine go_ix hxl j0 (by omega) ?_
      refine ⟨_,((hxl.mono h.sub).int j0 (by omega)).1,?_⟩
      obtain ⟨f0,f1,f2⟩:=closU_mem (nth_mem (l:=closU ds fs t fs.length) j0 (by omega))
      generalize nth (closU ds fs t fs.length) j=f at f0 f1 f2 ⊢
      have f1:f < fs.length:=f1
      obtain ⟨g1,g2,e1,_,_,_,_,_,_,_,r1,_⟩:=(hp2.src h).ofFunD f0 f1
      have hyf:=hp2.fsr h
      have hg1:=r1.n
      refine go_ix hyf f0 f1 ?_
      refine ⟨g1,e1,?_⟩
      obtain ⟨hk1,hk2⟩:=hclo ds (nth fs f) hp.gd (hp.gf.mem f0 f1) (by omega) (by omega) f2
      refine gs_kids0 h fun x4 w4 J4 h hs4 hO=>?_
      refine ⟨fun z i w=>∃ (u6:World) (J:Items) (ks:List ExprD),Sub u2 u6∧GS u6 a (J++R) (m+1+5 * i) w∧Own u6 z ks J∧cL ⟨ds,fs.length,V⟩ ks∧(nodesL ks:Int)≤i∧(ks.length:Int)=i∧0≤i∧i≤K,fun _ i _=>(K - i).toNat,⟨u2,J4,[],.refl _,by simpa using h,hO,cL_nil,by rw [nodesL_nil];omega,rfl,by omega,by omega⟩,?_⟩
      rintro z i w6 ⟨u6,J6,ks,hu6,h,hO,hcl,hnl,hkl,i0,i1⟩
      dsimp only
      refine go_wr (by omega) (by omega) ?_
      refine ⟨fun hi=>?_,fun hi=>?_⟩
      · simp only [bls] at hi
        have hil:i+1 < (nth fs f).params.length:=by omega
        have r1':Read u6 g1 (nth fs f).params:=r1.mono hu6
        refine go_ix r1' i0 (by omega) ?_
        refine ⟨_,((r1'.mono h.sub).int i0 (by omega)).1,?_⟩
        refine use_e (hA _ (hk2 i i0 hil) V u6 a (J6++R) x y ds fs _ _ ((hp2.mono hu6).app J6) (by omega) h) ?_
        rintro n1 n2 xk w7 ⟨u7,hu7,h,e,rfl,rfl,hr,hce,hne⟩
        refine gs_push h (hO.mono hu7) hr hce (by omega) fun x' w8 J8 h hO=>?_
        refine go_wr (by omega) (by omega) ?_
        refine ⟨rfl,rfl,rfl,rfl,rfl,⟨u7,J8,_,hu6.trans hu7,h.le (by omega),hO,cL_snoc hcl hce,by rw [nodesL_snoc];omega,by simp;omega,by omega,by omega⟩,by omega⟩
      · simp only [bls] at hi
        refine gs_node ?_
        exact ⟨_,_,_,rfl,gs_fin (h.le (by omega)) hO ((hu1.trans hu2).trans hu6) hcl (ok_close f0 (by omega) f1) (by omega)⟩
    · refine gs_someInt h (by omega) fun j w3 u3 hu3 h j0 j1=>?_
      refine gs_int (C:=⟨ds,fs.length,V⟩) h j0 j1 fun n1 n2 x4 w4 u4 hu4 hs4 h he=>?_
      exact ⟨_,_,_,rfl,u4,(hu1.trans hu2).trans (hu3.trans hu4),h.le (by omega),he.le (by omega)⟩
theorem c_smallLow (ht:lowT t):SmC t 5 1:=by
  have key:=smallest_go t ⟨by unfold lowT at ht;omega,by unfold lowT at ht;omega⟩ (fun _=>False) 0 (by omega) (fun _ h=>h.elim) (fun ds hd=>?_) (fun ds f hd hf h0 hl hc=>?_)
  · exact key
  · unfold lowT at ht
    rcases ht with rfl|h13
    · rw [consL_none (by omega)]
      exact ⟨fun n hn=>(by cases hn),fun h=>(by simp at h)⟩
    · obtain ⟨h1,h2,h3⟩:=hd.low h13
      refine ⟨fun n hn hh=>?_,fun _=>by rw [h2];simp⟩
      obtain ⟨k,hk,rfl⟩:=List.getElem_of_mem hn
      have:k=0∨k=1:=by omega
      rcases this with rfl|rfl
      · rw [nth_of (a:=(consL ds t)[0]) (by simp [List.getElem?_eq_getElem hk])] at h2
        rw [h2];simp
      · rw [nth_of (a:=(consL ds t)[1]) (by simp [List.getElem?_eq_getElem hk])] at h3
        exact absurd h3 hh
  · unfold lowT at ht
    have h13:t=1∨t=3:=by omega
    have:=(hd.low h13).1
    omega
theorem c_smallest (h0:0≤t) (h1:t≤4):SmC t 20 4:=by
  by_cases ht:lowT t
  · intro V u a R x y ds fs m w hp hm h
    refine (c_smallLow ht V u a R x y ds fs m w hp (by omega) h).mono' ?_
    rintro _ w' ⟨n1,n2,z,rfl,hq⟩
    exact ⟨_,_,_,rfl,hq.le (.refl _) (by omega) (by omega)⟩
  · refine smallest_go t ⟨by omega,by omega⟩ lowT 3 (by omega) (fun p hp=>c_smallLow hp) (fun ds hd=>?_) (fun ds f hd hf h0 hl hc=>?_)
    · refine ⟨fun n hn _=>⟨conF_len3 hd.types n,hd.high ht hn⟩,fun hl=>?_⟩
      exact ⟨conF_len3 hd.types _,hd.high ht (nth_mem (by omega) (by omega))⟩
    · exact ⟨by have:=(sig_facts hf).1;simp only [] at this;omega,fun i i0 i1=>clos_low hd hf h0 hc i0 i1⟩
end
def GenC (b:Int):Prop:=∀ (u:World) (a:Addr) (R:Items) (x y z:Sl) (ds:List DeclD) (fs:List FunD) (vars:List Int) (t m:Int) (w:World),PrgG u R x y ds fs→VrG u R z vars→vars.length+4 * b≤99→vars.length≤99→0≤t→t≤4→m+Pg b≤999900000→GS u a R m w→
  Trip Tryz.prog 101 #[(pt a),.agg #[x.val,y.val],z.val,iV t,iV b] w fun r w'=>∃ n1 n2 s,r=.agg #[iV n1,iV n2,Sl.val s]∧GQ ⟨ds,fs.length,vars.length⟩ u a R (m+Pg b) (Pg b) n1 n2 s w'
theorem Pg_pos (b:Int):30≤Pg b:=by unfold Pg;split<;>omega
theorem Pg_at {b:Int} (h:1≤b):Pg b=130 * b - 100:=by unfold Pg;rw [if_neg (by omega)]
theorem tdiv_pos {b n:Int} (h0:0≤b) (hn:1≤n):0≤b.tdiv n∧b.tdiv n≤b:=⟨Int.tdiv_nonneg h0 (by omega),Int.tdiv_le_self _ h0⟩
theorem Pg_split {b n:Int} (h0:0≤b) (hn:n=0∨n=1∨n=2∨n=3):n * Pg (b.tdiv n)≤90∨n * Pg (b.tdiv n)≤130 * b - 100:=by
  rcases hn with rfl|rfl|rfl|rfl
  · left;simp
  · rw [Int.tdiv_one];unfold Pg;split<;>omega
  · rw [Int.tdiv_eq_ediv_of_nonneg h0];unfold Pg;split<;>omega
  · rw [Int.tdiv_eq_ediv_of_nonneg h0];unfold Pg;split<;>omega
section
variable {u u' v w:World} {x y z s:Sl} {ds:List DeclD} {fs:List FunD} {a:Addr} {I J R:Items} {m n n1 n2 t:Int} {l vars:List Int}
theorem GD.decl {ds:List DeclD} (h:GD ds):∀ d∈ds,0≤d.frm∧d.frm≤4∧0≤d.to_∧d.to_≤4:=by
  rcases h.cases with rfl|rfl|rfl|rfl|rfl<;>decide
theorem c_leaf (hp:PrgG u R x y ds fs) (hv:VrG u R z vars) (hvl:vars.length≤99) (t0:0≤t) (t1:t≤4) (hm:m+30≤999900000) (h:GS u a R m w):
    Trip Tryz.prog 105 #[(pt a),.agg #[x.val,y.val],z.val,iV t] w fun r w'=>∃ n1 n2 s,r=.agg #[iV n1,iV n2,Sl.val s]∧GQ ⟨ds,fs.length,vars.length⟩ u a R (m+25) 4 n1 n2 s w':=by
  refine of105 _ _ _ _ _ _ _ ?_
  unfold vc105
  refine gs_mkw (c_varsOfType (hv.rd h) (by omega)) h fun xl l w1 u1 hu1 hs1 h hxl ⟨hl1,hl2⟩=>?_
  have hln:=hxl.n
  have hp1:=hp.mono hu1
  refine ⟨fun q w=>(q=true→0 < l.length)∧∃ u2,Sub u1 u2∧GS u2 a R (m+1) w,⟨fun hc=>?_,fun hc=>⟨rfl,rfl,rfl,rfl,rfl,fun h=>(by cases h),u1,.refl _,h.le (by omega)⟩⟩,?_⟩
  · simp only [bls] at hc
    refine gs_pick h (by omega) (by omega) (by omega) fun j w2 h _ _ _=>⟨fun hc2=>?_,fun hc2=>?_⟩
    · refine gs_ints (l:=[]) h VsOf.nil rfl (by decide) fun x3 w3 u3 hu3 hs3 h hx3=>?_
      obtain ⟨q,hq⟩:=gs_canMake (hp1.mono hu3) h hx3 t
      exact ⟨q,fun _=>hq,rfl,rfl,rfl,rfl,rfl,fun _=>by omega,u3,hu3,h⟩
    · refine ⟨false,fun hh=>?_,rfl,rfl,rfl,rfl,rfl,fun _=>by omega,u1,.refl _,h⟩
      rw [hc2] at hh;cases hh
  rintro q w2 ⟨hq,u2,hu2,h⟩
  refine ⟨fun hc=>?_,fun hc=>?_⟩
  · have hpos:=hq hc
    refine gs_pick h (by omega) (by omega) (by omega) fun j w3 h j0 j1 _=>?_
    have hxl2:=hxl.mono hu2
    refine go_ix hxl2 j0 (by omega) ?_
    refine ⟨_,((hxl2.mono h.sub).int j0 (by omega)).1,?_⟩
    have hlt:=hl2 _ (nth_mem (l:=l) j0 (by omega))
    refine gs_var (C:=⟨ds,fs.length,vars.length⟩) h hlt.1 (by omega) hlt.2 fun n1 n2 x4 w4 u4 hu4 hs4 h he=>?_
    exact ⟨_,_,_,rfl,u4,(hu1.trans hu2).trans hu4,h.le (by omega),he.le (by omega)⟩
  · refine use_e (c_smallest t0 t1 vars.length u2 a R x y ds fs _ _ (hp1.mono hu2) (by omega) h) ?_
    intro n1 n2 x3 w3 hq3
    exact ⟨_,_,_,rfl,hq3.le (hu1.trans hu2) (by omega) (by omega)⟩
theorem gs_anyType (hp:PrgG u R x y ds fs) (hv:VrG u R z vars) (hm:m≤999900000) (h:GS u a R m w) {K:Int→World→Prop} (k:∀ j w' u',Sub u u'→GS u' a R (m+1) w'→0≤j→j≤4→K j w'):
    Trip Tryz.prog 134 #[(pt a),.agg #[x.val,y.val],z.val] w fun r w'=>∃ j,r=iV j∧K j w':=by
  refine of134 _ _ _ _ _ _ ?_
  unfold vc134
  refine gs_ints h (by (repeat' (first|exact VsOf.nil|apply VsOf.cons|(apply VOf.int;first|assumption|(constructor<;>first|omega|(simp only [lz] at *;omega)))|exact VOf.bool|exact VOf.str))) rfl (by decide) fun x1 w1 u1 hu1 hs1 h hx1=>?_
  refine gs_one h hx1 (by omega) (by simp) (by simp) fun j w2 h hj=>?_
  have hj4:0≤j∧j≤4:=by simp only [List.mem_cons,List.not_mem_nil,or_false] at hj;omega
  obtain ⟨q,hq⟩:=gs_canMakeV (hp.mono hu1) h (hv.mono hu1) j
  exact ⟨q,fun _=>hq,fun _=>⟨_,rfl,k 1 w2 u1 hu1 h (by omega) (by omega)⟩,fun _=>⟨_,rfl,k j w2 u1 hu1 h hj4.1 hj4.2⟩⟩
theorem c_callable (hx:Read v x ds) (hd:ds.length≤4) (hy:Read v y fs) (hf:∀ f∈fs,f.params.length≤3) (hl:fs.length≤4):Mk Tryz.prog 137 #[.agg #[x.val,y.val],iV t] v fun r J=>∃ (s:Sl) (l:List Int),r=s.val∧Own v s l J∧(l.length≤1000∧∀ i∈l,1≤i∧i < fs.length):=by
  refine of137 _ _ _ _ _ ?_
  unfold vc137
  have hyn:=hy.n
  refine St.build (α:=Int) (l:=[]) (St.refl v) VsOf.nil rfl (by decide) ?_
  intro s w J hO hS hs
  refine ⟨_,rfl,?_⟩
  refine ⟨fun s i w=>∃ (I R:Items) (l:List Int),Own v s l I∧St v w (I++R)∧1≤i∧i≤5∧(l.length:Int)≤i∧∀ k∈l,1≤k∧k < fs.length,fun _ i _=>(fs.length - i).toNat,⟨J,[],[],hO,hS,by omega,by omega,by simp,by simp⟩,?_⟩
  clear hO hS hs
  rintro s i w ⟨I,R,l,hO,hS,i0,i1,hle,hm⟩
  dsimp only
  refine ⟨fun hi=>?_,fun hi=>?_⟩
  · simp only [bls] at hi
    have hil:i < fs.length:=by omega
    have h0:0≤i:=by omega
    obtain ⟨f1,k1,e1,e2,_,_,_,_,_,_,r1,_⟩:=(hy.src (.refl v)).ofFunD h0 hil
    have hn1:=r1.n
    have hix:=hy.ix h0 hil
    have hpl:=hf _ (nth_mem (l:=fs) h0 hil)
    have cell:∀ {w:World} {p:Addr} {c:Value},Sub v w→v.cell? p=some c→w.cell? p=some c:=fun hs h=>cell_sub hs h
    refine ⟨hix,_,cell hS.sub e2,?_⟩
    refine ⟨fun q k w=>∃ R,St v w (I++R)∧0≤k∧k≤3,fun _ k _=>(f1.n - k).toNat,⟨R,hS,by omega,by omega⟩,?_⟩
    rintro q k w1 ⟨R1,hS1,k0,k1⟩
    dsimp only
    refine ⟨hix,f1,cell hS1.sub e1,fun hk=>?_,fun hk=>?_⟩
    · simp only [bls] at hk
      refine ⟨fun _=>hix,f1,fun _=>cell hS1.sub e1,fun _=>r1.ix k0 (by omega),_,fun _=>((r1.mono hS1.sub).int k0 (by omega)).1,fun _=>?_,fun _=>?_⟩
      · refine St.build (α:=Int) (l:=[]) hS1 VsOf.nil rfl (by decide) ?_
        intro x4 w4 I4 hO4 hS4 hs4
        obtain ⟨q,hq⟩:=c_canMake (z:=x4) (t:=nth (nth fs i).params k) (hx.mono hS4.sub) hd (hy.mono hS4.sub) hf hl (hO4.read hS4)
        refine ⟨_,rfl,hs4,q,hq,?_⟩
        refine go_wr (by omega) (by omega) ?_
        exact ⟨rfl,rfl,⟨I4++R1,hS4.to,by omega,by omega⟩,by omega⟩
      · refine ⟨.refl _,?_⟩
        refine go_wr (by omega) (by omega) ?_
        exact ⟨rfl,rfl,⟨R1,hS1,by omega,by omega⟩,by omega⟩
    · refine ⟨fun hq=>?_,fun hq=>?_⟩
      · refine St.build (α:=Int) (l:=[i]) hS1 (by (repeat' (first|exact VsOf.nil|apply VsOf.cons|(apply VOf.int;first|assumption|(constructor<;>first|omega|(simp only [lz] at *;omega)))|exact VOf.bool|exact VOf.str))) rfl (by decide) ?_
        intro x4 w4 I4 hO4 hS hs
        refine ⟨_,rfl,?_⟩
        refine Own.append hO hS (Own.src hO4 hS) (by simp;omega) (by decide) ?_
        intro x5 w5 I5 hO5 hS
        refine ⟨_,rfl,?_⟩
        refine go_wr (by omega) (by omega) ?_
        refine ⟨rfl,rfl,⟨I5,I4++R1,_,hO5,hS.to,by omega,by omega,by simp;omega,fun k hk=>?_⟩,by omega⟩
        rcases List.mem_append.1 hk with hk|hk
        · exact hm k hk
        · rw [List.mem_singleton.1 hk];omega
      · refine go_wr (by omega) (by omega) ?_
        exact ⟨rfl,rfl,⟨I,R1,l,hO,hS1,by omega,by omega,by omega,hm⟩,by omega⟩
  · exact ⟨I,by simpa using (hS.to:St v w (I++[])),s,l,rfl,hO,by omega,hm⟩
end
section
variable {u u' w:World} {x y z s tx:Sl} {ds:List DeclD} {fs:List FunD} {a:Addr} {J R:Items} {m n n1 n2 num t b:Int} {l vars types:List Int} {ks:List ExprD} {e:ExprD}
theorem nn_types (h:∀ t∈l,0≤t∧t≤4) {i:Int} (h0:0≤i) (h1:i < l.length):0≤nth l i∧nth l i≤4:=h _ (nth_mem h0 h1)
theorem gs_genAll (H:types.length≠0→GenC (b.tdiv types.length)) (hp:PrgG u R x y ds fs) (hv:VrG u R z vars) (hvl:vars.length≤99) (htx:Read u tx types) (htl:types.length≤3) (htt:∀ t∈types,0≤t∧t≤4) (b0:0≤b) (b1:b≤100) (hvb:vars.length+4 * b≤99)
    (hm:m+types.length * Pg (b.tdiv types.length)≤999900000) (h:GS u a R m w) {K:Sl→World→Prop}
    (k:∀ s w' u' ks,Sub u u'→GS u' a R (m+types.length * Pg (b.tdiv types.length)) w'→Read u' s ks→cL ⟨ds,fs.length,vars.length⟩ ks→(nodesL ks:Int)≤types.length * Pg (b.tdiv types.length)→ks.length=types.length→K s w'):
    Trip Tryz.prog 135 #[(pt a),.agg #[x.val,y.val],z.val,tx.val,iV b] w fun r w'=>∃ s:Sl,r=s.val∧K s w':=by
  refine of135 _ _ _ _ _ _ _ _ ?_
  unfold vc135
  have htn:=htx.n
  generalize hP:Pg (b.tdiv types.length)=P at hm k
  have hPp:30≤P:=by rw [←hP];exact Pg_pos _
  refine gs_kids0 h fun x4 w4 J4 h hs4 hO=>?_
  refine ⟨fun s i w=>∃ (u6:World) (J:Items) (ks:List ExprD),Sub u u6∧GS u6 a (J++R) (m+i * P) w∧Own u6 s ks J∧cL ⟨ds,fs.length,vars.length⟩ ks∧(nodesL ks:Int)≤i * P∧(ks.length:Int)=i∧0≤i∧i≤types.length,fun _ i _=>(types.length - i).toNat,⟨u,J4,[],.refl _,by simpa using h,hO,cL_nil,by rw [nodesL_nil];omega,rfl,by omega,by omega⟩,?_⟩
  clear h hO
  rintro s i w6 ⟨u6,J6,ks,hu6,h,hO,hcl,hnl,hkl,i0,i1⟩
  dsimp only
  refine ⟨fun hi=>?_,fun hi=>?_⟩
  · simp only [bls] at hi
    have hil:i < types.length:=by omega
    have htd:=tdiv_pos (b:=b) (n:=types.length) b0 (by omega)
    have hmul:(i+1) * P=i * P+P:=by rw [Int.add_mul];omega
    have hle:(i+1) * P≤types.length * P:=Int.mul_le_mul_of_nonneg_right (by omega) (by omega)
    have htx6:=htx.mono hu6
    have htt6:=nn_types htt i0 hil
    refine go_ix htx6 i0 hil ?_
    refine ⟨_,((htx6.mono h.sub).int i0 hil).1,?_⟩
    refine go_quo (by omega) (by rw [htn];omega) (by rw [htn];omega) ?_
    rw [htn]
    refine use_e (H (by omega) u6 a (J6++R) x y z ds fs vars _ _ _ ((hp.mono hu6).app J6) ((hv.mono hu6).app J6) (by omega) hvl htt6.1 htt6.2 (by rw [hP];omega) h) ?_
    rw [hP]
    rintro n1 n2 xk w7 ⟨u7,hu7,h,e,rfl,rfl,hr,hce,hne⟩
    refine gs_push h (hO.mono hu7) hr hce (by omega) fun x' w8 J8 h hO=>?_
    refine go_wr (by omega) (by omega) ?_
    refine ⟨rfl,rfl,⟨u7,J8,_,hu6.trans hu7,h.le (by omega),hO,cL_snoc hcl hce,by rw [nodesL_snoc];omega,by simp;omega,by omega,by omega⟩,by omega⟩
  · simp only [bls] at hi
    have e:i=types.length:=by omega
    subst e
    obtain ⟨u2,hu2,h2,hJ⟩:=h.freeze
    exact ⟨s,rfl,k s w6 u2 ks (hu6.trans hu2) h2 (hO.read1 hJ) hcl hnl (by omega)⟩
theorem c_genMatch (H:∀ b',0≤b'→b' < b→GenC b') (hp:PrgG u R x y ds fs) (hv:VrG u R z vars) (hvl:vars.length≤99) (b0:3≤b) (b1:b≤100) (hvb:vars.length+4 * b≤99) (t0:0≤t) (t1:t≤4) (hm:m+(Pg b - 10)≤999900000) (h:GS u a R m w):
    Trip Tryz.prog 136 #[(pt a),.agg #[x.val,y.val],z.val,iV t,iV b] w fun r w'=>∃ n1 n2 s,r=.agg #[iV n1,iV n2,Sl.val s]∧GQ ⟨ds,fs.length,vars.length⟩ u a R (m+(Pg b - 10)) (Pg b) n1 n2 s w':=by
  refine of136 _ _ _ _ _ _ _ _ ?_
  unfold vc136
  have hxn:=hp.rx.n
  have hty:=hp.gd.types
  have hPb:=Pg_at (b:=b) (by omega)
  refine gs_ints h (by (repeat' (first|exact VsOf.nil|apply VsOf.cons|(apply VOf.int;first|assumption|(constructor<;>first|omega|(simp only [lz] at *;omega)))|exact VOf.bool|exact VOf.str))) rfl (by decide) fun x1 w1 u1 hu1 hs1 h hx1=>?_
  refine gs_one h hx1 (by omega) (by simp) (by simp) fun d w2 h hj=>?_
  have hd4:1≤d∧d≤4:=by simp only [List.mem_cons,List.not_mem_nil,or_false] at hj;omega
  have hp1:=hp.mono hu1
  have hv1:=hv.mono hu1
  obtain ⟨q,hq1,hq⟩:=c_isArrow (n:=d) (hp1.rx.mono h.sub) hp.gd.len.2
  
  have go:∀ d:Int,1≤d→d≤4→Trip Tryz.prog 94 #[x.val,iV d] w2 fun r10 w11=>
          ∃ x12:Sl,r10=x12.val∧
          Trip Tryz.prog 105 #[(pt a),.agg #[x.val,y.val],z.val,iV d] w11 fun r13 w14=>
            ∃ n15:Int,∃ n16:Int,∃ x17:Sl,r13=.agg #[iV n15,iV n16,x17.val]∧
            StepT Tryz.prog (Instr.buildSlice 84 1 #[(0,(.agg #[iV n15,iV n16,x17.val]))]) w14 fun r18 w19=>
              ∃ x20:Sl,r18=x20.val∧
              ∃ I21:Sl→Int→World→Prop,∃ m22:Sl→Int→World→Nat,I21 x20 0 w19∧
              ∀ x23:Sl,∀ n24:Int,∀ w25:World,I21 x23 n24 w25→
              ((decide (n24 < (x12.n:Int)))=true→
                IxOk x12 n24∧
                ∃ n26:Int,w25.cell? ((elA x12 n24 1).add 0)=some (iV n26)∧
                ∃ n27:Int,Wr .i64 (b - 2) n27∧
                ∃ n28:Int,(((x12.n:Int):Int)≠0∧Wr .i64 (Int.tdiv n27 (x12.n:Int)) n28)∧
                Trip Tryz.prog 95 #[x.val,iV n26] w25 fun r29 w30=>
                  ∃ x31:Sl,r29=x31.val∧
                  Sub w25 w30∧
                  Trip Tryz.prog 99 #[z.val,x31.val] w30 fun r32 w33=>
                    ∃ x34:Sl,r32=x34.val∧
                    Sub w30 w33∧
                    Trip Tryz.prog 101 #[(pt a),.agg #[x.val,y.val],x34.val,iV t,iV n28] w33 fun r35 w36=>
                      ∃ n37:Int,∃ n38:Int,∃ x39:Sl,r35=.agg #[iV n37,iV n38,x39.val]∧
                      StepT Tryz.prog (Instr.buildSlice 84 1 #[(0,(.agg #[iV n37,iV n38,x39.val]))]) w36 fun r40 w41=>
                        ∃ x42:Sl,r40=x42.val∧
                        StepT Tryz.prog (Builtin.append_ #[84,84] 84 #[(x23.val),(x42.val)]) w41 fun r43 w44=>
                          ∃ x45:Sl,r43=x45.val∧
                          ∃ n46:Int,Wr .i64 (n24+1) n46∧
                          ((.sl x:SV)=.sl x)∧
                          ((.sl y:SV)=.sl y)∧
                          ((.num .i64 0:SV)=.num .i64 0)∧
                          ((.num .i64 0:SV)=.num .i64 0)∧
                          ((.sl (Sl.mk none 0 0):SV)=.sl (Sl.mk none 0 0))∧
                          I21 x45 n46 w44∧
                          m22 x45 n46 w44 < m22 x23 n24 w25)∧
              ((decide (n24 < (x12.n:Int)))=false→
                Trip Tryz.prog 102 #[iV 8,iV d,x23.val] w25 fun r47 w48=>
                  ∃ n49:Int,∃ n50:Int,∃ x51:Sl,r47=.agg #[iV n49,iV n50,x51.val]∧
                  ∃ n1 n2 s,Value.agg #[iV n49,iV n50,x51.val]=.agg #[iV n1,iV n2,Sl.val s]∧GQ ⟨ds,fs.length,vars.length⟩ u a R (m+(Pg b - 10)) (Pg b) n1 n2 s w48):=by
    intro d d1 d2
    refine gs_consOf hp1 ⟨by omega,by omega⟩ h fun xc w3 u3 hu3 hs3 h hxc=>?_
    have hcn:=hxc.n
    have hcl:=(consL_sm (n:=d) hty).1
    refine use_e (c_leaf (hp1.mono hu3) (hv1.mono hu3) hvl (by omega) d2 (by omega) h) ?_
    rintro n1 n2 x4 w4 ⟨u4,hu4,h,e,rfl,rfl,hr,hce,hne⟩
    obtain ⟨I4,hR4,hS4⟩:=h
    refine St.build (α:=ExprD) hS4 (VsOf.cons (vof hr hce.1) VsOf.nil) rfl (by decide) fun x5 w5 J5 hO5 hS5 hs5=>⟨x5,rfl,?_⟩
    have h:GS u4 a (J5++R) (m+26) w5:=⟨I4,hR4.le (by omega),hS5.to⟩
    generalize hP:Pg ((b - 2).tdiv (consL ds d).length)=P
    have hPp:30≤P:=by rw [←hP];exact Pg_pos _
    have hsplit:=Pg_split (b:=b - 2) (n:=(consL ds d).length) (by omega) (by omega)
    rw [hP] at hsplit
    have hxc4:=hxc.mono hu4
    refine ⟨fun s i w=>∃ (u6:World) (J:Items) (ks:List ExprD),Sub u4 u6∧GS u6 a (J++R) (m+26+i * P) w∧Own u6 s ks J∧(∃ k0 ks',ks=k0 ::ks'∧cE ⟨ds,fs.length,vars.length⟩ k0∧armC ⟨ds,fs.length,vars.length⟩ d ks')∧(nodesL ks:Int)≤4+i * P∧(ks.length:Int)=1+i∧0≤i∧i≤(consL ds d).length,fun _ i _=>((consL ds d).length - i).toNat,⟨u4,J5,_,.refl _,by simpa using h,hO5,⟨_,[],rfl,hce,armC_nil⟩,by rw [nodesL_cons,nodesL_nil];omega,rfl,by omega,by omega⟩,?_⟩
    clear h hO5 hS5 hR4 hS4
    rintro s i w6 ⟨u6,J6,ks,hu6,h,hO,⟨k0,ks',hks,hc0,hcl2⟩,hnl,hkl,i0,i1⟩
    dsimp only
    refine ⟨fun hi=>?_,fun hi=>?_⟩
    · simp only [bls] at hi
      have hil:i < (consL ds d).length:=by omega
      have htd:=tdiv_pos (b:=b - 2) (n:=(consL ds d).length) (by omega) (by omega)
      have hmul:(i+1) * P=i * P+P:=by rw [Int.add_mul];omega
      have hle:(i+1) * P≤(consL ds d).length * P:=Int.mul_le_mul_of_nonneg_right (by omega) (by omega)
      have hxc6:=hxc4.mono hu6
      refine go_ix hxc6 i0 hil ?_
      refine ⟨_,((hxc6.mono h.sub).int i0 hil).1,?_⟩
      have hnn:=consL_num hty d _ (nth_mem (l:=consL ds d) i0 hil)
      refine go_wr (by omega) (by omega) ?_
      refine go_quo (by omega) (by rw [hcn];omega) (by rw [hcn];omega) ?_
      rw [hcn]
      have hp6:=((((hp1.mono hu3).mono hu4).mono hu6).app J6)
      refine gs_conFields hp6 ⟨by omega,by omega⟩ h fun xf w7 u7 hu7 hs7 h hxf=>⟨hs7,?_⟩
      have hfl:=conF_len3 hty (nth (consL ds d) i)
      refine gs_extendV (((((hv1.mono hu3).mono hu4).mono hu6).mono hu7).app J6) hxf (by omega) h fun xv w8 u8 hu8 hs8 h hxv=>⟨hs8,?_⟩
      refine use_e (H _ htd.1 (by omega) u8 a (J6++R) x y xv ds fs _ _ _ _ ((hp6.mono hu7).mono hu8) (.of hxv) (by rw [List.length_append];omega) (by rw [List.length_append];omega) t0 t1 (by rw [hP];omega) h) ?_
      rw [hP]
      rintro n1 n2 xk w9 ⟨u9,hu9,h,e,rfl,rfl,hr,hce,hne⟩
      refine gs_push h (((hO.mono hu7).mono hu8).mono hu9) hr hce (by omega) fun x' w10 J10 h hO=>?_
      refine go_wr (by omega) (by omega) ?_
      refine ⟨rfl,rfl,rfl,rfl,rfl,⟨u9,J10,_,((hu6.trans hu7).trans hu8).trans hu9,h.le (by omega),hO,⟨k0,ks'++[e],by rw [hks];rfl,hc0,armC_snoc hcl2 (hce.le rfl rfl ?_)⟩,by rw [nodesL_snoc];omega,by simp;omega,by omega,by omega⟩,by omega⟩
      have hkl':((ks'.length:Nat):Int)=i:=by rw [hks,List.length_cons] at hkl;omega
      rw [hkl',List.length_append]
      exact Nat.le_refl _
    · simp only [bls] at hi
      have e:i=(consL ds d).length:=by omega
      subst e
      refine gs_node ?_
      exact ⟨_,_,_,rfl,gs_finE (h.le (by omega)) hO (((hu1.trans hu3).trans hu4).trans hu6) (by rw [hks];exact cE.match_ (by omega) (by omega) hc0 hcl2 (by rw [hks,List.length_cons] at hkl;show ks'.length=(consL ds d).length;omega)) (by omega)⟩
  exact ⟨q,fun _=>hq,fun _=>go 1 (by omega) (by omega),fun _=>go d hd4.1 hd4.2⟩
end
section
variable {C:CxE} {u u' w:World} {x y z s x1 x2 x3:Sl} {ds:List DeclD} {fs:List FunD} {a:Addr} {R:Items} {m N1 N2 N3 n n1 n2 k1 k2 l1 l2 op num t b:Int} {l vars types:List Int} {ks:List ExprD}
theorem gs_node1 (h:GS u a R m w) (h1:EV C u N1 n1 n2 x1) (hok:okS C op num 1) {K:Int→Int→Sl→World→Prop} (k:∀ x w' u',Sub u u'→GS u' a R m w'→EV C u' (1+N1) op num x→K op num x w'):
    StepT Tryz.prog (Instr.buildSlice 84 1 #[(0,(.agg #[iV n1,iV n2,x1.val]))]) w fun r w1=>∃ x:Sl,r=x.val∧Trip Tryz.prog 102 #[iV op,iV num,x.val] w1 fun r w'=>∃ n1 n2 x',r=.agg #[iV n1,iV n2,x'.val]∧K n1 n2 x' w':=by
  obtain ⟨e1,rfl,rfl,r1,c1,g1⟩:=h1
  refine gs_kids (ks:=[e1]) h (by exact VsOf.cons (vof r1 c1.1) VsOf.nil) rfl (by decide) fun x w1 u1 hu hs h hx=>?_
  exact gs_node (k x w1 u1 hu h (EV.mk hx (cL_cons c1 cL_nil) hok (by rw [nodesL_cons,nodesL_nil];omega)))
theorem gs_node2 (h:GS u a R m w) (h1:EV C u N1 n1 n2 x1) (h2:EV C u N2 k1 k2 x2) (hok:okS C op num 2) {K:Int→Int→Sl→World→Prop} (k:∀ x w' u',Sub u u'→GS u' a R m w'→EV C u' (1+N1+N2) op num x→K op num x w'):
    StepT Tryz.prog (Instr.buildSlice 84 2 #[(0,(.agg #[iV n1,iV n2,x1.val])),(1,(.agg #[iV k1,iV k2,x2.val]))]) w fun r w1=>∃ x:Sl,r=x.val∧Trip Tryz.prog 102 #[iV op,iV num,x.val] w1 fun r w'=>∃ n1 n2 x',r=.agg #[iV n1,iV n2,x'.val]∧K n1 n2 x' w':=by
  obtain ⟨e1,rfl,rfl,r1,c1,g1⟩:=h1
  obtain ⟨e2,rfl,rfl,r2,c2,g2⟩:=h2
  refine gs_kids (ks:=[e1,e2]) h (by exact VsOf.cons (vof r1 c1.1) (VsOf.cons (vof r2 c2.1) VsOf.nil)) rfl (by decide) fun x w1 u1 hu hs h hx=>?_
  exact gs_node (k x w1 u1 hu h (EV.mk hx (cL_cons c1 (cL_cons c2 cL_nil)) hok (by rw [nodesL_cons,nodesL_cons,nodesL_nil];omega)))
theorem gs_node3 (h:GS u a R m w) (h1:EV C u N1 n1 n2 x1) (h2:EV C u N2 k1 k2 x2) (h3:EV C u N3 l1 l2 x3) (hok:okS C op num 3) {K:Int→Int→Sl→World→Prop} (k:∀ x w' u',Sub u u'→GS u' a R m w'→EV C u' (1+N1+N2+N3) op num x→K op num x w'):
    StepT Tryz.prog (Instr.buildSlice 84 3 #[(0,(.agg #[iV n1,iV n2,x1.val])),(1,(.agg #[iV k1,iV k2,x2.val])),(2,(.agg #[iV l1,iV l2,x3.val]))]) w fun r w1=>∃ x:Sl,r=x.val∧Trip Tryz.prog 102 #[iV op,iV num,x.val] w1 fun r w'=>∃ n1 n2 x',r=.agg #[iV n1,iV n2,x'.val]∧K n1 n2 x' w':=by
  obtain ⟨e1,rfl,rfl,r1,c1,g1⟩:=h1
  obtain ⟨e2,rfl,rfl,r2,c2,g2⟩:=h2
  obtain ⟨e3,rfl,rfl,r3,c3,g3⟩:=h3
  refine gs_kids (ks:=[e1,e2,e3]) h (by exact VsOf.cons (vof r1 c1.1) (VsOf.cons (vof r2 c2.1) (VsOf.cons (vof r3 c3.1) VsOf.nil))) rfl (by decide) fun x w1 u1 hu hs h hx=>?_
  exact gs_node (k x w1 u1 hu h (EV.mk hx (cL_cons c1 (cL_cons c2 (cL_cons c3 cL_nil))) hok (by rw [nodesL_cons,nodesL_cons,nodesL_cons,nodesL_nil];omega)))
theorem gs_let {C':CxE} (h:GS u a R m w) (h1:EV C u N1 n1 n2 x1) (h2:EV C' u N2 k1 k2 x2) (hd:C'.ds=C.ds) (hn:C'.nf=C.nf) (hV:C'.V≤C.V+1) {K:Int→Int→Sl→World→Prop} (k:∀ x w' u',Sub u u'→GS u' a R m w'→EV C u' (1+N1+N2) 13 0 x→K 13 0 x w'):
    StepT Tryz.prog (Instr.buildSlice 84 2 #[(0,(.agg #[iV n1,iV n2,x1.val])),(1,(.agg #[iV k1,iV k2,x2.val]))]) w fun r w1=>∃ x:Sl,r=x.val∧Trip Tryz.prog 102 #[iV 13,iV 0,x.val] w1 fun r w'=>∃ n1 n2 x',r=.agg #[iV n1,iV n2,x'.val]∧K n1 n2 x' w':=by
  obtain ⟨e1,rfl,rfl,r1,c1,g1⟩:=h1
  obtain ⟨e2,rfl,rfl,r2,c2,g2⟩:=h2
  refine gs_kids (ks:=[e1,e2]) h (by exact VsOf.cons (vof r1 c1.1) (VsOf.cons (vof r2 c2.1) VsOf.nil)) rfl (by decide) fun x w1 u1 hu hs h hx=>?_
  exact gs_node (k x w1 u1 hu h (EV.of hx (cE.let_ c1 (c2.le hd hn hV)) (by rw [nodesL_cons,nodesL_cons,nodesL_nil];omega)))
theorem gs_nodeL (h:GS u a R m w) (hx:Read u x ks) (hc:cL C ks) (hn:(nodesL ks:Int)≤N1) (hok:okS C op num ks.length) {K:Int→Int→Sl→World→Prop} (k:EV C u (1+N1) op num x→K op num x w):
    Trip Tryz.prog 102 #[iV op,iV num,x.val] w fun r w'=>∃ n1 n2 x',r=.agg #[iV n1,iV n2,x'.val]∧K n1 n2 x' w':=
  gs_node (k (EV.mk hx hc hok (by omega)))
theorem gs_gen (H:GenC b) (hp:PrgG u R x y ds fs) (hv:VrG u R z vars) (h1:vars.length+4 * b≤99) (h2:vars.length≤99) (t0:0≤t) (t1:t≤4) (hm:m+Pg b≤999900000) (h:GS u a R m w) {K:Int→Int→Sl→World→Prop}
    (k:∀ n1 n2 s w' u',Sub u u'→GS u' a R (m+Pg b) w'→EV ⟨ds,fs.length,vars.length⟩ u' (Pg b) n1 n2 s→K n1 n2 s w'):
    Trip Tryz.prog 101 #[(pt a),.agg #[x.val,y.val],z.val,iV t,iV b] w fun r w'=>∃ n1 n2 s,r=.agg #[iV n1,iV n2,Sl.val s]∧K n1 n2 s w':=
  use_e (H u a R x y z ds fs vars t m w hp hv h1 h2 t0 t1 hm h) fun n1 n2 s w' ⟨u',q1,q2,q3⟩=>k n1 n2 s w' u' q1 q2 q3
theorem gs_leaf (hp:PrgG u R x y ds fs) (hv:VrG u R z vars) (hvl:vars.length≤99) (t0:0≤t) (t1:t≤4) (hm:m+30≤999900000) (h:GS u a R m w) {K:Int→Int→Sl→World→Prop}
    (k:∀ n1 n2 s w' u',Sub u u'→GS u' a R (m+25) w'→EV ⟨ds,fs.length,vars.length⟩ u' 4 n1 n2 s→K n1 n2 s w'):
    Trip Tryz.prog 105 #[(pt a),.agg #[x.val,y.val],z.val,iV t] w fun r w'=>∃ n1 n2 s,r=.agg #[iV n1,iV n2,Sl.val s]∧K n1 n2 s w':=
  use_e (c_leaf hp hv hvl t0 t1 hm h) fun n1 n2 s w' ⟨u',q1,q2,q3⟩=>k n1 n2 s w' u' q1 q2 q3
theorem c_genOther (H:∀ b',0≤b'→b' < b→GenC b') (hp:PrgG u R x y ds fs) (hv:VrG u R z vars) (hvl:vars.length≤99) (b0:3≤b) (b1:b≤100) (hvb:vars.length+4 * b≤99) (t0:0≤t) (t1:t≤4) (hm:m+(Pg b - 10)≤999900000) (h:GS u a R m w):
    Trip Tryz.prog 138 #[(pt a),.agg #[x.val,y.val],z.val,iV t,iV b] w fun r w'=>∃ n1 n2 s,r=.agg #[iV n1,iV n2,Sl.val s]∧GQ ⟨ds,fs.length,vars.length⟩ u a R (m+(Pg b - 10)) (Pg b) n1 n2 s w':=by
  refine of138 _ _ _ _ _ _ _ _ ?_
  unfold vc138
  have hxn:=hp.rx.n
  have hdl:=hp.gd.len
  have hty:=hp.gd.types
  have hPb:=Pg_at (b:=b) (by omega)
  have hP2:=Pg_at (b:=b - 2) (by omega)
  refine ⟨fun w=>∃ u1,Sub u u1∧GS u1 a R (m+1) w,?_,?_⟩
  · refine gs_pick h (by omega) (by omega) (by omega) fun j w1 h _ _ _=>⟨fun hc=>?_,fun hc=>⟨rfl,rfl,rfl,rfl,rfl,u,.refl _,h⟩⟩
    refine ⟨fun i w=>GS u a R (m+1) w∧1≤i∧i≤5,fun i _=>((ds.length:Int)+1 - i).toNat,⟨h,by omega,by omega⟩,?_⟩
    clear h
    rintro i w2 ⟨h,i0,i1⟩
    dsimp only
    refine ⟨fun hi=>?_,fun hi=>⟨rfl,rfl,rfl,rfl,rfl,u,.refl _,h⟩⟩
    simp only [bls] at hi
    obtain ⟨q,hq1,hq⟩:=c_isArrow (n:=i) (hp.rx.mono h.sub) hp.gd.len.2
    have hil:i - 1 < ds.length:=by omega
    have hi0:0≤i - 1:=by omega
    have hdd:=hp.gd.decl _ (nth_mem (l:=ds) hi0 hil)
    obtain ⟨q2,hq2⟩:=gs_canMakeV hp h hv i
    have cells:∀ {u2:World} {m2:Int} {w2:World},Sub u u2→GS u2 a R m2 w2→w2.cell? ((elA x (i - 1) 3).add 0)=some (iV (nth ds (i - 1)).frm)∧w2.cell? ((elA x (i - 1) 3).add 1)=some (iV (nth ds (i - 1)).to_):=by
      intro u2 m2 w2 hu2 h2
      obtain ⟨fc,e1,e2,_⟩:=(hp.rx.src (hu2.trans h2.sub)).ofDeclD hi0 hil
      exact ⟨e1,e2⟩
    have hix:=hp.rx.ix hi0 hil
    refine ⟨q,hq,?_⟩
    refine go_wrg (fun _=>⟨by omega,by omega⟩) ?_
    refine ⟨fun _=>hix,_,fun _=>(cells (.refl u) h).2,q2,fun _=>hq2,fun hc=>?_,fun hc=>?_⟩
    · refine go_wr (by omega) (by omega) ?_
      refine go_wr (by omega) (by omega) ?_
      
      have rest:∀ {u1 w3:World} {n1 n2:Int} {x3:Sl},Sub u u1→GS u1 a R (m+1+25) w3→EV ⟨ds,fs.length,vars.length⟩ u1 4 n1 n2 x3→
          Trip Tryz.prog 101 #[(pt a),.agg #[x.val,y.val],z.val,iV (nth ds (i - 1)).frm,iV (b - 2)] w3 fun r25 w26=>
                  ∃ n27:Int,∃ n28:Int,∃ x29:Sl,r25=.agg #[iV n27,iV n28,x29.val]∧
                  StepT Tryz.prog (Instr.buildSlice 84 2 #[(0,(.agg #[iV n1,iV n2,x3.val])),(1,(.agg #[iV n27,iV n28,x29.val]))]) w26 fun r30 w31=>
                    ∃ x32:Sl,r30=x32.val∧
                    Trip Tryz.prog 102 #[iV 11,iV 0,x32.val] w31 fun r33 w34=>
                      ∃ n35:Int,∃ n36:Int,∃ x37:Sl,r33=.agg #[iV n35,iV n36,x37.val]∧
                      ∃ n1 n2 s,Value.agg #[iV n35,iV n36,x37.val]=.agg #[iV n1,iV n2,Sl.val s]∧GQ ⟨ds,fs.length,vars.length⟩ u a R (m+(Pg b - 10)) (Pg b) n1 n2 s w34:=by
        intro u1 w3 n1 n2 x3 hu1 h he
        refine gs_gen (H (b - 2) (by omega) (by omega)) (hp.mono hu1) (hv.mono hu1) (by omega) hvl hdd.1 hdd.2.1 (by omega) h fun n3 n4 x4 w4 u4 hu4 h he4=>?_
        refine gs_node2 h (he.mono hu4) he4 (ok_zero (by omega) (by omega)) fun x5 w5 u5 hu5 h he5=>?_
        exact ⟨_,_,_,rfl,u5,(hu1.trans hu4).trans hu5,h.le (by omega),he5.le (by omega)⟩
      refine ⟨?_,hix,?_,_,(cells (.refl u) h).1,?_⟩
      · refine gs_leaf hp hv hvl (by omega) (by omega) (by omega) h fun n1 n2 x3 w3 u3 hu3 h he=>?_
        exact ⟨hix,_,(cells hu3 h).1,rest hu3 h he⟩
      · refine gs_leaf hp hv hvl (by omega) (by omega) (by omega) h fun n1 n2 x3 w3 u3 hu3 h he=>?_
        exact ⟨_,(cells hu3 h).1,rest hu3 h he⟩
      · exact gs_leaf hp hv hvl (by omega) (by omega) (by omega) h fun n1 n2 x3 w3 u3 hu3 h he=>rest hu3 h he
    · refine go_wr (by omega) (by omega) ?_
      exact ⟨rfl,rfl,rfl,rfl,rfl,⟨h,by omega,by omega⟩,by omega⟩
  rintro w1 ⟨u1,hu1,h⟩
  have hp1:=hp.mono hu1
  have hv1:=hv.mono hu1
  refine gs_consOf hp1 ⟨by omega,by omega⟩ h fun xc w2 u2 hu2 hs2 h hxc=>?_
  have hcn:=hxc.n
  have hcl:=(consL_sm (n:=t) hty).1
  have hp2:=hp1.mono hu2
  have hv2:=hv1.mono hu2
  refine ⟨fun hc=>?_,fun hc=>⟨fun ht=>?_,fun ht=>?_⟩⟩
  · simp only [bls] at hc
    refine gs_pick h (by omega) (by omega) (by omega) fun j w3 h j0 j1 _=>?_
    refine go_ix hxc j0 (by omega) ?_
    refine ⟨_,((hxc.mono h.sub).int j0 (by omega)).1,?_⟩
    have hnn:=consL_num hty t _ (nth_mem (l:=consL ds t) j0 (by omega))
    have hfl:=conF_len3 hty (nth (consL ds t) j)
    have hsp:=Pg_split (b:=b - 1) (n:=(conF ds (nth (consL ds t) j)).length) (by omega) (by omega)
    refine go_wr (by omega) (by omega) ?_
    refine gs_conFields hp2 ⟨by omega,by omega⟩ h fun xf w4 u4 hu4 hs4 h hxf=>⟨hs4,?_⟩
    refine gs_genAll (fun hz=>H _ (tdiv_pos (by omega) (by omega)).1 (by have:=(tdiv_pos (b:=b - 1) (n:=(conF ds (nth (consL ds t) j)).length) (by omega) (by omega)).2;omega)) (hp2.mono hu4) (hv2.mono hu4) hvl hxf hfl (conF_nn hty _) (by omega) (by omega) (by omega) (by omega) h fun x5 w5 u5 ks hu5 h hx5 hc5 hn5 hl5=>?_
    refine gs_nodeL h hx5 hc5 hn5 (ok_con hnn.1 hnn.2) fun he=>?_
    exact ⟨_,_,_,rfl,u5,((hu1.trans hu2).trans hu4).trans hu5,h.le (by omega),he.le (by omega)⟩
  · refine gs_leaf hp2 hv2 hvl t0 t1 (by omega) h fun n1 n2 x3 w3 u3 hu3 h he=>?_
    exact ⟨_,_,_,rfl,u3,(hu1.trans hu2).trans hu3,h.le (by omega),he.le (by omega)⟩
  · have fin:∀ {u3 w3:World} {xt:Sl} {m3:Int} {types:List Int} {op:Int},Sub u2 u3→GS u3 a R m3 w3→m3≤m+4→Read u3 xt types→(types.length=1∨types.length=2)→(∀ t∈types,0≤t∧t≤4)→(op=1∨op=2∨op=3∨op=4∨op=5)→
        Trip Tryz.prog 135 #[(pt a),.agg #[x.val,y.val],z.val,xt.val,iV (b - 1)] w3 fun r109 w110=>
                ∃ x111:Sl,r109=x111.val∧
                Trip Tryz.prog 102 #[iV op,iV 0,x111.val] w110 fun r112 w113=>
                  ∃ n114:Int,∃ n115:Int,∃ x116:Sl,r112=.agg #[iV n114,iV n115,x116.val]∧
                  ∃ n1 n2 s,Value.agg #[iV n114,iV n115,x116.val]=.agg #[iV n1,iV n2,Sl.val s]∧GQ ⟨ds,fs.length,vars.length⟩ u a R (m+(Pg b - 10)) (Pg b) n1 n2 s w113:=by
      intro u3 w3 xt m3 types op hu3 h hm3 hxt htl htt hop
      have hsp:=Pg_split (b:=b - 1) (n:=types.length) (by omega) (by omega)
      have htd:=tdiv_pos (b:=b - 1) (n:=types.length) (by omega) (by omega)
      refine gs_genAll (fun _=>H _ htd.1 (by omega)) (hp2.mono hu3) (hv2.mono hu3) hvl hxt (by omega) htt (by omega) (by omega) (by omega) (by omega) h fun x5 w5 u5 ks hu5 h hx5 hc5 hn5 hl5=>?_
      refine gs_nodeL h hx5 hc5 hn5 (ok_zero (by omega) (by omega)) fun he=>?_
      exact ⟨_,_,_,rfl,u5,((hu1.trans hu2).trans hu3).trans hu5,h.le (by omega),he.le (by omega)⟩
    refine gs_pick h (by omega) (by omega) (by omega) fun j w3 h j0 j1 _=>⟨fun hj=>?_,fun hj=>?_⟩
    · refine gs_ints h (by (repeat' (first|exact VsOf.nil|apply VsOf.cons|(apply VOf.int;first|assumption|(constructor<;>first|omega|(simp only [lz] at *;omega)))|exact VOf.bool|exact VOf.str))) rfl (by decide) fun x4 w4 u4 hu4 hs4 h hx4=>?_
      refine go_wr (by omega) (by omega) ?_
      exact fin hu4 h (by omega) hx4 (.inl rfl) (by decide) (by omega)
    · refine go_wr (by omega) (by omega) ?_
      refine ⟨?_,?_⟩
      · refine gs_ints h (by (repeat' (first|exact VsOf.nil|apply VsOf.cons|(apply VOf.int;first|assumption|(constructor<;>first|omega|(simp only [lz] at *;omega)))|exact VOf.bool|exact VOf.str))) rfl (by decide) fun x4 w4 u4 hu4 hs4 h hx4=>⟨?_,?_⟩
        · refine gs_one h hx4 (by omega) (by simp) (by simp) fun o w5 h ho=>?_
          refine gs_ints h (by (repeat' (first|exact VsOf.nil|apply VsOf.cons|(apply VOf.int;first|assumption|(constructor<;>first|omega|(simp only [lz] at *;omega)))|exact VOf.bool|exact VOf.str))) rfl (by decide) fun x6 w6 u6 hu6 hs6 h hx6=>?_
          exact fin (hu4.trans hu6) h (by omega) hx6 (.inr rfl) (by decide) (by simp only [List.mem_cons,List.not_mem_nil,or_false] at ho;omega)
        · refine gs_ints h (by (repeat' (first|exact VsOf.nil|apply VsOf.cons|(apply VOf.int;first|assumption|(constructor<;>first|omega|(simp only [lz] at *;omega)))|exact VOf.bool|exact VOf.str))) rfl (by decide) fun x6 w6 u6 hu6 hs6 h hx6=>?_
          refine gs_one h (hx4.mono hu6) (by omega) (by simp) (by simp) fun o w5 h ho=>?_
          exact fin (hu4.trans hu6) h (by omega) hx6 (.inr rfl) (by decide) (by simp only [List.mem_cons,List.not_mem_nil,or_false] at ho;omega)
      · refine gs_ints h (by (repeat' (first|exact VsOf.nil|apply VsOf.cons|(apply VOf.int;first|assumption|(constructor<;>first|omega|(simp only [lz] at *;omega)))|exact VOf.bool|exact VOf.str))) rfl (by decide) fun x6 w6 u6 hu6 hs6 h hx6=>?_
        refine gs_ints h (by (repeat' (first|exact VsOf.nil|apply VsOf.cons|(apply VOf.int;first|assumption|(constructor<;>first|omega|(simp only [lz] at *;omega)))|exact VOf.bool|exact VOf.str))) rfl (by decide) fun x4 w4 u4 hu4 hs4 h hx4=>?_
        refine gs_one h hx4 (by omega) (by simp) (by simp) fun o w5 h ho=>?_
        exact fin (hu6.trans hu4) h (by omega) (hx6.mono hu4) (.inr rfl) (by decide) (by simp only [List.mem_cons,List.not_mem_nil,or_false] at ho;omega)
theorem gen_step (b:Int) (b1:b≤30) (H:∀ b',0≤b'→b' < b→GenC b'):GenC b:=by
  intro u a R x y z ds fs vars t m w hp hv hvb hvl t0 t1 hm h
  refine of101 _ _ _ _ _ _ _ _ ?_
  unfold vc101
  have hPp:=Pg_pos b
  have hty:=hp.gd.types
  refine ⟨fun hc=>?_,fun hc=>?_⟩
  · refine gs_leaf hp hv hvl t0 t1 (by omega) h fun n1 n2 x3 w3 u3 hu3 h he=>?_
    exact ⟨_,_,_,rfl,u3,hu3,h.le (by omega),he.le (by omega)⟩
  simp only [bls] at hc
  have hPb:=Pg_at (b:=b) (by omega)
  refine gs_pick h (by omega) (by omega) (by omega) fun j w1 h j0 j1 _=>⟨fun hj=>?_,fun hj=>?_⟩
  · refine gs_leaf hp hv hvl t0 t1 (by omega) h fun n1 n2 x3 w3 u3 hu3 h he=>?_
    exact ⟨_,_,_,rfl,u3,hu3,h.le (by omega),he.le (by omega)⟩
  refine ⟨fun _ w=>GS u a R (m+1) w,⟨fun _=>⟨rfl,rfl,rfl,rfl,rfl,h⟩,fun _=>⟨rfl,rfl,rfl,rfl,rfl,h⟩⟩,?_⟩
  clear h
  intro q w2 h
  refine ⟨fun hq=>?_,fun hq=>?_⟩
  · refine gs_anyType hp hv (by omega) h fun tt w3 u3 hu3 h tt0 tt1=>?_
    have hd:=tdiv_pos (b:=b) (n:=2) (by omega) (by omega)
    have h2:b.tdiv 2=b / 2:=Int.tdiv_eq_ediv_of_nonneg (by omega)
    have hP2:=Pg_at (b:=b.tdiv 2) (by omega)
    have hp3:=hp.mono hu3
    have hv3:=hv.mono hu3
    have Hh:=H (b.tdiv 2) (by omega) (by omega)
    refine go_quo (by omega) (by omega) (by omega) ?_
    refine go_quo (by omega) (by omega) (by omega) ?_
    have rest:∀ {u4 w4:World} {n1 n2:Int} {x4 xt:Sl},Sub u3 u4→GS u4 a R (m+1+1+Pg (b.tdiv 2)) w4→EV ⟨ds,fs.length,vars.length⟩ u4 (Pg (b.tdiv 2)) n1 n2 x4→Read u4 xt [tt]→
        Trip Tryz.prog 99 #[z.val,xt.val] w4 fun r30 w31=>
                    ∃ x32:Sl,r30=x32.val∧
                    Trip Tryz.prog 101 #[(pt a),.agg #[x.val,y.val],x32.val,iV t,iV (b.tdiv 2)] w31 fun r33 w34=>
                      ∃ n35:Int,∃ n36:Int,∃ x37:Sl,r33=.agg #[iV n35,iV n36,x37.val]∧
                      StepT Tryz.prog (Instr.buildSlice 84 2 #[(0,(.agg #[iV n1,iV n2,x4.val])),(1,(.agg #[iV n35,iV n36,x37.val]))]) w34 fun r38 w39=>
                        ∃ x40:Sl,r38=x40.val∧
                        Trip Tryz.prog 102 #[iV 13,iV 0,x40.val] w39 fun r41 w42=>
                          ∃ n43:Int,∃ n44:Int,∃ x45:Sl,r41=.agg #[iV n43,iV n44,x45.val]∧
                          ∃ n1 n2 s,Value.agg #[iV n43,iV n44,x45.val]=.agg #[iV n1,iV n2,Sl.val s]∧GQ ⟨ds,fs.length,vars.length⟩ u a R (m+Pg b) (Pg b) n1 n2 s w42:=by
      intro u4 w4 n1 n2 x4 xt hu4 h he hxt
      refine gs_extendV (hv3.mono hu4) hxt (by simp;omega) h fun xv w5 u5 hu5 hs5 h hxv=>?_
      refine gs_gen Hh ((hp3.mono hu4).mono hu5) (.of hxv) (by simp;omega) (by simp;omega) t0 t1 (by omega) h fun n3 n4 x6 w6 u6 hu6 h he6=>?_
      refine gs_let h ((he.mono hu5).mono hu6) he6 rfl rfl (by simp) fun x7 w7 u7 hu7 h he7=>?_
      exact ⟨_,_,_,rfl,u7,(((hu3.trans hu4).trans hu5).trans hu6).trans hu7,h.le (by omega),he7.le (by omega)⟩
    refine ⟨?_,?_⟩
    · refine gs_gen Hh hp3 hv3 (by omega) hvl tt0 tt1 (by omega) h fun n1 n2 x4 w4 u4 hu4 h he=>?_
      refine gs_ints h (by (repeat' (first|exact VsOf.nil|apply VsOf.cons|(apply VOf.int;first|assumption|(constructor<;>first|omega|(simp only [lz] at *;omega)))|exact VOf.bool|exact VOf.str))) rfl (by decide) fun xt w5 u5 hu5 hs5 h hxt=>⟨hs5,?_⟩
      exact rest (hu4.trans hu5) h (he.mono hu5) hxt
    · refine gs_ints h (by (repeat' (first|exact VsOf.nil|apply VsOf.cons|(apply VOf.int;first|assumption|(constructor<;>first|omega|(simp only [lz] at *;omega)))|exact VOf.bool|exact VOf.str))) rfl (by decide) fun xt w5 u5 hu5 hs5 h hxt=>⟨hs5,?_⟩
      refine gs_gen Hh (hp3.mono hu5) (hv3.mono hu5) (by omega) hvl tt0 tt1 (by omega) h fun n1 n2 x4 w4 u4 hu4 h he=>?_
      exact rest (hu5.trans hu4) h he (hxt.mono hu4)
  have other:∀ {u3 w3:World} {m3:Int},Sub u u3→GS u3 a R m3 w3→m3≤m+5→
      Trip Tryz.prog 138 #[(pt a),.agg #[x.val,y.val],z.val,iV t,iV b] w3 fun r115 w116=>
                  ∃ n117:Int,∃ n118:Int,∃ x119:Sl,r115=.agg #[iV n117,iV n118,x119.val]∧
                  ∃ n1 n2 s,Value.agg #[iV n117,iV n118,x119.val]=.agg #[iV n1,iV n2,Sl.val s]∧GQ ⟨ds,fs.length,vars.length⟩ u a R (m+Pg b) (Pg b) n1 n2 s w116:=by
    intro u3 w3 m3 hu3 h hm3
    refine use_e (c_genOther H (hp.mono hu3) (hv.mono hu3) hvl hc (by omega) hvb t0 t1 (by omega) h) fun n1 n2 s w' hq=>?_
    exact ⟨_,_,_,rfl,hq.le hu3 (by omega) (by omega)⟩
  have all:∀ {u3 w3:World} {xt:Sl} {m3:Int} {types:List Int} {op num:Int},Sub u u3→GS u3 a R m3 w3→m3≤m+5→Read u3 xt types→types.length≤3→(∀ t∈types,0≤t∧t≤4)→okS ⟨ds,fs.length,vars.length⟩ op num types.length→
        Trip Tryz.prog 135 #[(pt a),.agg #[x.val,y.val],z.val,xt.val,iV (b - 1)] w3 fun r109 w110=>
                ∃ x111:Sl,r109=x111.val∧
                Trip Tryz.prog 102 #[iV op,iV num,x111.val] w110 fun r112 w113=>
                  ∃ n114:Int,∃ n115:Int,∃ x116:Sl,r112=.agg #[iV n114,iV n115,x116.val]∧
                  ∃ n1 n2 s,Value.agg #[iV n114,iV n115,x116.val]=.agg #[iV n1,iV n2,Sl.val s]∧GQ ⟨ds,fs.length,vars.length⟩ u a R (m+Pg b) (Pg b) n1 n2 s w113:=by
      intro u3 w3 xt m3 types op num hu3 h hm3 hxt htl htt hop
      have hsp:=Pg_split (b:=b - 1) (n:=types.length) (by omega) (by omega)
      refine gs_genAll (fun hz=>H _ (tdiv_pos (by omega) (by omega)).1 (by have:=(tdiv_pos (b:=b - 1) (n:=types.length) (by omega) (by omega)).2;omega)) (hp.mono hu3) (hv.mono hu3) hvl hxt (by omega) htt (by omega) (by omega) (by omega) (by omega) h fun x5 w5 u5 ks hu5 h hx5 hc5 hn5 hl5=>?_
      refine gs_nodeL h hx5 hc5 hn5 (by rw [hl5];exact hop) fun he=>?_
      exact ⟨_,_,_,rfl,u5,hu3.trans hu5,h.le (by omega),he.le (by omega)⟩
  refine ⟨fun hj3=>?_,fun hj3=>?_⟩
  · refine gs_ints h (by (repeat' (first|exact VsOf.nil|apply VsOf.cons|(apply VOf.int;first|assumption|(constructor<;>first|omega|(simp only [lz] at *;omega)))|exact VOf.bool|exact VOf.str))) rfl (by decide) fun x4 w4 u4 hu4 hs4 h hx4=>?_
    refine go_wr (by omega) (by omega) ?_
    refine all hu4 h (by omega) hx4 (by simp) ?_ (ok_zero (by omega) (by simp))
    intro t' ht'
    simp only [List.mem_cons,List.not_mem_nil,or_false] at ht'
    omega
  refine ⟨fun _ w=>GS u a R (m+1) w,⟨fun _=>⟨rfl,rfl,rfl,rfl,rfl,h⟩,fun _=>⟨fun _=>⟨rfl,rfl,rfl,rfl,rfl,h⟩,fun _=>⟨rfl,rfl,rfl,rfl,rfl,h⟩⟩⟩,?_⟩
  clear h
  intro q3 w3 h
  refine ⟨fun hq3=>?_,fun hq3=>?_⟩
  · refine use_e (c_genMatch H hp hv hvl hc (by omega) hvb t0 t1 (by omega) h) fun n1 n2 s w' hq=>?_
    exact ⟨_,_,_,rfl,hq.le (.refl _) (by omega) (by omega)⟩
  refine ⟨fun _ w=>GS u a R (m+1) w,⟨fun _=>⟨rfl,rfl,rfl,rfl,rfl,h⟩,fun _=>⟨rfl,rfl,rfl,rfl,rfl,h⟩⟩,?_⟩
  clear h
  intro q4 w4 h
  refine ⟨fun hq4=>?_,fun hq4=>other (.refl _) h (by omega)⟩
  refine gs_mkw (c_callable (t:=t) (hp.rx.mono h.sub) hp.gd.len.2 (hp.fsr h) (fun f hf=>(sig_facts (hp.gf.2.2 f hf)).1) hp.gf.2.1) h fun xl l w5 u5 hu5 hs5 h hxl ⟨hl1,hl2⟩=>?_
  have hln:=hxl.n
  refine ⟨fun hcc=>?_,fun hcc=>other hu5 h (by omega)⟩
  simp only [bls] at hcc
  refine gs_pick h (by omega) (by omega) (by omega) fun k w6 h k0 k1 _=>?_
  refine go_ix hxl k0 (by omega) ?_
  refine ⟨_,((hxl.mono h.sub).int k0 (by omega)).1,?_⟩
  obtain ⟨f0,f1⟩:=hl2 _ (nth_mem (l:=l) k0 (by omega))
  generalize nth l k=f at f0 f1 ⊢
  have hf0:0≤f:=by omega
  obtain ⟨g1,g2,e1,_,_,_,_,_,_,_,r1,_⟩:=((hp.mono hu5).src h).ofFunD hf0 f1
  have hyf:=(hp.mono hu5).fsr h
  have hsf:=sig_facts (hp.gf.mem hf0 f1)
  have hfl:=hp.gf.2.1
  refine go_ix hyf hf0 f1 ?_
  refine ⟨g1,e1,?_⟩
  refine go_wr (by omega) (by omega) ?_
  exact all hu5 h (by omega) r1 hsf.1 (fun t ht=>by have:=hsf.2.1 t ht;omega) (ok_call hf0 (by omega) f1)
theorem c_gen:∀ b:Int,b≤30→GenC b:=by
  have key:∀ n:Nat,∀ b:Int,b≤n→b≤30→GenC b:=by
    intro n
    induction n with
    | zero=>exact fun b h1 h2=>gen_step b h2 fun b' h0 h3=>by omega
    | succ n ih=>exact fun b h1 h2=>gen_step b h2 fun b' h0 h3=>ih b' (by omega) (by omega)
  exact fun b hb=>key b.toNat b (by omega) hb
end
abbrev Cv (ds:List DeclD) (fs:List FunD) (vars:List Int):CxE:=⟨ds,fs.length,vars.length⟩
def GX (C:CxE) (u:World) (a:Addr) (R:Items) (m N:Int) (r:Value) (w:World):Prop:=∃ n1 n2 s,r=.agg #[iV n1,iV n2,Sl.val s]∧GQ C u a R m N n1 n2 s w
section
variable {C:CxE} {u u' w:World} {x y z s x1 x2 x3:Sl} {ds:List DeclD} {fs:List FunD} {a:Addr} {I J R:Items} {m m' N N' N1 N2 N3 n n1 n2 k1 k2 l1 l2 t b f:Int} {vars:List Int} {ks:List ExprD} {e:ExprD}
theorem gx (hu:Sub u u') (h:GS u' a R m w) (he:EV C u' N n1 n2 x) (hm:m≤m') (hN:N≤N'):GX C u a R m' N' (.agg #[iV n1,iV n2,x.val]) w:=
  ⟨_,_,_,rfl,u',hu,h.le hm,he.le hN⟩
theorem use_x {P:Program} {f:FuncId} {args:Array Value} {K:Int→Int→Sl→World→Prop} (hT:Trip P f args w (GX C u a R m N)) (k:∀ n1 n2 x w' u',Sub u u'→GS u' a R m w'→EV C u' N n1 n2 x→K n1 n2 x w'):
    Trip P f args w fun r w'=>∃ n1 n2 x,r=.agg #[iV n1,iV n2,Sl.val x]∧K n1 n2 x w':=
  hT.mono' fun _ _ ⟨n1,n2,x,h1,u',h2,h3,h4⟩=>⟨n1,n2,x,h1,k _ _ _ _ u' h2 h3 h4⟩
theorem Pg_mono (h:b≤18):Pg b≤2240:=by unfold Pg;split<;>omega
theorem EV.nodes (h:EV C u N n1 n2 x) (hs:Sub u w):∃ q,Fn Tryz.prog 81 #[.agg #[iV n1,iV n2,x.val]] w (iV q):=by
  obtain ⟨e,rfl,rfl,r,_⟩:=h
  exact ⟨_,c_spNodesOf (r.mono hs)⟩
theorem gs_kids2 (h:GS u a R m w) (h1:EV C u N1 n1 n2 x1) (h2:EV C u N2 k1 k2 x2) {K:Sl→World→Prop} (k:∀ x w' u' ks,Sub u u'→Sub w w'→GS u' a R m w'→Read u' x ks→cL C ks→(nodesL ks:Int)≤N1+N2→ks.length=2→K x w'):
    StepT Tryz.prog (Instr.buildSlice 84 2 #[(0,(.agg #[iV n1,iV n2,x1.val])),(1,(.agg #[iV k1,iV k2,x2.val]))]) w fun r w1=>∃ x:Sl,r=x.val∧K x w1:=by
  obtain ⟨e1,rfl,rfl,r1,c1,g1⟩:=h1
  obtain ⟨e2,rfl,rfl,r2,c2,g2⟩:=h2
  refine gs_kids (ks:=[e1,e2]) h (by exact VsOf.cons (vof r1 c1.1) (VsOf.cons (vof r2 c2.1) VsOf.nil)) rfl (by decide) fun x w1 u1 hu hs h hx=>?_
  exact k x w1 u1 _ hu hs h hx (cL_cons c1 (cL_cons c2 cL_nil)) (by rw [nodesL_cons,nodesL_cons,nodesL_nil];omega) rfl
theorem gs_kids3 (h:GS u a R m w) (h1:EV C u N1 n1 n2 x1) (h2:EV C u N2 k1 k2 x2) (h3:EV C u N3 l1 l2 x3) {K:Sl→World→Prop} (k:∀ x w' u' ks,Sub u u'→Sub w w'→GS u' a R m w'→Read u' x ks→cL C ks→(nodesL ks:Int)≤N1+N2+N3→ks.length=3→K x w'):
    StepT Tryz.prog (Instr.buildSlice 84 3 #[(0,(.agg #[iV n1,iV n2,x1.val])),(1,(.agg #[iV k1,iV k2,x2.val])),(2,(.agg #[iV l1,iV l2,x3.val]))]) w fun r w1=>∃ x:Sl,r=x.val∧K x w1:=by
  obtain ⟨e1,rfl,rfl,r1,c1,g1⟩:=h1
  obtain ⟨e2,rfl,rfl,r2,c2,g2⟩:=h2
  obtain ⟨e3,rfl,rfl,r3,c3,g3⟩:=h3
  refine gs_kids (ks:=[e1,e2,e3]) h (by exact VsOf.cons (vof r1 c1.1) (VsOf.cons (vof r2 c2.1) (VsOf.cons (vof r3 c3.1) VsOf.nil))) rfl (by decide) fun x w1 u1 hu hs h hx=>?_
  exact k x w1 u1 _ hu hs h hx (cL_cons c1 (cL_cons c2 (cL_cons c3 cL_nil))) (by rw [nodesL_cons,nodesL_cons,nodesL_cons,nodesL_nil];omega) rfl
theorem c_fitting (hp:PrgG u R x y ds fs) (hv:VrG u R z vars) (hvl:vars.length≤10) (t0:0≤t) (t1:t≤4) (b0:0≤b) (b1:b≤18) (hm:m+50000≤999900000) (h:GS u a R m w):
    Trip Tryz.prog 80 #[(pt a),.agg #[x.val,y.val],z.val,iV t,iV b] w (GX (Cv ds fs vars) u a R (m+43000) 5000):=by
  refine of80 _ _ _ _ _ _ _ _ ?_
  unfold vc80
  have hb:=Pg_mono b1
  have hb0:=Pg_pos b
  refine gs_gen (c_gen b (by omega)) hp hv (by omega) (by omega) t0 t1 (by omega) h fun n1 n2 x1 w1 u1 hu1 h he=>?_
  refine ⟨fun b' n1 n2 s w=>∃ u2,Sub u u2∧GS u2 a R (m+2240 * (19 - b')) w∧EV (Cv ds fs vars) u2 2240 n1 n2 s∧0≤b'∧b'≤18,fun b' _ _ _ _=>b'.toNat,⟨u1,hu1,h.le (by omega),he.le (by omega),b0,b1⟩,?_⟩
  clear h he
  rintro b' n1 n2 s w2 ⟨u2,hu2,h,he,p0,p1⟩
  dsimp only
  obtain ⟨q,hq⟩:=he.nodes h.sub
  refine ⟨q,hq,fun hc=>?_,fun hc=>gx hu2 h he (by omega) (by omega)⟩
  simp only [bls] at hc
  have h2:b'.tdiv 2=b' / 2:=Int.tdiv_eq_ediv_of_nonneg (by omega)
  have hb2:=Pg_mono (b:=b'.tdiv 2) (by omega)
  refine go_quo (by omega) (by omega) (by omega) ?_
  refine gs_gen (c_gen _ (by omega)) (hp.mono hu2) (hv.mono hu2) (by omega) (by omega) t0 t1 (by omega) h fun n3 n4 x3 w3 u3 hu3 h he=>?_
  exact ⟨rfl,rfl,rfl,rfl,rfl,⟨u3,hu2.trans hu3,h.le (by omega),he.le (by omega),by omega,by omega⟩,by omega⟩
structure BdG (u:World) (R:Items) (x y:Sl) (ds:List DeclD) (fs:List FunD) (f:Int) (g:Sl):Prop where
  pr:PrgG u R x y ds fs
  f0:0≤f
  f1:f < fs.length
  rg:Read u g (nth fs f).params
  pl:(nth fs f).params.length≤3
  pt:∀ t∈(nth fs f).params,0≤t∧t≤4
  r0:0≤(nth fs f).result
  r1:(nth fs f).result≤4
theorem BdG.mono {g:Sl} (h:BdG u R x y ds fs f g) (hs:Sub u u'):BdG u' R x y ds fs f g:=⟨h.pr.mono hs,h.f0,h.f1,h.rg.mono hs,h.pl,h.pt,h.r0,h.r1⟩
theorem BdG.app {g:Sl} (h:BdG u R x y ds fs f g) (J:Items):BdG u (J++R) x y ds fs f g:=⟨h.pr.app J,h.f0,h.f1,h.rg,h.pl,h.pt,h.r0,h.r1⟩
theorem BdG.of (hp:PrgG u R x y ds fs) (h:GS u a R m w) (h0:0≤f) (h1:f < fs.length):∃ g:Sl,w.cell? ((elA y f 5).add 0)=some g.val∧w.cell? ((elA y f 5).add 1)=some (iV (nth fs f).result)∧BdG u R x y ds fs f g:=by
  obtain ⟨g,g2,e1,e2,_,_,_,_,_,_,r1,_⟩:=(hp.src h).ofFunD h0 h1
  have hsf:=sig_facts (hp.gf.mem h0 h1)
  refine ⟨g,e1,e2,hp,h0,h1,r1,hsf.1,fun t ht=>?_,hsf.2.2.1,?_⟩
  · have:=hsf.2.1 t ht
    omega
  · have h4:(nth fs f).result≤3:=hsf.2.2.2.1
    omega
theorem BdG.ix {g:Sl} (hb:BdG u R x y ds fs f g) (h:GS u a R m w):IxOk y f:=(hb.pr.fsr h).ix hb.f0 hb.f1
theorem BdG.res {g:Sl} (hb:BdG u R x y ds fs f g) (h:GS u a R m w):w.cell? ((elA y f 5).add 1)=some (iV (nth fs f).result):=by
  obtain ⟨_,_,e2,_⟩:=BdG.of hb.pr h hb.f0 hb.f1
  exact e2
theorem BdG.cell {g:Sl} (hb:BdG u R x y ds fs f g) (h:GS u a R m w) (hg:∀ (u' w':World) (I':Items),Sub u u'→St u' w' (I'++R)→w'.cell? ((elA y f 5).add 0)=some g.val):w.cell? ((elA y f 5).add 0)=some g.val:=let ⟨I,_,h2⟩:=h;hg u w I (.refl u) h2
theorem GD.arm3 {ds:List DeclD} (h:GD ds):(consL ds 3).length=2∧conF ds (nth (consL ds 3) (0:Nat))=[]∧conF ds (nth (consL ds 3) (1:Nat))=[3,0,3]:=by
  have hl:=h.len
  have hn:nth ds (3 - 1)=dTr:=h.nth0.2.2
  refine ⟨by rw [consL_length (by omega) (by omega),hn];rfl,?_,?_⟩
  · rw [show ((0:Nat):Int)=0 from rfl,conF_nth (by omega) (by omega) (by omega) (by rw [hn];decide),hn];rfl
  · rw [show ((1:Nat):Int)=1 from rfl,conF_nth (by omega) (by omega) (by omega) (by rw [hn];decide),hn];rfl
theorem GD.arm1 {ds:List DeclD} (h:GD ds):(consL ds 1).length=2∧conF ds (nth (consL ds 1) (0:Nat))=[]∧conF ds (nth (consL ds 1) (1:Nat))=[0,1]:=by
  have hl:=h.len
  have hn:nth ds (1 - 1)=dLi:=h.nth0.1
  refine ⟨by rw [consL_length (by omega) (by omega),hn];rfl,?_,?_⟩
  · rw [show ((0:Nat):Int)=0 from rfl,conF_nth (by omega) (by omega) (by omega) (by rw [hn];decide),hn];rfl
  · rw [show ((1:Nat):Int)=1 from rfl,conF_nth (by omega) (by omega) (by omega) (by rw [hn];decide),hn];rfl
theorem gs_match3 {C':CxE} {d:Int} {fl:List Int} (hd0:0≤d) (hd1:d < 13) (hA:(consL C.ds d).length=2∧conF C.ds (nth (consL C.ds d) (0:Nat))=[]∧conF C.ds (nth (consL C.ds d) (1:Nat))=fl) (h:GS u a R m w) (h1:EV C u N1 n1 n2 x1) (h2:EV C u N2 k1 k2 x2) (h3:EV C' u N3 l1 l2 x3)
    (hd:C'.ds=C.ds) (hn:C'.nf=C.nf) (hV:C'.V≤C.V+fl.length) {K:Int→Int→Sl→World→Prop} (k:∀ x w' u',Sub u u'→GS u' a R m w'→EV C u' (1+N1+N2+N3) 8 d x→K 8 d x w'):
    StepT Tryz.prog (Instr.buildSlice 84 3 #[(0,(.agg #[iV n1,iV n2,x1.val])),(1,(.agg #[iV k1,iV k2,x2.val])),(2,(.agg #[iV l1,iV l2,x3.val]))]) w fun r w1=>∃ x:Sl,r=x.val∧Trip Tryz.prog 102 #[iV 8,iV d,x.val] w1 fun r w'=>∃ n1 n2 x',r=.agg #[iV n1,iV n2,x'.val]∧K n1 n2 x' w':=by
  obtain ⟨e1,rfl,rfl,r1,c1,g1⟩:=h1
  obtain ⟨e2,rfl,rfl,r2,c2,g2⟩:=h2
  obtain ⟨e3,rfl,rfl,r3,c3,g3⟩:=h3
  obtain ⟨hA1,hA2,hA3⟩:=hA
  refine gs_kids (ks:=[e1,e2,e3]) h (by exact VsOf.cons (vof r1 c1.1) (VsOf.cons (vof r2 c2.1) (VsOf.cons (vof r3 c3.1) VsOf.nil))) rfl (by decide) fun x w1 u1 hu hs h hx=>?_
  have ha:armC C d ([]++[e2]++[e3]):=by
    refine armC_snoc (armC_snoc armC_nil ?_) ?_
    · exact c2.le rfl rfl (Nat.le_add_right _ _)
    · refine c3.le hd hn ?_
      show C'.V≤C.V+(conF C.ds (nth (consL C.ds d) (1:Nat))).length
      rw [hA3]
      exact hV
  exact gs_node (k x w1 u1 hu h (EV.of hx (cE.match_ hd0 hd1 c1 ha hA1.symm) (by rw [nodesL_cons,nodesL_cons,nodesL_cons,nodesL_nil];omega)))
theorem c_overTree (hp:PrgG u R x y ds fs) (f0:0≤f) (f1:f < fs.length) (hpos:(0:Int) < (nth fs f).params.length) (hm:m+50000≤999900000) (h:GS u a R m w):
    Trip Tryz.prog 78 #[(pt a),.agg #[x.val,y.val],iV f] w (GX (Cv ds fs (nth fs f).params) u a R (m+5000) 5000):=by
  refine of78 _ _ _ _ _ _ ?_
  unfold vc78
  obtain ⟨g,e1,_,hb⟩:=BdG.of hp h f0 f1
  have hgn:=hb.rg.n
  have hpl:=hb.pl
  have hfl:=hp.gf.2.1
  have hP4:=Pg_at (b:=4) (by omega)
  have hr0:=hb.r0
  have hr1:=hb.r1
  refine ⟨hb.ix h,g,e1,?_⟩
  refine gs_var (C:=(Cv ds fs ((nth fs f).params++[3,0,3]))) h (by omega) (by omega) (by simp;omega) fun n1 n2 x3 w1 u1 hu1 hs1 h he1=>?_
  obtain ⟨ea,rfl,rfl,ra,ca,na⟩:=he1
  obtain ⟨I1,hR1,hS1⟩:=h
  refine St.build (α:=ExprD) hS1 (VsOf.cons (vof ra ca.1) VsOf.nil) rfl (by decide) fun x5 w5 J5 hO5 hS5 hs5=>⟨x5,rfl,?_⟩
  refine go_wr (by omega) (by omega) ?_
  refine gs_var (C:=(Cv ds fs ((nth fs f).params++[3,0,3]))) (R:=J5++R) ⟨I1,hR1,hS5.to⟩ (by omega) (by omega) (by simp;omega) fun n3 n4 x6 w6 u6 hu6 hs6 h he6=>?_
  obtain ⟨eb,rfl,rfl,rb,cb,nb⟩:=he6
  obtain ⟨I6,hR6,hS6⟩:=h
  refine St.build (α:=ExprD) hS6 (VsOf.cons (vof rb cb.1) VsOf.nil) rfl (by decide) fun x7 w7 J7 hO7 hS7 hs7=>⟨x7,rfl,?_⟩
  refine ⟨fun s1 s2 i w=>∃ (u8:World) (Ja Jb:Items) (ka kb:List ExprD),Sub u u8∧GS u8 a (Jb++(Ja++R)) m w∧Own u8 s1 ka Ja∧Own u8 s2 kb Jb∧cL (Cv ds fs ((nth fs f).params++[3,0,3])) ka∧cL (Cv ds fs ((nth fs f).params++[3,0,3])) kb∧(nodesL ka:Int)≤i∧(nodesL kb:Int)≤i∧(ka.length:Int)=i∧(kb.length:Int)=i∧1≤i∧i≤4,fun _ _ i _=>(4 - i).toNat,⟨u6,J5,J7,_,_,hu1.trans hu6,⟨I6,hR6,hS7.to⟩,hO5.mono hu6,hO7,cL_cons ca cL_nil,cL_cons cb cL_nil,by rw [nodesL_cons,nodesL_nil];omega,by rw [nodesL_cons,nodesL_nil];omega,rfl,rfl,by omega,by omega⟩,?_⟩
  clear hR1 hS1 hO5 hS5 hR6 hS6 hO7 hS7
  rintro s1 s2 i w8 ⟨u8,Ja,Jb,ka,kb,hu8,h,hOa,hOb,hca,hcb,hna,hnb,hla,hlb,i0,i1⟩
  dsimp only
  refine ⟨fun hi=>?_,fun hi=>?_⟩
  · simp only [bls] at hi
    refine gs_var (C:=(Cv ds fs ((nth fs f).params++[3,0,3]))) h (by omega) (by omega) (by simp;omega) fun n1 n2 x3 w1 u1 hu1 hs1 h he1=>?_
    obtain ⟨ea,rfl,rfl,ra,ca,na⟩:=he1
    have h':GS u1 a (Ja++(Jb++R)) m w1:=let ⟨I,q1,q2⟩:=h;⟨I,q1,q2.to⟩
    refine gs_push h' (hOa.mono hu1) ra ca (by omega) fun x4 w4 J4 h hO4=>?_
    have h':GS u1 a (Jb++(J4++R)) m w4:=let ⟨I,q1,q2⟩:=h;⟨I,q1,q2.to⟩
    refine gs_var (C:=(Cv ds fs ((nth fs f).params++[3,0,3]))) h' (by omega) (by omega) (by simp;omega) fun n3 n4 x5 w5 u5 hu5 hs5 h he5=>?_
    obtain ⟨eb,rfl,rfl,rb,cb,nb⟩:=he5
    refine gs_push h ((hOb.mono hu1).mono hu5) rb cb (by omega) fun x6 w6 J6 h hO6=>?_
    refine go_wr (by omega) (by omega) ?_
    refine ⟨rfl,rfl,rfl,rfl,rfl,⟨u5,J4,J6,_,_,(hu8.trans hu1).trans hu5,h,hO4.mono hu5,hO6,cL_snoc hca ca,cL_snoc hcb cb,by rw [nodesL_snoc];omega,by rw [nodesL_snoc];omega,by simp;omega,by simp;omega,by omega,by omega⟩,by omega⟩
  simp only [bls] at hi
  
  obtain ⟨u9,hu9,h,hJb⟩:=h.freeze
  have hrb:=hOb.read1 hJb
  obtain ⟨u10,hu10,h,hJa⟩:=h.freeze
  have hra:=(hOa.mono hu9).read1 hJa
  have hU:Sub u u10:=(hu8.trans hu9).trans hu10
  have hb:=hb.mono hU
  refine gs_nodeL h hra hca (Int.le_trans hna i1) (ok_call f0 (by omega) f1) fun heL=>?_
  refine gs_nodeL h (hrb.mono hu10) hcb (Int.le_trans hnb i1) (ok_call f0 (by omega) f1) fun heR=>?_
  clear hOa hOb hra hrb hna hnb hca hcb hla hlb hJa hJb
  have last:∀ (n82 n83:Int) (x84:Sl) (w81 u3:World) (m3:Int),Sub u10 u3→GS u3 a R m3 w81→m3≤m+2000→EV (Cv ds fs ((nth fs f).params++[3,0,3])) u3 2500 n82 n83 x84→
      Trip Tryz.prog 104 #[iV 0] w81 fun r112 w113=>
        ∃ n114:Int,∃ n115:Int,∃ x116:Sl,r112=.agg #[iV n114,iV n115,x116.val]∧
        Sub w81 w113∧
        Trip Tryz.prog 101 #[(pt a),.agg #[x.val,y.val],g.val,iV (nth fs f).result,iV 4] w113 fun r117 w118=>
          ∃ n119:Int,∃ n120:Int,∃ x121:Sl,r117=.agg #[iV n119,iV n120,x121.val]∧
          StepT Tryz.prog (Instr.buildSlice 84 3 #[(0,(.agg #[iV n114,iV n115,x116.val])),(1,(.agg #[iV n119,iV n120,x121.val])),(2,(.agg #[iV n82,iV n83,x84.val]))]) w118 fun r122 w123=>
            ∃ x124:Sl,r122=x124.val∧
            Trip Tryz.prog 102 #[iV 8,iV 3,x124.val] w123 fun r125 w126=>
              ∃ n127:Int,∃ n128:Int,∃ x129:Sl,r125=.agg #[iV n127,iV n128,x129.val]∧
              (GX (Cv ds fs (nth fs f).params) u a R (m+5000) 5000) (.agg #[iV n127,iV n128,x129.val]) w126:=by
    intro n82 n83 x84 w81 u3 m3 hs3 h hm3 he
    refine gs_var (C:=(Cv ds fs (nth fs f).params)) h (by omega) (by omega) hpos fun n1 n2 x4 w4 u4 hu4 hs4 h he4=>⟨hs4,?_⟩
    have hb4:=hb.mono (hs3.trans hu4)
    refine gs_gen (c_gen 4 (by omega)) hb4.pr (.of hb4.rg) (by omega) (by omega) hr0 hr1 (by omega) h fun n3 n4 x5 w5 u5 hu5 h he5=>?_
    refine gs_match3 (by omega) (by omega) hp.gd.arm3 h (he4.mono hu5) he5 ((he.mono hu4).mono hu5) rfl rfl (by simp) fun x6 w6 u6 hu6 h he6=>?_
    exact gx (((hU.trans hs3).trans hu4).trans (hu5.trans hu6)) h he6 (by omega) (by omega)
  have T:∀ (n82 n83:Int) (x84:Sl) (w81 u3:World) (m3:Int),Sub u10 u3→GS u3 a R m3 w81→m3≤m+1000→EV (Cv ds fs ((nth fs f).params++[3,0,3])) u3 1000 n82 n83 x84→
                                            IxOk y f∧
                                            ∃ n85:Int,w81.cell? ((elA y f 5).add 1)=some (iV n85)∧
                                            ((decide (n85=3))=true→
                                              ∃ n86:Int,Wr .i64 ((g.n:Int)+2) n86∧
                                              StepT Tryz.prog (Instr.buildSlice 28 3 #[(0,(iV 3)),(1,(iV 0)),(2,(iV 3))]) w81 fun r87 w88=>
                                                ∃ x89:Sl,r87=x89.val∧
                                                Sub w81 w88∧
                                                Trip Tryz.prog 99 #[g.val,x89.val] w88 fun r90 w91=>
                                                  ∃ x92:Sl,r90=x92.val∧
                                                  Sub w88 w91∧
                                                  Trip Tryz.prog 101 #[(pt a),.agg #[x.val,y.val],x92.val,iV 0,iV 4] w91 fun r93 w94=>
                                                    ∃ n95:Int,∃ n96:Int,∃ x97:Sl,r93=.agg #[iV n95,iV n96,x97.val]∧
                                                    Trip Tryz.prog 104 #[iV n86] w94 fun r98 w99=>
                                                      ∃ n100:Int,∃ n101:Int,∃ x102:Sl,r98=.agg #[iV n100,iV n101,x102.val]∧
                                                      StepT Tryz.prog (Instr.buildSlice 84 3 #[(0,(.agg #[iV 9,iV f,s1.val])),(1,(.agg #[iV n95,iV n96,x97.val])),(2,(.agg #[iV n100,iV n101,x102.val]))]) w99 fun r103 w104=>
                                                        ∃ x105:Sl,r103=x105.val∧
                                                        Trip Tryz.prog 102 #[iV 6,iV 3,x105.val] w104 fun r106 w107=>
                                                          ∃ n108:Int,∃ n109:Int,∃ x110:Sl,r106=.agg #[iV n108,iV n109,x110.val]∧
                                                          IxOk y f∧
                                                          ∃ n111:Int,w107.cell? ((elA y f 5).add 1)=some (iV n111)∧
                                                          Trip Tryz.prog 104 #[iV 0] w107 fun r112 w113=>
                                                            ∃ n114:Int,∃ n115:Int,∃ x116:Sl,r112=.agg #[iV n114,iV n115,x116.val]∧
                                                            Sub w107 w113∧
                                                            Trip Tryz.prog 101 #[(pt a),.agg #[x.val,y.val],g.val,iV n111,iV 4] w113 fun r117 w118=>
                                                              ∃ n119:Int,∃ n120:Int,∃ x121:Sl,r117=.agg #[iV n119,iV n120,x121.val]∧
                                                              StepT Tryz.prog (Instr.buildSlice 84 3 #[(0,(.agg #[iV n114,iV n115,x116.val])),(1,(.agg #[iV n119,iV n120,x121.val])),(2,(.agg #[iV n108,iV n109,x110.val]))]) w118 fun r122 w123=>
                                                                ∃ x124:Sl,r122=x124.val∧
                                                                Trip Tryz.prog 102 #[iV 8,iV 3,x124.val] w123 fun r125 w126=>
                                                                  ∃ n127:Int,∃ n128:Int,∃ x129:Sl,r125=.agg #[iV n127,iV n128,x129.val]∧
                                                                  (GX (Cv ds fs (nth fs f).params) u a R (m+5000) 5000) (.agg #[iV n127,iV n128,x129.val]) w126)∧
                                            ((decide (n85=3))=false→
                                              IxOk y f∧
                                              ∃ n130:Int,w81.cell? ((elA y f 5).add 1)=some (iV n130)∧
                                              Trip Tryz.prog 104 #[iV 0] w81 fun r131 w132=>
                                                ∃ n133:Int,∃ n134:Int,∃ x135:Sl,r131=.agg #[iV n133,iV n134,x135.val]∧
                                                Sub w81 w132∧
                                                Trip Tryz.prog 101 #[(pt a),.agg #[x.val,y.val],g.val,iV n130,iV 4] w132 fun r136 w137=>
                                                  ∃ n138:Int,∃ n139:Int,∃ x140:Sl,r136=.agg #[iV n138,iV n139,x140.val]∧
                                                  StepT Tryz.prog (Instr.buildSlice 84 3 #[(0,(.agg #[iV n133,iV n134,x135.val])),(1,(.agg #[iV n138,iV n139,x140.val])),(2,(.agg #[iV n82,iV n83,x84.val]))]) w137 fun r141 w142=>
                                                    ∃ x143:Sl,r141=x143.val∧
                                                    Trip Tryz.prog 102 #[iV 8,iV 3,x143.val] w142 fun r144 w145=>
                                                      ∃ n146:Int,∃ n147:Int,∃ x148:Sl,r144=.agg #[iV n146,iV n147,x148.val]∧
                                                      (GX (Cv ds fs (nth fs f).params) u a R (m+5000) 5000) (.agg #[iV n146,iV n147,x148.val]) w145):=by
    intro n82 n83 x84 w81 u3 m3 hs3 h hm3 he
    have hb3:=hb.mono hs3
    refine ⟨hb3.ix h,_,hb3.res h,fun hc=>?_,fun hc=>?_⟩
    · refine go_wr (by omega) (by omega) ?_
      refine gs_ints h (by (repeat' (first|exact VsOf.nil|apply VsOf.cons|(apply VOf.int;first|assumption|(constructor<;>first|omega|(simp only [lz] at *;omega)))|exact VOf.bool|exact VOf.str))) rfl (by decide) fun x4 w4 u4 hu4 hs4 h hx4=>⟨hs4,?_⟩
      refine gs_extend (hb3.mono hu4).rg hx4 (by simp;omega) h fun x5 w5 u5 hu5 hs5 h hx5=>⟨hs5,?_⟩
      have hb5:=(hb3.mono hu4).mono hu5
      refine gs_gen (c_gen 4 (by omega)) hb5.pr (.of hx5) (by simp;omega) (by simp;omega) (by omega) (by omega) (by omega) h fun n3 n4 x6 w6 u6 hu6 h he6=>?_
      refine gs_var (C:=(Cv ds fs ((nth fs f).params++[3,0,3]))) h (by omega) (by omega) (by simp;omega) fun n5 n6 x7 w7 u7 hu7 hs7 h he7=>?_
      have hs7':=((hs3.trans hu4).trans (hu5.trans hu6)).trans hu7
      refine gs_node3 h (heL.mono hs7') (he6.mono hu7) he7 (ok_con (by omega) (by omega)) fun x8 w8 u8 hu8 h he8=>?_
      have hb8:=hb.mono (hs7'.trans hu8)
      exact ⟨hb8.ix h,_,hb8.res h,last _ _ _ _ _ _ (hs7'.trans hu8) h (by omega) (he8.le (by omega))⟩
    · exact ⟨hb3.ix h,_,hb3.res h,last _ _ _ _ _ _ hs3 h (by omega) (he.le (by omega))⟩
  have z1:okS (Cv ds fs ((nth fs f).params++[3,0,3])) 1 0 2:=ok_zero (by omega) (by omega)
  refine ⟨?_,.refl _,?_⟩
  · refine gs_ints h (by (repeat' (first|exact VsOf.nil|apply VsOf.cons|(apply VOf.int;first|assumption|(constructor<;>first|omega|(simp only [lz] at *;omega)))|exact VOf.bool|exact VOf.str))) rfl (by decide) fun xt w11 u11 hu11 hs11 h hxt=>⟨hs11,?_,.refl _,?_⟩
    · refine gs_extend (hb.mono hu11).rg hxt (by simp;omega) h fun xv w12 u12 hu12 hs12 h hxv=>⟨hs12,?_,.refl _,?_⟩
      · refine gs_gen (c_gen 4 (by omega)) ((hb.mono hu11).mono hu12).pr (.of hxv) (by simp;omega) (by simp;omega) (by omega) (by omega) (by omega) h fun n1 n2 x13 w13 u13 hu13 h he13=>?_
        have hs13:=(hu11.trans hu12).trans hu13
        refine ⟨?_,.refl _,?_⟩
        · refine gs_kids2 h he13 (heR.mono hs13) fun x14 w14 u14 ks hu14 hs14 h hx hc hn hl=>⟨?_,.refl _,?_⟩
          · refine gs_nodeL h hx hc hn (by rw [hl];exact z1) fun he14=>⟨?_,.refl _,?_⟩
            · refine gs_kids2 h (heL.mono (hs13.trans hu14)) he14 fun x15 w15 u15 ks hu15 hs15 h hx hc hn hl=>⟨?_,.refl _,?_⟩
              · exact gs_nodeL h hx hc hn (by rw [hl];exact z1) fun he15=>⟨.refl _,T _ _ _ _ _ _ (hs13.trans (hu14.trans hu15)) h (by omega) (he15.le (by omega))⟩
              · exact gs_nodeL h hx hc hn (by rw [hl];exact z1) fun he15=>T _ _ _ _ _ _ (hs13.trans (hu14.trans hu15)) h (by omega) (he15.le (by omega))
            · exact gs_node2 h (heL.mono (hs13.trans hu14)) he14 z1 fun x15 w15 u15 hu15 h he15=>T _ _ _ _ _ _ (hs13.trans (hu14.trans hu15)) h (by omega) (he15.le (by omega))
          · exact gs_nodeL h hx hc hn (by rw [hl];exact z1) fun he14=>gs_node2 h (heL.mono (hs13.trans hu14)) he14 z1 fun x15 w15 u15 hu15 h he15=>T _ _ _ _ _ _ (hs13.trans (hu14.trans hu15)) h (by omega) (he15.le (by omega))
        · exact gs_node2 h he13 (heR.mono (hs13)) z1 fun x14 w14 u14 hu14 h he14=>gs_node2 h (heL.mono ((hs13).trans hu14)) he14 z1 fun x15 w15 u15 hu15 h he15=>T _ _ _ _ _ _ ((hs13).trans (hu14.trans hu15)) h (by omega) (he15.le (by omega))
      · refine gs_gen (c_gen 4 (by omega)) ((hb.mono hu11).mono hu12).pr (.of hxv) (by simp;omega) (by simp;omega) (by omega) (by omega) (by omega) h fun n1 n2 x13 w13 u13 hu13 h he13=>?_
        have hs13:=(hu11.trans hu12).trans hu13
        exact gs_node2 h he13 (heR.mono (hs13)) z1 fun x14 w14 u14 hu14 h he14=>gs_node2 h (heL.mono ((hs13).trans hu14)) he14 z1 fun x15 w15 u15 hu15 h he15=>T _ _ _ _ _ _ ((hs13).trans (hu14.trans hu15)) h (by omega) (he15.le (by omega))
    · refine gs_extend (hb.mono hu11).rg hxt (by simp;omega) h fun xv w12 u12 hu12 hs12 h hxv=>⟨hs12,?_⟩
      refine gs_gen (c_gen 4 (by omega)) ((hb.mono hu11).mono hu12).pr (.of hxv) (by simp;omega) (by simp;omega) (by omega) (by omega) (by omega) h fun n1 n2 x13 w13 u13 hu13 h he13=>?_
      have hs13:=(hu11.trans hu12).trans hu13
      exact gs_node2 h he13 (heR.mono (hs13)) z1 fun x14 w14 u14 hu14 h he14=>gs_node2 h (heL.mono ((hs13).trans hu14)) he14 z1 fun x15 w15 u15 hu15 h he15=>T _ _ _ _ _ _ ((hs13).trans (hu14.trans hu15)) h (by omega) (he15.le (by omega))
  · refine gs_ints h (by (repeat' (first|exact VsOf.nil|apply VsOf.cons|(apply VOf.int;first|assumption|(constructor<;>first|omega|(simp only [lz] at *;omega)))|exact VOf.bool|exact VOf.str))) rfl (by decide) fun xt w11 u11 hu11 hs11 h hxt=>⟨hs11,?_⟩
    refine gs_extend (hb.mono hu11).rg hxt (by simp;omega) h fun xv w12 u12 hu12 hs12 h hxv=>⟨hs12,?_⟩
    refine gs_gen (c_gen 4 (by omega)) ((hb.mono hu11).mono hu12).pr (.of hxv) (by simp;omega) (by simp;omega) (by omega) (by omega) (by omega) h fun n1 n2 x13 w13 u13 hu13 h he13=>?_
    have hs13:=(hu11.trans hu12).trans hu13
    exact gs_node2 h he13 (heR.mono (hs13)) z1 fun x14 w14 u14 hu14 h he14=>gs_node2 h (heL.mono ((hs13).trans hu14)) he14 z1 fun x15 w15 u15 hu15 h he15=>T _ _ _ _ _ _ ((hs13).trans (hu14.trans hu15)) h (by omega) (he15.le (by omega))
end
def idxG (ad:List Int) (x:Int):Int:=if x∈ad then (ad.idxOf x:Int) else -1
section
variable {C:CxE} {u v w:World} {x y s x1 x2 x3:Sl} {ds:List DeclD} {fs:List FunD} {a:Addr} {J R:Items} {m m' N' N1 n n1 n2 k1 t b f:Int} {l:List Int} {ks:List ExprD} {e:ExprD}
theorem idxG_lt:idxG l n < l.length:=by
  unfold idxG
  split
  · rename_i h
    have:=List.idxOf_lt_length_iff.2 h
    omega
  · omega
theorem c_placeInG (hx:Read v x l):Fn Tryz.prog 74 #[x.val,iV n] v (iV (idxG l n)):=by
  refine of74 _ _ _ _ ?_
  unfold vc74
  have hn:=hx.n
  have hl:=hx.le
  refine ⟨fun i w=>Sub v w∧0≤i∧i≤l.length∧n∉l.take i.toNat,fun i _=>(l.length - i).toNat,⟨.refl v,by omega,by omega,by simp⟩,?_⟩
  rintro i w ⟨hs,h0,h1,h2⟩
  dsimp only
  refine ⟨fun hi=>?_,fun hi=>?_⟩
  · simp only [bls] at hi
    refine go_ix hx h0 (by omega) ?_
    refine ld_int (hx.mono hs) h0 (by omega) ?_
    intro b0 b1
    refine ⟨fun hc=>?_,fun hc=>?_⟩
    · simp only [bls] at hc
      refine ⟨?_,hs⟩
      have hm:n∈l:=by rw [←hc];exact nth_mem h0 (by omega)
      have:l.idxOf n=i.toNat:=by
        have e:l=l.take i.toNat++n ::l.drop (i.toNat+1):=by
          have hlt:i.toNat < l.length:=by omega
          conv=>lhs;rw [←List.take_append_drop i.toNat l,List.drop_eq_getElem_cons hlt]
          rw [nth_of (a:=l[i.toNat]) (by simp [List.getElem?_eq_getElem hlt])] at hc
          rw [hc]
        rw [e,List.idxOf_append,if_neg h2,List.idxOf_cons_self,List.length_take]
        omega
      unfold idxG
      rw [if_pos hm,this]
      congr 1
      omega
    · simp only [bls] at hc
      refine go_wr (by omega) (by omega) ?_
      refine ⟨⟨hs,by omega,by omega,?_⟩,by omega⟩
      rw [take_nth h0 (by omega)]
      simp only [List.mem_append,List.mem_singleton,not_or]
      exact ⟨h2,fun e=>hc e.symm⟩
  · simp only [bls] at hi
    rw [take_all (by omega)] at h2
    refine ⟨?_,hs⟩
    unfold idxG
    rw [if_neg h2]
theorem c_literal (hm:m+100≤999900000) (h:GS u a R m w):Trip Tryz.prog 103 #[(pt a),iV t] w (GX C u a R (m+50) 50):=by
  refine of103 _ _ _ _ ?_
  unfold vc103
  refine gs_kids (ks:=[]) h VsOf.nil rfl (by decide) fun x1 w1 u1 hu1 hs1 h hx1=>?_
  refine gs_nodeL (C:=C) (N1:=0) h hx1 cL_nil (by rw [nodesL_nil];omega) (ok_con (by omega) (by omega)) fun he1=>?_
  refine ⟨fun hc=>?_,fun hc=>?_⟩
  · refine gs_kids (ks:=[]) h VsOf.nil rfl (by decide) fun x2 w2 u2 hu2 hs2 h hx2=>?_
    refine gs_nodeL (C:=C) (N1:=0) h hx2 cL_nil (by rw [nodesL_nil];omega) (ok_con (by omega) (by omega)) fun he2=>?_
    have z3:okS C 6 3 3:=ok_con (by omega) (by omega)
    have hU:=hu1.trans hu2
    have tail:∀ (n51 n52:Int) (x53:Sl) (w50 u3:World),Sub u2 u3→GS u3 a R (m+1) w50→EV C u3 10 n51 n52 x53→
        Trip Tryz.prog 27 #[(pt a),iV 9] w50 fun r54 w55=>
          ∃ n56:Int,r54=iV n56∧
          Trip Tryz.prog 75 #[iV n56] w55 fun r57 w58=>
            ∃ n59:Int,∃ n60:Int,∃ x61:Sl,r57=.agg #[iV n59,iV n60,x61.val]∧
            StepT Tryz.prog (Instr.buildSlice 84 3 #[(0,(.agg #[iV n51,iV n52,x53.val])),(1,(.agg #[iV n59,iV n60,x61.val])),(2,(.agg #[iV 6,iV 2,x2.val]))]) w58 fun r62 w63=>
              ∃ x64:Sl,r62=x64.val∧
              Trip Tryz.prog 102 #[iV 6,iV 3,x64.val] w63 fun r65 w66=>
                ∃ n67:Int,∃ n68:Int,∃ x69:Sl,r65=.agg #[iV n67,iV n68,x69.val]∧
                GX C u a R (m+50) 50 (.agg #[iV n67,iV n68,x69.val]) w66:=by
      intro n51 n52 x53 w50 u3 hu3 h he
      refine gs_pick h (by omega) (by omega) (by omega) fun j w4 h j0 j1 _=>?_
      refine gs_int (C:=C) h (by omega) (by omega) fun n1 n2 x5 w5 u5 hu5 hs5 h he5=>?_
      refine gs_node3 h (he.mono hu5) he5 (he2.mono (hu3.trans hu5)) z3 fun x6 w6 u6 hu6 h he6=>?_
      exact gx (hU.trans (hu3.trans (hu5.trans hu6))) h he6 (by omega) (by omega)
    refine ⟨?_,?_⟩
    · refine gs_pick h (by omega) (by omega) (by omega) fun j w3 h j0 j1 _=>⟨?_,?_⟩
      · refine gs_int (C:=C) h (by omega) (by omega) fun n1 n2 x4 w4 u4 hu4 hs4 h he4=>⟨?_,?_⟩
        · refine gs_kids3 h (he2.mono hu4) he4 (he2.mono hu4) fun x5 w5 u5 ks hu5 hs5 h hx hc hn hl=>⟨?_,?_⟩
          · exact gs_nodeL h hx hc hn (by rw [hl];exact z3) fun he5=>tail _ _ _ _ _ (hu4.trans hu5) h (he5.le (by omega))
          · exact gs_nodeL h hx hc hn (by rw [hl];exact z3) fun he5=>tail _ _ _ _ _ (hu4.trans hu5) h (he5.le (by omega))
        · exact gs_node3 h (he2.mono hu4) he4 (he2.mono hu4) z3 fun x5 w5 u5 hu5 h he5=>tail _ _ _ _ _ (hu4.trans hu5) h (he5.le (by omega))
      · refine gs_int (C:=C) h (by omega) (by omega) fun n1 n2 x4 w4 u4 hu4 hs4 h he4=>?_
        exact gs_node3 h (he2.mono hu4) he4 (he2.mono hu4) z3 fun x5 w5 u5 hu5 h he5=>tail _ _ _ _ _ (hu4.trans hu5) h (he5.le (by omega))
    · refine gs_pick h (by omega) (by omega) (by omega) fun j w3 h j0 j1 _=>?_
      refine gs_int (C:=C) h (by omega) (by omega) fun n1 n2 x4 w4 u4 hu4 hs4 h he4=>?_
      exact gs_node3 h (he2.mono hu4) he4 (he2.mono hu4) z3 fun x5 w5 u5 hu5 h he5=>tail _ _ _ _ _ (hu4.trans hu5) h (he5.le (by omega))
  · refine gs_pick h (by omega) (by omega) (by omega) fun j w2 h j0 j1 _=>?_
    refine go_wr (by omega) (by omega) ?_
    refine ⟨fun k n1 n2 s w=>∃ u3,Sub u u3∧GS u3 a R (m+20 - 4 * k) w∧EV C u3 (20 - 4 * k) n1 n2 s∧0≤k∧k≤3,fun k _ _ _ _=>k.toNat,⟨u1,hu1,h.le (by omega),he1.le (by omega),by omega,by omega⟩,?_⟩
    clear h
    rintro k n1 n2 s w3 ⟨u3,hu3,h,he,k0,k1⟩
    dsimp only
    refine ⟨fun hk=>?_,fun hk=>gx hu3 h he (by omega) (by omega)⟩
    simp only [bls] at hk
    refine gs_someInt h (by omega) fun j w4 u4 hu4 h j0 j1=>?_
    refine gs_int (C:=C) h j0 j1 fun n3 n4 x5 w5 u5 hu5 hs5 h he5=>?_
    refine gs_node2 h he5 (he.mono (hu4.trans hu5)) (ok_con (by omega) (by omega)) fun x6 w6 u6 hu6 h he6=>?_
    refine go_wr (by omega) (by omega) ?_
    exact ⟨rfl,rfl,rfl,rfl,rfl,rfl,⟨u6,hu3.trans (hu4.trans (hu5.trans hu6)),h.le (by omega),he6.le (by omega),by omega,by omega⟩,by omega⟩
theorem c_mainBody (hp:PrgG u R x y ds fs) (hm:m+50000≤999900000) (h:GS u a R m w):Trip Tryz.prog 76 #[(pt a),.agg #[x.val,y.val]] w (GX (Cv ds fs []) u a R (m+5000) 5000):=by
  refine of76 _ _ _ _ _ ?_
  unfold vc76
  have hP:=Pg_mono (b:=16) (by omega)
  refine gs_ints h (by (repeat' (first|exact VsOf.nil|apply VsOf.cons|(apply VOf.int;first|assumption|(constructor<;>first|omega|(simp only [lz] at *;omega)))|exact VOf.bool|exact VOf.str))) rfl (by decide) fun x1 w1 u1 hu1 hs1 h hx1=>?_
  refine gs_one h hx1 (by omega) (by simp) (by simp) fun j w2 h hj=>?_
  have hj4:0≤j∧j≤4:=by simp only [List.mem_cons,List.not_mem_nil,or_false] at hj;omega
  refine gs_ints h (by (repeat' (first|exact VsOf.nil|apply VsOf.cons|(apply VOf.int;first|assumption|(constructor<;>first|omega|(simp only [lz] at *;omega)))|exact VOf.bool|exact VOf.str))) rfl (by decide) fun x3 w3 u3 hu3 hs3 h hx3=>?_
  refine gs_gen (c_gen 16 (by omega)) ((hp.mono hu1).mono hu3) (.of hx3) (by simp) (by simp) (by omega) (by omega) (by omega) h fun n1 n2 x4 w4 u4 hu4 h he4=>?_
  have hU:=(hu1.trans hu3).trans hu4
  refine gs_pick h (by omega) (by omega) (by omega) fun k w5 h k0 k1 _=>⟨fun hc=>?_,fun hc=>?_⟩
  · refine gs_node1 h he4 (ok_zero (by omega) (by omega)) fun x6 w6 u6 hu6 h he6=>?_
    refine use_x (c_literal (C:=Cv ds fs []) (by omega) h) fun n3 n4 x7 w7 u7 hu7 h he7=>?_
    refine gs_let h he7 (he6.mono hu7) rfl rfl (Nat.le_refl _) fun x8 w8 u8 hu8 h he8=>?_
    exact gx (hU.trans (hu6.trans (hu7.trans hu8))) h he8 (by omega) (by omega)
  · refine use_x (c_literal (C:=Cv ds fs []) (by omega) h) fun n3 n4 x7 w7 u7 hu7 h he7=>?_
    refine gs_let h he7 (he4.mono hu7) rfl rfl (Nat.le_refl _) fun x8 w8 u8 hu8 h he8=>?_
    exact gx (hU.trans (hu7.trans hu8)) h he8 (by omega) (by omega)
theorem gs_own1 (h:GS u a R m w) (h1:EV C u N1 n1 n2 x1) {K:Sl→World→Prop} (k:∀ x w' J ks,GS u a (J++R) m w'→Own u x ks J→cL C ks→(nodesL ks:Int)≤N1→ks.length=1→K x w'):
    StepT Tryz.prog (Instr.buildSlice 84 1 #[(0,(.agg #[iV n1,iV n2,x1.val]))]) w fun r w1=>∃ x:Sl,r=x.val∧K x w1:=by
  obtain ⟨e1,rfl,rfl,r1,c1,g1⟩:=h1
  obtain ⟨I1,hR1,hS1⟩:=h
  refine St.build (α:=ExprD) hS1 (VsOf.cons (vof r1 c1.1) VsOf.nil) rfl (by decide) fun x5 w5 J5 hO5 hS5 hs5=>⟨x5,rfl,?_⟩
  exact k x5 w5 J5 _ ⟨I1,hR1,hS5.to⟩ hO5 (cL_cons c1 cL_nil) (by rw [nodesL_cons,nodesL_nil];omega) rfl
theorem c_downFrom (hp:PrgG u R x y ds fs) (f0:0≤f) (f1:f < fs.length) (hpos:(0:Int) < (nth fs f).params.length) (hm:m+50000≤999900000) (h:GS u a R m w):
    Trip Tryz.prog 79 #[(pt a),.agg #[x.val,y.val],iV f] w (GX (Cv ds fs (nth fs f).params) u a R (m+5000) 5000):=by
  refine of79 _ _ _ _ _ _ ?_
  unfold vc79
  obtain ⟨g,e1,_,hb⟩:=BdG.of hp h f0 f1
  have hgn:=hb.rg.n
  have hpl:=hb.pl
  have hfl:=hp.gf.2.1
  have hP4:=Pg_at (b:=4) (by omega)
  have hP3:=Pg_at (b:=3) (by omega)
  have hr0:=hb.r0
  have hr1:=hb.r1
  refine ⟨hb.ix h,g,e1,?_⟩
  refine gs_var (C:=(Cv ds fs (nth fs f).params)) h (by omega) (by omega) hpos fun n1 n2 x2 w2 u2 hu2 hs2 h he2=>?_
  refine gs_int (C:=(Cv ds fs (nth fs f).params)) h (by omega) (by omega) fun n3 n4 x3 w3 u3 hu3 hs3 h he3=>?_
  refine gs_node2 h (he2.mono hu3) he3 (ok_zero (by omega) (by omega)) fun x4 w4 u4 hu4 h he4=>?_
  have hU4:=hu2.trans (hu3.trans hu4)
  refine gs_own1 h he4 fun x5 w5 J5 ks5 h hO5 hc5 hn5 hl5=>?_
  refine ⟨fun s i w=>∃ (u8:World) (J:Items) (ks:List ExprD),Sub u u8∧GS u8 a (J++R) (m+25 * i) w∧Own u8 s ks J∧cL (Cv ds fs (nth fs f).params) ks∧(nodesL ks:Int)≤4 * i∧(ks.length:Int)=i∧1≤i∧i≤4,fun _ i _=>(4 - i).toNat,⟨u4,J5,ks5,hU4,h.le (by omega),hO5,hc5,by omega,by omega,by omega,by omega⟩,?_⟩
  clear h hO5
  rintro s i w8 ⟨u8,J,ks,hu8,h,hO,hck,hnk,hlk,i0,i1⟩
  have hb8:=hb.mono hu8
  dsimp only
  refine ⟨fun hi=>?_,fun hi=>?_⟩
  · simp only [bls] at hi
    have htt:=nn_types hb.pt (i:=i) (by omega) (by omega)
    refine go_ix hb8.rg (by omega) (by omega) ?_
    refine ⟨_,((hb8.rg.mono h.sub).int (by omega) (by omega)).1,?_⟩
    refine gs_leaf (hb8.app J).pr (.of hb8.rg) (by omega) htt.1 htt.2 (by omega) h fun n5 n6 x9 w9 u9 hu9 h he9=>?_
    obtain ⟨e9,rfl,rfl,r9,c9,g9⟩:=he9
    refine gs_push h (hO.mono hu9) r9 c9 (by omega) fun x10 w10 J10 h hO10=>?_
    refine go_wr (by omega) (by omega) ?_
    exact ⟨rfl,rfl,rfl,rfl,rfl,⟨u9,J10,_,hu8.trans hu9,h.le (by omega),hO10,cL_snoc hck c9,by rw [nodesL_snoc];omega,by simp;omega,by omega,by omega⟩,by omega⟩
  simp only [bls] at hi
  obtain ⟨u9,hu9,h,hJ⟩:=h.freeze
  have hU:=hu8.trans hu9
  replace hb:=hb.mono hU
  refine gs_nodeL h (hO.read1 hJ) hck hnk (ok_call f0 (by omega) f1) fun heA=>?_
  have h:=h.le (m':=m+100) (by omega)
  have heA:=heA.le (N':=17) (by omega)
  refine ⟨hb.ix h,_,hb.res h,?_⟩
  
  have tail:∀ (n57 n58:Int) (x59:Sl) (w56 u3:World) (m3:Int),Sub u9 u3→GS u3 a R m3 w56→m3≤m+2000→EV (Cv ds fs (nth fs f).params) u3 1000 n57 n58 x59→
      Trip Tryz.prog 75 #[iV 0] w56 fun r60 w61=>
        ∃ n62:Int,∃ n63:Int,∃ x64:Sl,r60=.agg #[iV n62,iV n63,x64.val]∧
        Trip Tryz.prog 104 #[iV 0] w61 fun r65 w66=>
          ∃ n67:Int,∃ n68:Int,∃ x69:Sl,r65=.agg #[iV n67,iV n68,x69.val]∧
          StepT Tryz.prog (Instr.buildSlice 84 2 #[(0,(.agg #[iV n62,iV n63,x64.val])),(1,(.agg #[iV n67,iV n68,x69.val]))]) w66 fun r70 w71=>
            ∃ x72:Sl,r70=x72.val∧
            Trip Tryz.prog 102 #[iV 4,iV 0,x72.val] w71 fun r73 w74=>
              ∃ n75:Int,∃ n76:Int,∃ x77:Sl,r73=.agg #[iV n75,iV n76,x77.val]∧
              IxOk y f∧
              ∃ n78:Int,w74.cell? ((elA y f 5).add 1)=some (iV n78)∧
              Trip Tryz.prog 101 #[(pt a),.agg #[x.val,y.val],g.val,iV n78,iV 4] w74 fun r79 w80=>
                ∃ n81:Int,∃ n82:Int,∃ x83:Sl,r79=.agg #[iV n81,iV n82,x83.val]∧
                StepT Tryz.prog (Instr.buildSlice 84 3 #[(0,(.agg #[iV n75,iV n76,x77.val])),(1,(.agg #[iV n57,iV n58,x59.val])),(2,(.agg #[iV n81,iV n82,x83.val]))]) w80 fun r84 w85=>
                  ∃ x86:Sl,r84=x86.val∧
                  Trip Tryz.prog 102 #[iV 7,iV 0,x86.val] w85 fun r87 w88=>
                    ∃ n89:Int,∃ n90:Int,∃ x91:Sl,r87=.agg #[iV n89,iV n90,x91.val]∧
                    GX (Cv ds fs (nth fs f).params) u a R (m+5000) 5000 (.agg #[iV n89,iV n90,x91.val]) w88:=by
    intro n57 n58 x59 w56 u3 m3 hs3 h hm3 he
    refine gs_int (C:=(Cv ds fs (nth fs f).params)) h (by omega) (by omega) fun n1 n2 x4 w4 u4 hu4 hs4 h he4=>?_
    refine gs_var (C:=(Cv ds fs (nth fs f).params)) h (by omega) (by omega) hpos fun n3 n4 x5 w5 u5 hu5 hs5 h he5=>?_
    refine gs_node2 h (he4.mono hu5) he5 (ok_zero (by omega) (by omega)) fun x6 w6 u6 hu6 h he6=>?_
    have hs6:=hs3.trans (hu4.trans (hu5.trans hu6))
    have hb6:=hb.mono hs6
    refine ⟨hb6.ix h,_,hb6.res h,?_⟩
    refine gs_gen (c_gen 4 (by omega)) hb6.pr (.of hb6.rg) (by omega) (by omega) hr0 hr1 (by omega) h fun n5 n6 x7 w7 u7 hu7 h he7=>?_
    refine gs_node3 h (he6.mono hu7) (he.mono ((hu4.trans (hu5.trans hu6)).trans hu7)) he7 (ok_zero (by omega) (by omega)) fun x8 w8 u8 hu8 h he8=>?_
    exact gx (hU.trans (hs6.trans (hu7.trans hu8))) h he8 (by omega) (by omega)
  refine ⟨fun hc=>?_,fun hc=>?_⟩
  case refine_2=>exact tail 9 f s w8 u9 _ (.refl _) h (by omega) (heA.le (by omega))
  refine gs_gen (c_gen 3 (by omega)) hb.pr (.of hb.rg) (by omega) (by omega) (by omega) (by omega) (by omega) h fun n5 n6 x7 w7 u7 hu7 h he7=>?_
  refine gs_node2 h he7 (heA.mono hu7) (ok_con (by omega) (by omega)) fun x8 w8 u8 hu8 h he8=>?_
  exact tail _ _ _ _ _ _ (hu7.trans hu8) h (by omega) (he8.le (by omega))
end
section
variable {C:CxE} {u w:World} {x y z s x1 x3:Sl} {ds:List DeclD} {fs:List FunD} {a:Addr} {J R:Items} {m m' N N' N1 n n1 n2 b f at_:Int} {l:List Int} {ks:List ExprD} {e:ExprD}
theorem EV.wide {C':CxE} (h:EV C u N n1 n2 x) (h1:C.ds=C'.ds) (h2:C.nf=C'.nf) (h3:C.V≤C'.V):EV C' u N n1 n2 x:=let ⟨e,p1,p2,p3,p4,p5⟩:=h;⟨e,p1,p2,p3,p4.le h1 h2 h3,p5⟩
theorem gs_pushE (h:GS u a (J++R) m w) (hO:Own u x ks J) (h1:EV C u N1 n1 n2 s) (hc:cL C ks) (hb:ks.length+1≤1000000) {K:Sl→World→Prop} (k:∀ x' w' J' ks',GS u a (J'++R) m w'→Own u x' ks' J'→cL C ks'→(nodesL ks':Int)≤nodesL ks+N1→ks'.length=ks.length+1→K x' w'):
    StepT Tryz.prog (Instr.buildSlice 84 1 #[(0,(.agg #[iV n1,iV n2,s.val]))]) w fun r1 w1=>∃ z:Sl,r1=z.val∧StepT Tryz.prog (Builtin.append_ #[84,84] 84 #[(x.val),(z.val)]) w1 fun r2 w2=>∃ x':Sl,r2=x'.val∧K x' w2:=by
  obtain ⟨e1,rfl,rfl,r1,c1,g1⟩:=h1
  refine gs_push h hO r1 c1 hb fun x' w' J' h hO=>k x' w' J' _ h hO (cL_snoc hc c1) (by rw [nodesL_snoc];omega) (by simp)
theorem c_overList (hp:PrgG u R x y ds fs) (f0:0≤f) (f1:f < fs.length) (a0:0≤at_) (a1:at_ < (nth fs f).params.length) (hm:m+50000≤999900000) (h:GS u a R m w):
    Trip Tryz.prog 77 #[(pt a),.agg #[x.val,y.val],iV f,iV at_] w (GX (Cv ds fs (nth fs f).params) u a R (m+5000) 5000):=by
  refine of77 _ _ _ _ _ _ _ ?_
  unfold vc77
  obtain ⟨g,e1,_,hb⟩:=BdG.of hp h f0 f1
  have hgn:=hb.rg.n
  have hpl:=hb.pl
  have hfl:=hp.gf.2.1
  have hP4:=Pg_at (b:=4) (by omega)
  have hr0:=hb.r0
  have hr1:=hb.r1
  refine ⟨hb.ix h,g,e1,?_⟩
  refine gs_ints h (by (repeat' (first|exact VsOf.nil|apply VsOf.cons|(apply VOf.int;first|assumption|(constructor<;>first|omega|(simp only [lz] at *;omega)))|exact VOf.bool|exact VOf.str))) rfl (by decide) fun xt w1 u1 hu1 hs1 h hxt=>?_
  refine gs_extend (hb.mono hu1).rg hxt (by simp;omega) h fun xv w2 u2 hu2 hs2 h hxv=>?_
  refine gs_kids0 h fun x3 w3 J3 h hs3 hO=>?_
  have hvl:((nth fs f).params++[0,1]).length≤5:=by simp;omega
  refine ⟨fun s i w=>∃ (u8:World) (J:Items) (ks:List ExprD),Sub u2 u8∧GS u8 a (J++R) (m+i) w∧Own u8 s ks J∧cL (Cv ds fs ((nth fs f).params++[0,1])) ks∧(nodesL ks:Int)≤3 * i∧(ks.length:Int)=i∧0≤i∧i≤3,fun _ i _=>(3 - i).toNat,⟨u2,J3,[],.refl _,h.le (by omega),hO,cL_nil,by rw [nodesL_nil];omega,rfl,by omega,by omega⟩,?_⟩
  clear h hO
  rintro s i w8 ⟨u8,J,ks,hu8,h,hO,hck,hnk,hlk,i0,i1⟩
  have hb8:=((hb.mono hu1).mono hu2).mono hu8
  dsimp only
  refine ⟨fun hi=>?_,fun hi=>?_⟩
  · simp only [bls] at hi
    refine ⟨fun hc=>?_,fun hc=>?_⟩
    · refine go_wr (by omega) (by omega) ?_
      refine gs_var (C:=(Cv ds fs ((nth fs f).params++[0,1]))) h (by omega) (by omega) (by simp;omega) fun n5 n6 x9 w9 u9 hu9 hs9 h he9=>?_
      refine gs_pushE h (hO.mono hu9) he9 hck (by omega) fun x10 w10 J10 ks10 h hO10 hc10 hn10 hl10=>?_
      refine go_wr (by omega) (by omega) ?_
      exact ⟨rfl,rfl,rfl,rfl,rfl,⟨u9,J10,ks10,hu8.trans hu9,h.le (by omega),hO10,hc10,by omega,by omega,by omega,by omega⟩,by omega⟩
    · refine go_ix hb8.rg i0 (by omega) ?_
      refine ⟨_,((hb8.rg.mono h.sub).int i0 (by omega)).1,fun hc2=>?_,fun hc2=>?_⟩
      · refine gs_pick h (by omega) (by omega) (by omega) fun j w9 h _ _ _=>⟨fun hc3=>?_,fun hc3=>?_⟩
        · refine gs_var (C:=(Cv ds fs ((nth fs f).params++[0,1]))) h (by omega) (by omega) (by simp;omega) fun n5 n6 x9 w9 u9 hu9 hs9 h he9=>?_
          refine gs_var (C:=(Cv ds fs ((nth fs f).params++[0,1]))) h (by omega) (by omega) (by simp;omega) fun n7 n8 x10 w10 u10 hu10 hs10 h he10=>?_
          refine gs_node2 h (he9.mono hu10) he10 (ok_zero (by omega) (by omega)) fun x11 w11 u11 hu11 h he11=>?_
          refine gs_pushE h (((hO.mono hu9).mono hu10).mono hu11) he11 hck (by omega) fun x12 w12 J12 ks12 h hO12 hc12 hn12 hl12=>?_
          refine go_wr (by omega) (by omega) ?_
          exact ⟨rfl,rfl,rfl,rfl,rfl,⟨u11,J12,ks12,((hu8.trans hu9).trans hu10).trans hu11,h.le (by omega),hO12,hc12,by omega,by omega,by omega,by omega⟩,by omega⟩
        · refine gs_var (C:=(Cv ds fs ((nth fs f).params++[0,1]))) h (by omega) (by omega) (by simp;omega) fun n5 n6 x9 w9 u9 hu9 hs9 h he9=>?_
          refine gs_pushE h (hO.mono hu9) he9 hck (by omega) fun x10 w10 J10 ks10 h hO10 hc10 hn10 hl10=>?_
          refine go_wr (by omega) (by omega) ?_
          exact ⟨rfl,rfl,rfl,rfl,rfl,⟨u9,J10,ks10,hu8.trans hu9,h.le (by omega),hO10,hc10,by omega,by omega,by omega,by omega⟩,by omega⟩
      · refine gs_var (C:=(Cv ds fs ((nth fs f).params++[0,1]))) h (by omega) (by omega) (by simp;omega) fun n5 n6 x9 w9 u9 hu9 hs9 h he9=>?_
        refine gs_pushE h (hO.mono hu9) he9 hck (by omega) fun x10 w10 J10 ks10 h hO10 hc10 hn10 hl10=>?_
        refine go_wr (by omega) (by omega) ?_
        exact ⟨rfl,rfl,rfl,rfl,rfl,⟨u9,J10,ks10,hu8.trans hu9,h.le (by omega),hO10,hc10,by omega,by omega,by omega,by omega⟩,by omega⟩
  simp only [bls] at hi
  obtain ⟨u9,hu9,h,hJ⟩:=h.freeze
  have hU2:=hu1.trans hu2
  have hU:=hU2.trans (hu8.trans hu9)
  replace hb:=hb.mono hU
  have hxv:=hxv.mono (hu8.trans hu9)
  refine gs_nodeL h (hO.read1 hJ) hck hnk (ok_call f0 (by omega) f1) fun heA=>?_
  have h:=h.le (m':=m+100) (by omega)
  have heA:=heA.le (N':=20) (by omega)
  clear hO hJ
  refine ⟨fun n1 n2 s w=>∃ u3,Sub u9 u3∧GS u3 a R (m+1500) w∧EV (Cv ds fs ((nth fs f).params++[0,1])) u3 1500 n1 n2 s,⟨fun _ w=>∃ u3,Sub u9 u3∧GS u3 a R (m+200) w,⟨hb.ix h,_,hb.res h,fun hc=>?_,fun hc=>⟨rfl,rfl,rfl,rfl,rfl,rfl,rfl,rfl,rfl,rfl,rfl,u9,.refl _,h.le (by omega)⟩⟩,?_⟩,?_⟩
  · exact gs_pick h (by omega) (by omega) (by omega) fun j w10 h _ _ _=>⟨rfl,rfl,rfl,rfl,rfl,rfl,rfl,rfl,rfl,rfl,rfl,u9,.refl _,h.le (by omega)⟩
  · rintro q w10 ⟨u10,hu10,h⟩
    have hb10:=hb.mono hu10
    refine ⟨fun hq=>?_,fun hq=>⟨hb10.ix h,_,hb10.res h,fun hc=>?_,fun hc=>⟨rfl,rfl,rfl,rfl,rfl,rfl,rfl,rfl,u10,hu10,h.le (by omega),(heA.mono hu10).le (by omega)⟩⟩⟩
    · refine gs_gen (c_gen 4 (by omega)) hb10.pr (.of (hxv.mono hu10)) (by omega) (by omega) (by omega) (by omega) (by omega) h fun n5 n6 x11 w11 u11 hu11 h he11=>?_
      have hb11:=hb10.mono hu11
      have hA11:=(heA.mono hu10).mono hu11
      refine ⟨fun hc=>hb11.rg.ix (by omega) (by simp only [bls] at hc;omega),nth (nth fs f).params 0,fun hc=>((hb11.rg.mono h.sub).int (by omega) (by simp only [bls] at hc;omega)).1,fun hc=>?_,fun hc=>?_⟩
      · refine gs_var (C:=(Cv ds fs ((nth fs f).params++[0,1]))) h (by omega) (by omega) (by simp;omega) fun n7 n8 x12 w12 u12 hu12 hs12 h he12=>?_
        refine gs_var (C:=(Cv ds fs ((nth fs f).params++[0,1]))) h (by omega) (by omega) (by simp;omega) fun n9 n10 x13 w13 u13 hu13 hs13 h he13=>?_
        refine gs_node2 h (he12.mono hu13) he13 (ok_zero (by omega) (by omega)) fun x14 w14 u14 hu14 h he14=>?_
        refine gs_node2 h he14 (hA11.mono ((hu12.trans hu13).trans hu14)) (ok_con (by omega) (by omega)) fun x15 w15 u15 hu15 h he15=>?_
        exact ⟨rfl,rfl,rfl,rfl,rfl,rfl,rfl,rfl,u15,((hu10.trans hu11).trans ((hu12.trans hu13).trans hu14)).trans hu15,h.le (by omega),he15.le (by omega)⟩
      · refine gs_node2 h he11 hA11 (ok_con (by omega) (by omega)) fun x15 w15 u15 hu15 h he15=>?_
        exact ⟨rfl,rfl,rfl,rfl,rfl,rfl,rfl,rfl,u15,(hu10.trans hu11).trans hu15,h.le (by omega),he15.le (by omega)⟩
    · refine gs_ints h (by (repeat' (first|exact VsOf.nil|apply VsOf.cons|(apply VOf.int;first|assumption|(constructor<;>first|omega|(simp only [lz] at *;omega)))|exact VOf.bool|exact VOf.str))) rfl (by decide) fun x11 w11 u11 hu11 hs11 h hx11=>?_
      refine gs_one h hx11 (by omega) (by simp) (by simp) fun o w12 h ho=>?_
      have hoo:o=1∨o=2:=by simp only [List.mem_cons,List.not_mem_nil,or_false] at ho;omega
      refine gs_gen (c_gen 4 (by omega)) (hb10.mono hu11).pr (.of ((hxv.mono hu10).mono hu11)) (by omega) (by omega) (by omega) (by omega) (by omega) h fun n5 n6 x13 w13 u13 hu13 h he13=>?_
      refine gs_node2 h he13 (heA.mono ((hu10.trans hu11).trans hu13)) (ok_zero (by omega) (by omega)) fun x15 w15 u15 hu15 h he15=>?_
      exact ⟨rfl,rfl,rfl,rfl,rfl,rfl,rfl,rfl,u15,((hu10.trans hu11).trans hu13).trans hu15,h.le (by omega),he15.le (by omega)⟩
  rintro n1 n2 xr w10 ⟨u10,hu10,h,her⟩
  have hb10:=hb.mono hu10
  refine ⟨hb10.ix h,_,hb10.res h,?_⟩
  refine gs_var (C:=(Cv ds fs (nth fs f).params)) h a0 (by omega) a1 fun n5 n6 x11 w11 u11 hu11 hs11 h he11=>⟨hs11,?_⟩
  refine gs_gen (c_gen 4 (by omega)) (hb10.mono hu11).pr (.of (hb10.mono hu11).rg) (by omega) (by omega) hr0 hr1 (by omega) h fun n7 n8 x12 w12 u12 hu12 h he12=>?_
  refine gs_match3 (by omega) (by omega) hp.gd.arm1 h (he11.mono hu12) he12 (her.mono (hu11.trans hu12)) rfl rfl (by simp) fun x13 w13 u13 hu13 h he13=>?_
  exact gx (hU.trans ((hu10.trans hu11).trans (hu12.trans hu13))) h he13 (by omega) (by omega)
theorem c_bodyOf (hp:PrgG u R x y ds fs) (f0:0≤f) (f1:f < fs.length) (hm:m+200000≤999900000) (h:GS u a R m w):
    Trip Tryz.prog 61 #[(pt a),.agg #[x.val,y.val],iV f] w (GX (Cv ds fs (nth fs f).params) u a R (m+100000) 5000):=by
  refine of61 _ _ _ _ _ _ ?_
  unfold vc61
  obtain ⟨g,e1,e2,hb⟩:=BdG.of hp h f0 f1
  have hgn:=hb.rg.n
  have hpl:=hb.pl
  have hr0:=hb.r0
  have hr1:=hb.r1
  have hil:=idxG_lt (l:=(nth fs f).params) (n:=1)
  refine ⟨hb.ix h,g,e1,hb.ix h,_,e2,_,c_placeInG (hb.rg.mono h.sub),?_⟩
  refine gs_int (C:=(Cv ds fs (nth fs f).params)) h (by omega) (by omega) fun n1 n2 x1 w1 u1 hu1 hs1 h he1=>?_
  have hb1:=hb.mono hu1
  refine gs_pick h (by omega) (by omega) (by omega) fun j w2 h _ _ _=>?_
  refine ⟨fun n1 n2 s w=>∃ u3,Sub u1 u3∧GS u3 a R (m+44000) w∧EV (Cv ds fs (nth fs f).params) u3 5000 n1 n2 s,⟨fun hc=>?_,fun hc=>⟨fun hc2=>?_,fun hc2=>?_⟩⟩,?_⟩
  · exact use_x (c_mainBody hb1.pr (by omega) h) fun n5 n6 x3 w3 u3 hu3 h he3=>⟨rfl,rfl,rfl,rfl,rfl,u3,hu3,h.le (by omega),(he3.le (by omega)).wide rfl rfl (Nat.zero_le _)⟩
  · simp only [bls] at hc2
    exact use_x (c_overList hb1.pr f0 f1 (by omega) (by omega) (by omega) h) fun n5 n6 x3 w3 u3 hu3 h he3=>⟨rfl,rfl,rfl,rfl,rfl,u3,hu3,h.le (by omega),he3.le (by omega)⟩
  · have ix:∀ q:Bool,(((decide (j < 3)) && (decide ((g.n:Int) > 0)))=true→IxOk g 0)∧(((decide (j < 3)) && (decide ((g.n:Int) > 0)))=true→w2.cell? ((elA g 0 1).add 0)=some (iV (nth (nth fs f).params 0))):=fun _=>
      ⟨fun hc=>hb1.rg.ix (by omega) (by simp only [bls] at hc;omega),fun hc=>((hb1.rg.mono h.sub).int (by omega) (by simp only [bls] at hc;omega)).1⟩
    refine ⟨(ix true).1,_,(ix true).2,fun hc3=>?_,fun hc3=>⟨(ix true).1,_,(ix true).2,fun hc4=>?_,fun hc4=>?_⟩⟩
    · exact use_x ((c_overTree hb1.pr f0 f1 (by simp only [bls] at hc3;omega) (by omega) h)) fun n5 n6 x3 w3 u3 hu3 h he3=>⟨rfl,rfl,rfl,rfl,rfl,u3,hu3,h.le (by omega),he3.le (by omega)⟩
    · exact use_x ((c_downFrom hb1.pr f0 f1 (by simp only [bls] at hc4;omega) (by omega) h)) fun n5 n6 x3 w3 u3 hu3 h he3=>⟨rfl,rfl,rfl,rfl,rfl,u3,hu3,h.le (by omega),he3.le (by omega)⟩
    · exact use_x (c_fitting hb1.pr (.of hb1.rg) (by omega) hr0 hr1 (by omega) (by omega) (by omega) h) fun n5 n6 x3 w3 u3 hu3 h he3=>⟨rfl,rfl,rfl,rfl,rfl,u3,hu3,h.le (by omega),he3.le (by omega)⟩
  rintro n5 n6 x3 w3 ⟨u3,hu3,h,he⟩
  obtain ⟨q,hq⟩:=he.nodes h.sub
  refine ⟨q,hq,fun hc=>?_,fun hc=>gx (hu1.trans hu3) h he (by omega) (by omega)⟩
  refine use_x (c_fitting (hb1.mono hu3).pr (.of (hb1.mono hu3).rg) (by omega) hr0 hr1 (by omega) (by omega) (by omega) h) fun n7 n8 x4 w4 u4 hu4 h he4=>?_
  exact gx (hu1.trans (hu3.trans hu4)) h he4 (by omega) (by omega)
end
end Go.Vc
