/- Part of the proofs about the heaps and memories: a law is joined in the text whose name ends in W and the law. -/
import Derived.Test.YtlcegaeioheikaaGreatEK4
import Derived.Test.YtlcegaeioheikaaGreatEK2
import Derived.Test.YtlcegaeioheikaaGreatEXG3e
set_option linter.all false
namespace Go.Vc
open Go Go.Proofs Go.RowKit
theorem find_snoc {α:Type} (p:α→Bool):∀ (l:List α) (a:α),(l++[a]).find? p=match l.find? p with|some b=>some b|none=>if p a=true then some a else none
  | [],a=>by simp only [List.nil_append,List.find?_cons,List.find?_nil];cases p a<;>rfl
  | b ::l,a=>by
    rw [List.cons_append,List.find?_cons,List.find?_cons]
    cases p b with
    | true=>rfl
    | false=>exact find_snoc p l a
theorem find_none {α:Type} {p:α→Bool} {l:List α} (h:∀ a∈l,p a=false):l.find? p=none:=List.find?_eq_none.2 fun a ha=>by rw [h a ha];exact Bool.false_ne_true
theorem armFor_snoc (arms:List ArmK) (a:ArmK) (v:Int):armFor (arms++[a]) v=match armFor arms v with|some b=>some b|none=>if inArm v a=true then some a else none:=by
  have h:=find_snoc (inArm v) arms a
  unfold armFor
  rw [h]
  cases List.find? (inArm v) arms<;>rfl
theorem armOf_snoc (arms:List ArmK) (a:ArmK) (v:Int):armOf (arms++[a]) v=if a.matched=v then some a else armOf arms v:=by
  unfold armOf
  rw [List.reverse_append,List.reverse_singleton,List.singleton_append,List.find?_cons]
  by_cases h:a.matched=v
  · rw [decide_eq_true h,if_pos h]
  · rw [decide_eq_false h,if_neg h]
theorem nth_appL {l r:List Int} {k:Int} (h0:0≤k) (h1:k < l.length):nth (l++r) k=nth l k:=by
  unfold nth;simp only [List.getD];rw [List.getElem?_append_left (by omega)]
theorem nth_snoc {l:List Int} {a:Int} {k:Int} (h1:k=l.length):nth (l++[a]) k=a:=by
  unfold nth;simp only [List.getD];rw [List.getElem?_append_right (by omega),h1];simp
def ArOk (arms:List ArmK) (n:Nat):Prop:=∀ a∈arms,0≤a.matched∧a.matched < a.first∧a.first+a.fields.length≤n
section
variable {u w v0:World} {a:Addr} {arms:List ArmK} {lent P C F fs:List Int} {σ σ':BalS} {I R:Items} {r v t m x c op num into:Int} {xx yy ax kx:Sl} {B n:Nat} {ds:List DeclD} {args:List Int}
theorem WfB.arOk (h:WfB ds arms B σ):ArOk arms σ.vars.length:=fun a ha=>let ⟨h1,h2,h3,_⟩:=h.ar a ha;⟨h1,h2,h3⟩
theorem ArOk.for_none (h:ArOk arms n) (hv:n≤v):armFor arms v=none:=find_none fun a ha=>by
  have:=h a ha
  unfold inArm
  simp only [Bool.and_eq_false_iff,decide_eq_false_iff_not]
  omega
theorem ArOk.of_none (h:ArOk arms n) (hv:n≤v):armOf arms v=none:=find_none fun a ha=>by
  have:=h a (List.mem_reverse.1 ha)
  simp only [decide_eq_false_iff_not]
  omega
theorem Lk.grow (h:Lk arms n P C F) (ha:ArOk arms n):Lk arms (n+1) (P++[-1]) (C++[-1]) (F++[-1]):=by
  refine ⟨by simp [h.l1],by simp [h.l2],by simp [h.l3],fun v v0 v1=>?_,fun v v0 v1=>?_⟩
  · by_cases e:v < n
    · rw [nth_appL v0 (by rw [h.l1];exact e)];exact h.par v v0 e
    · rw [nth_snoc (by have:=h.l1;omega),ha.for_none (by omega)]
  · by_cases e:v < n
    · rw [nth_appL v0 (by rw [h.l2];exact e),nth_appL v0 (by rw [h.l3];exact e)];exact h.con v v0 e
    · rw [nth_snoc (l:=C) (by have:=h.l2;omega),ha.of_none (by omega)]
theorem Lk.enter (h:Lk arms n P C F) (ha:ArOk arms n) (h0:0≤x) (h1:x < n):Lk (arms++[⟨x,n,c,[]⟩]) n P (C.set x.toNat c) (F.set x.toNat n):=by
  refine ⟨h.l1,by simp [h.l2],by simp [h.l3],fun v v0 v1=>?_,fun v v0 v1=>?_⟩
  · rw [armFor_snoc]
    have:=h.par v v0 v1
    cases hf:armFor arms v with
    | some b=>rw [hf] at this;exact this
    | none=>
      rw [hf] at this
      dsimp only
      rw [if_neg]
      · exact this
      · unfold inArm
        simp only [List.length_nil,Bool.and_eq_true,decide_eq_true_eq]
        omega
  · rw [armOf_snoc,nth_set _ _ _ _ h0 (by rw [h.l2];exact h1) v0,nth_set _ _ _ _ h0 (by rw [h.l3];exact h1) v0]
    by_cases e:v=x
    · subst e
      rw [if_pos rfl,if_pos rfl,if_pos rfl]
      exact ⟨rfl,rfl⟩
    · rw [if_neg (fun hh=>e hh.symm),if_neg e,if_neg e]
      exact h.con v v0 v1
theorem Lk.field {m:Nat} (h:Lk (arms++[⟨x,m,c,fs⟩]) n P C F) (ha:ArOk arms m) (hn:n=m+fs.length) (h0:0≤x) (h1:x < m):Lk (arms++[⟨x,m,c,fs++[t]⟩]) (n+1) (P++[x]) (C++[-1]) (F++[-1]):=by
  refine ⟨by simp [h.l1],by simp [h.l2],by simp [h.l3],fun v v0 v1=>?_,fun v v0 v1=>?_⟩
  · rw [armFor_snoc]
    by_cases e:v < n
    · rw [nth_appL v0 (by rw [h.l1];exact e)]
      have:=h.par v v0 e
      rw [armFor_snoc] at this
      cases hf:armFor arms v with
      | some b=>rw [hf] at this;exact this
      | none=>
        rw [hf] at this
        dsimp only at this ⊢
        have e2:inArm v ⟨x,m,c,fs++[t]⟩=inArm v ⟨x,m,c,fs⟩:=by
          unfold inArm
          rw [Bool.eq_iff_iff]
          simp only [List.length_append,List.length_singleton,Bool.and_eq_true,decide_eq_true_eq]
          omega
        rw [e2]
        by_cases hi:inArm v ⟨x,m,c,fs⟩=true
        · rw [if_pos hi] at this ⊢;exact this
        · rw [if_neg hi] at this ⊢;exact this
    · rw [nth_snoc (by have:=h.l1;omega),ha.for_none (by omega)]
      dsimp only
      rw [if_pos]
      unfold inArm
      simp only [List.length_append,List.length_singleton,Bool.and_eq_true,decide_eq_true_eq]
      omega
  · rw [armOf_snoc]
    by_cases e:v < n
    · rw [nth_appL v0 (by rw [h.l2];exact e),nth_appL v0 (by rw [h.l3];exact e)]
      have:=h.con v v0 e
      rw [armOf_snoc] at this
      dsimp only at this ⊢
      split
      · rename_i b hb
        split at hb
        · rename_i hx
          rw [if_pos hx] at this
          cases hb
          exact this
        · rename_i hx
          rw [if_neg hx,hb] at this
          exact this
      · rename_i hb
        split at hb
        · cases hb
        · rename_i hx
          rw [if_neg hx,hb] at this
          exact this
    · rw [nth_snoc (l:=C) (by have:=h.l2;omega),if_neg (by dsimp only;omega),ha.of_none (by omega)]
def OpL (u:World) (R:Items) (a:Addr) (lent P C F:List Int):Option BalS→Value→World→Prop
  | none,r,w=>r=.bool false∧Sub u w
  | some σ,r,w=>r=.bool true∧∃ I,LstP a lent σ P C F I∧St u w (I++R)
theorem c_ledOpen (hx:Read u xx ds) (hd:typesOk ds) (hL:LstP a lent σ P C F I) (hS:St u w (I++R)) (hw:WfB ds arms B σ) (hk:Lk arms σ.vars.length P C F) (hB:B≤1000000) (hl:σ.vars.length≤1000000) (ha:Read u ax args) (h0:0≤nth args 0) (h1:nth args 0 < σ.vars.length) (hal:1≤args.length):
    Trip Tryz.prog 120 #[(pt a),.agg #[xx.val,yy.val],.agg #[iV op,iV num,iV into,ax.val,kx.val]] w (OpL u R a lent P C F (openB arms σ op (nth args 0))):=by
  refine of120 _ _ _ _ _ _ _ _ _ _ ?_
  unfold vc120
  have hl1:=hw.l1
  have hl2:=hw.l2
  have hk2:=hk.l2
  have hk3:=hk.l3
  have hR:=hL.rd hS
  obtain ⟨x4,e4,r4⟩:=hR.k4
  obtain ⟨x6,e6,r6⟩:=hR.k6
  refine go_ix ha (by omega) (by omega) ?_
  refine ld_int (ha.mono hS.sub) (by omega) (by omega) ?_
  intro _ _
  refine ⟨x4,e4,?_⟩
  refine go_ix r4 h0 (by omega) ?_
  refine ld_int r4 h0 (by omega) ?_
  intro _ _
  refine ⟨x6,fun _ _=>e6,fun _ _=>r6.ix h0 (by omega),nth σ.tok (nth args 0),fun _ _=>(r6.int h0 (by omega)).1,fun hq=>?_,fun hq=>?_⟩
  · simp only [bls] at hq
    have hc:=hk.con _ h0 h1
    cases hao:armOf arms (nth args 0) with
    | none=>rw [hao] at hc;dsimp only at hc;omega
    | some b=>
      rw [hao] at hc
      obtain ⟨hcc,hcf⟩:=hc
      obtain ⟨hbm,hbx⟩:=armOf_mem hao
      obtain ⟨g1,g2,g3,g4,g5⟩:=hw.ar b hbm
      have hop:openB arms σ op (nth args 0)=(takeB σ (nth args 0)).map fun σ'=>if op=17 then tokB (incsB σ' b.first b.fields b.fields.length) (nth args 0) b.fields.length else incsB σ' b.first b.fields b.fields.length:=by
        unfold openB
        rw [hao]
        dsimp only
        rw [if_neg (by omega)]
      rw [hop]
      refine (c_ledTake hL hS h0 (by omega)).mono' ?_
      intro r2 w2 hT
      cases ht:takeB σ (nth args 0) with
      | none=>
        rw [ht] at hT
        obtain ⟨rfl,rfl⟩:=hT
        exact ⟨false,rfl,fun _=>⟨rfl,hS.sub⟩,fun hh=>(by cases hh)⟩
      | some σ1=>
        rw [ht] at hT
        obtain ⟨rfl,I2,hL,hS⟩:=hT
        refine ⟨true,rfl,fun hh=>(by cases hh),fun _=>?_⟩
        obtain ⟨w1,ev,et⟩:=hw.take ht
        have hl3:=w1.l1
        rw [ev] at hl3
        have hR:=hL.rd hS
        obtain ⟨x4,e4,r4⟩:=hR.k4
        refine ⟨x4,e4,?_⟩
        refine go_ix r4 h0 (by omega) ?_
        refine ld_int r4 h0 (by omega) ?_
        intro c0 c1
        rw [hcc]
        rw [hcc] at c0 c1
        refine Mk.use (c_conFieldsR hx hd.sm ⟨c0,c1⟩) hS ?_
        rintro _ w3 J ⟨z,rfl,hr⟩ hS hs
        have hzr:=hr _ (hS.to:St u w3 (J++[])).left
        have hzn:=hzr.n
        rw [←g5] at hzn
        refine ⟨_,rfl,?_⟩
        have hf3:=conF_len3 hd b.con
        rw [←g5] at hf3
        refine ⟨fun i w=>∃ I',LstP a lent (incsB σ1 b.first b.fields i.toNat) P C F I'∧St u w (I'++(J++R))∧0≤i∧i≤b.fields.length,fun i _=>(b.fields.length - i).toNat,⟨I2,hL,hS.to,by omega,by omega⟩,?_⟩
        clear hL hS hs hzr hR e4 r4
        rintro i w ⟨I3,hL,hS,i0,i1⟩
        dsimp only
        obtain ⟨k1,k2,k3⟩:=incsB_keep (σ:=σ1) b.first b.fields i.toNat
        have hzr:=hr _ (hS.to:St u w (J++[])).left
        refine ⟨fun hi=>?_,fun hi=>?_⟩
        · simp only [bls] at hi
          refine go_ix hzr i0 (by rw [←g5];omega) ?_
          refine ld_int hzr i0 (by rw [←g5];omega) ?_
          intro _ _
          have hsucc:incsB σ1 b.first b.fields (i+1).toNat=if nth b.fields i≠0 then incB (incsB σ1 b.first b.fields i.toNat) (b.first+i) else incsB σ1 b.first b.fields i.toNat:=by
            rw [show (i+1).toNat=i.toNat+1 from by omega,incsB,show ((i.toNat:Nat):Int)=i from by omega]
          rw [←g5]
          refine ⟨fun hq=>?_,fun hq=>?_⟩
          · simp only [bls] at hq
            have hR:=hL.rd hS
            obtain ⟨y2,f2,q2,st⟩:=hL.so2 hS
            obtain ⟨y5,f5,q5⟩:=hR.k5
            have hval:=incsB_own (σ:=σ1) b.first b.fields (by omega) i.toNat (by omega) (b.first+i) (by omega)
            rw [if_neg (by omega)] at hval
            have hbd:=nth_memD (B:=(B:Int)) w1.ow (by omega) (b.first+i)
            refine ⟨y2,f2,y5,f5,?_⟩
            refine go_ix q5 h0 (by omega) ?_
            refine ld_int q5 h0 (by omega) ?_
            intro _ _
            rw [hcf]
            refine go_wr (by omega) (by omega) ?_
            refine ⟨y2,f2,y5,f5,?_⟩
            refine go_ix q5 h0 (by omega) ?_
            refine ld_int q5 h0 (by omega) ?_
            intro _ _
            rw [hcf]
            refine go_wr (by omega) (by omega) ?_
            refine go_ix q2 (by omega) (by omega) ?_
            refine ld_int q2 (by omega) (by omega) ?_
            intro _ _
            refine go_wr (by omega) (by omega) ?_
            refine go_ix q2 (by omega) (by omega) ?_
            refine st (by omega) (by omega) ⟨by omega,by omega⟩ ?_
            intro w4 I4 hL hS
            refine go_wr (by omega) (by omega) ?_
            refine ⟨rfl,rfl,rfl,rfl,rfl,rfl,rfl,⟨I4,?_,hS,by omega,by omega⟩,by omega⟩
            rw [hsucc,if_pos hq]
            exact hL
          · simp only [bls] at hq
            refine go_wr (by omega) (by omega) ?_
            refine ⟨rfl,rfl,rfl,rfl,rfl,rfl,rfl,⟨I3,?_,hS,by omega,by omega⟩,by omega⟩
            rw [hsucc,if_neg (by omega)]
            exact hL
        · simp only [bls] at hi
          have hie:i.toNat=b.fields.length:=by omega
          rw [hie] at hL k1 k2 k3
          refine ⟨fun ho=>?_,fun ho=>?_⟩
          · simp only [bls] at ho
            obtain ⟨y6,f6,q6,st⟩:=hL.so6 hS
            have hl4:(incsB σ1 b.first b.fields b.fields.length).tok.length=σ.vars.length:=by rw [k2,et];exact hl2
            refine ⟨y6,f6,?_⟩
            refine go_ix q6 h0 (by omega) ?_
            rw [hzn]
            refine st h0 (by omega) ⟨by omega,by omega⟩ ?_
            intro w4 I4 hL hS
            refine ⟨rfl,I4,?_,hS.to⟩
            show LstP a lent (if op=17 then _ else _) P C F I4
            rw [if_pos ho]
            exact hL
          · simp only [bls] at ho
            refine ⟨rfl,I3,?_,hS.to⟩
            show LstP a lent (if op=17 then _ else _) P C F I3
            rw [if_neg ho]
            exact hL
  · simp only [bls] at hq
    have hc:=hk.con _ h0 h1
    have hn:openB arms σ op (nth args 0)=none:=by
      unfold openB
      cases hao:armOf arms (nth args 0) with
      | none=>rfl
      | some b=>
        rw [hao] at hc
        obtain ⟨hcc,hcf⟩:=hc
        obtain ⟨hbm,hbx⟩:=armOf_mem hao
        obtain ⟨g1,g2,g3,g4,g5⟩:=hw.ar b hbm
        dsimp only
        rw [if_pos (by omega)]
    rw [hn]
    exact ⟨rfl,hS.sub⟩
end
section
variable {u w v v0:World} {a:Addr} {arms:List ArmK} {lent P C F vars params:List Int} {σ σ':BalS} {I R:Items} {r t o i op num into:Int} {xx yy x y ax kx z px lx sx:Sl} {B n:Nat} {ds:List DeclD} {rs:List RoutD} {ss:List SigD} {args:List Int} {k:StepD} {res bres:Int}
theorem c_consumes:Fn Tryz.prog 108 #[iV op] v (.bool ((((decide (op=6)) || (decide (op=9))) || (decide (op=10))) || (decide (op=11)))):=by
  refine of108 _ _ _ ?_
  unfold vc108
  exact ⟨rfl,.refl v⟩
theorem c_lentAt (hy:Read v y rs) (hnum:op=9→0≤num∧num < rs.length):Fn Tryz.prog 109 #[.agg #[x.val,y.val],.agg #[iV op,iV num,iV into,ax.val,kx.val],iV i] v (.bool (pB (lentAtB (rs.map sgOf) op num i))):=by
  refine of109 _ _ _ _ _ _ _ _ _ _ ?_
  unfold vc109
  refine ⟨fun ho=>hy.ix (hnum (of_decide_eq_true ho)).1 (hnum (of_decide_eq_true ho)).2,?_⟩
  by_cases ho:op=9
  · obtain ⟨f1,f2,f3,e1,e2,e3,e4,e5,i1,i2,r1,r2,r3⟩:=(hy.src (.refl v)).ofRoutD (hnum ho).1 (hnum ho).2
    refine ⟨f2,fun _=>e2,_,fun _=>c_specIsIn r2,?_,.refl v⟩
    congr 1
    refine pB_eq ?_
    unfold lentAtB
    rw [nth_sg]
    simp only [bls]
    rfl
  · refine ⟨Sl.mk none 0 0,fun hh=>absurd (of_decide_eq_true hh) ho,false,fun hh=>absurd (of_decide_eq_true hh) ho,?_,.refl v⟩
    rw [pB_f fun hh=>ho hh.1];simp
theorem c_isConsumed (hy:Read v y rs) (hnum:op=9→0≤num∧num < rs.length) (hz:Read v z vars) (ha:Read v ax args) (h0:0≤i) (h1:i < args.length) (hin:0≤nth args i∧nth args i < vars.length):
    Fn Tryz.prog 157 #[.agg #[x.val,y.val],z.val,.agg #[iV op,iV num,iV into,ax.val,kx.val],iV i] v (.bool (pB (consAt (rs.map sgOf) vars op num args i))):=by
  refine of157 _ _ _ _ _ _ _ _ _ _ _ ?_
  unfold vc157
  refine ⟨_,c_consumes,?_⟩
  refine go_ixg ha (fun _=>⟨h0,h1⟩) ?_
  refine ld_intg ha (fun _=>⟨h0,h1⟩) ?_
  refine go_ixg hz (fun _=>hin) ?_
  refine ld_intg hz (fun _=>hin) ?_
  refine ⟨_,fun _=>c_lentAt hy hnum,?_,.refl v⟩
  congr 1
  refine pB_eq ?_
  unfold consAt isCons
  rcases Classical.em (lentAtB (rs.map sgOf) op num i) with hl|hl
  · rw [pB_t hl]
    simp only [bls]
    constructor
    · intro hh;exact absurd hh.2 (by simp)
    · intro hh;exact absurd hl hh.2.2
  · rw [pB_f hl]
    simp only [bls]
    constructor
    · intro hh;exact ⟨by omega,by omega,hl⟩
    · rintro ⟨h1,h2,_⟩
      first|exact ⟨⟨by omega,by omega⟩,trivial⟩|exact ⟨by omega,by omega⟩
theorem takesB_none {n k:Nat} (h:takesB ss op num args n σ=none) (hk:n≤k):takesB ss op num args k σ=none:=by
  induction k with
  | zero=>rw [show n=0 from by omega] at h;exact h
  | succ k ih=>
    by_cases e:n=k+1
    · rw [←e];exact h
    · rw [takesB,ih (by omega)];rfl
theorem c_ledHand (h:Nrm u xx yy ds rs) (hL:LstP a lent σ P C F I) (hS:St u w (I++R)) (hw:WfB ds arms B σ) (hk:Lk arms σ.vars.length P C F) (hl:σ.vars.length≤1000000) (hB:B≤1000000) (ha:Read u ax args)
    (hin:argsIn σ.vars args) (hto:intoIn σ.vars op into) (hnum:op=9→0≤num∧num < rs.length) (hi:InI into):
    Trip Tryz.prog 122 #[(pt a),.agg #[xx.val,yy.val],.agg #[iV op,iV num,iV into,ax.val,kx.val]] w (OpL u R a lent P C F (handB (rs.map sgOf) lent arms op num into args σ)):=by
  refine of122 _ _ _ _ _ _ _ _ _ _ ?_
  unfold vc122
  have han:=ha.n
  have hal:=ha.le
  obtain ⟨hi1,hi2⟩:=hi
  refine ⟨fun i w=>∃ σ' I',takesB (rs.map sgOf) op num args i.toNat σ=some σ'∧LstP a lent σ' P C F I'∧St u w (I'++R)∧0≤i∧i≤args.length,fun i _=>(args.length - i).toNat,⟨σ,I,by rw [show ((0:Int)).toNat=0 from rfl,takesB],hL,hS,by omega,by omega⟩,?_⟩
  clear hL hS
  rintro i w ⟨σ1,I1,ht,hL,hS,i0,i1⟩
  dsimp only
  obtain ⟨w1,ev⟩:=hw.takes _ _ ht
  have hR:=hL.rd hS
  have hl1:=w1.l1
  have hl2:=w1.l2
  refine ⟨fun hc=>?_,fun hc=>?_⟩
  · simp only [bls] at hc
    have hil:i < args.length:=by omega
    obtain ⟨x1,e1,r1⟩:=hR.k1
    have hai:=argsIn_nth hin i0 hil
    have hsucc:takesB (rs.map sgOf) op num args (i+1).toNat σ=(takesB (rs.map sgOf) op num args i.toNat σ).bind fun σ'=>@ite _ (consAt (rs.map sgOf) σ'.vars op num args i) (Classical.propDecidable _) (takeB σ' (nth args i)) (some σ'):=by
      rw [show (i+1).toNat=i.toNat+1 from by omega,takesB,show ((i.toNat:Nat):Int)=i from by omega]
    rw [ht,Option.bind_some] at hsucc
    refine ⟨x1,e1,_,c_isConsumed (h.hy.mono hS.sub) hnum r1 (ha.mono hS.sub) i0 hil (by rw [ev];exact hai),?_⟩
    refine go_ixg ha (fun _=>⟨i0,hil⟩) ?_
    refine ld_intg (ha.mono hS.sub) (fun _=>⟨i0,hil⟩) ?_
    refine ⟨fun hq=>?_,fun hq=>?_⟩
    · have hq:=pB_iff.1 hq
      rw [if_pos hq] at hsucc
      refine (c_ledTake hL hS hai.1 (by rw [hl1,ev];exact hai.2)).mono' ?_
      intro r2 w2 hT
      cases htk:takeB σ1 (nth args i) with
      | none=>
        rw [htk] at hT hsucc
        obtain ⟨rfl,rfl⟩:=hT
        refine ⟨false,rfl,fun _=>?_,fun hh=>(by cases hh)⟩
        have hn:handB (rs.map sgOf) lent arms op num into args σ=none:=by
          unfold handB
          rw [takesB_none hsucc (by omega)];rfl
        rw [hn]
        exact ⟨rfl,hS.sub⟩
      | some σ2=>
        rw [htk] at hT hsucc
        obtain ⟨rfl,I2,hL2,hS2⟩:=hT
        refine ⟨true,rfl,fun hh=>(by cases hh),fun _=>?_⟩
        refine go_wr (by omega) (by omega) ?_
        exact ⟨rfl,rfl,rfl,rfl,rfl,rfl,rfl,⟨σ2,I2,hsucc,hL2,hS2,by omega,by omega⟩,by omega⟩
    · have hq:¬ consAt (rs.map sgOf) σ1.vars op num args i:=fun hh=>by rw [pB_t hh] at hq;cases hq
      rw [if_neg hq] at hsucc
      refine go_wr (by omega) (by omega) ?_
      exact ⟨rfl,rfl,rfl,rfl,rfl,rfl,rfl,⟨σ1,I1,hsucc,hL,hS,by omega,by omega⟩,by omega⟩
  · simp only [bls] at hc
    rw [show i.toNat=args.length from by omega] at ht
    have hk1:Lk arms σ1.vars.length P C F:=by rw [ev];exact hk
    refine ⟨fun j w'=>w=w'∧0≤j∧j≤args.length∧∀ q:Int,0≤q→q < j→lentAtB (rs.map sgOf) op num q→AlB arms lent σ1.own (nth args q),fun j _=>(args.length - j).toNat,⟨rfl,by omega,by omega,fun q q0 q1=>by omega⟩,?_⟩
    rintro j _ ⟨rfl,j0,j1,hj⟩
    dsimp only
    refine ⟨fun hd=>?_,fun hd=>?_⟩
    · simp only [bls] at hd
      have hjl:j < args.length:=by omega
      have haj:=argsIn_nth hin j0 hjl
      refine ⟨_,c_lentAt (h.hy.mono hS.sub) hnum,?_⟩
      refine go_ixg ha (fun _=>⟨j0,hjl⟩) ?_
      refine ld_intg (ha.mono hS.sub) (fun _=>⟨j0,hjl⟩) ?_
      refine ⟨_,fun _=>c_ledAlive hR w1 hk1 haj.1 (by rw [ev];exact haj.2),fun hq=>?_,fun hq=>?_⟩
      · simp only [bls] at hq
        have hlt:=pB_iff.1 hq.1
        have hnal:¬ AlB arms lent σ1.own (nth args j):=fun hh=>by rw [pB_t hh] at hq;exact absurd hq.2 (by simp)
        have hn:handB (rs.map sgOf) lent arms op num into args σ=none:=by
          unfold handB
          rw [ht,Option.bind_some,if_neg fun hh=>hnal (hh j j0 hjl hlt)]
        rw [hn]
        exact ⟨rfl,hS.sub⟩
      · simp only [bls] at hq
        refine go_wr (by omega) (by omega) ?_
        refine ⟨rfl,rfl,rfl,rfl,rfl,rfl,rfl,⟨rfl,by omega,by omega,fun q q0 q1 hlq=>?_⟩,by omega⟩
        by_cases e:q=j
        · subst e
          rcases hq with hq|hq
          · rw [pB_t hlq] at hq;cases hq
          · exact pB_iff.1 hq
        · exact hj q q0 (by omega) hlq
    · simp only [bls] at hd
      have hlo:lentsOk (rs.map sgOf) lent arms op num args σ1:=fun q q0 q1=>hj q q0 (by omega)
      have hh:handB (rs.map sgOf) lent arms op num into args σ=intoB into args σ1:=by
        unfold handB
        rw [ht,Option.bind_some,if_pos hlo]
      rw [hh]
      unfold intoB
      refine ⟨fun hq=>?_,fun hq=>?_⟩
      · simp only [bls] at hq
        rw [if_neg (by omega)]
        have hr:0≤into - 1∧into - 1 < σ.vars.length:=by
          rcases hto with h1|⟨_,h2,h3,_⟩
          · omega
          · omega
        obtain ⟨x6,e6,r6,st⟩:=hL.so6 hS
        refine ⟨x6,e6,?_⟩
        refine go_wr (by omega) (by omega) ?_
        refine go_ix r6 (by omega) (by rw [hl2,ev];omega) ?_
        refine ld_int r6 (by omega) (by rw [hl2,ev];omega) ?_
        intro _ _
        rw [han]
        refine ⟨fun hq=>?_,fun hq=>?_⟩
        · simp only [bls] at hq
          rw [if_pos hq]
          exact ⟨rfl,hS.sub⟩
        · simp only [bls] at hq
          rw [if_neg (by omega)]
          refine ⟨x6,e6,?_⟩
          refine go_wr (by omega) (by omega) ?_
          refine go_ix r6 (by omega) (by rw [hl2,ev];omega) ?_
          refine st (by omega) (by rw [hl2,ev];omega) ⟨by omega,by omega⟩ ?_
          intro w3 I3 hL3 hS3
          exact ⟨rfl,I3,hL3,hS3⟩
      · simp only [bls] at hq
        have hi0:into=0:=by
          rcases hto with h1|⟨_,h2,h3,_⟩
          · exact h1
          · omega
        rw [if_pos hi0]
        exact ⟨rfl,I1,hL,hS⟩
noncomputable def ownAt (params lent:List Int) (i:Nat):Int:=bif pB (nth params (i:Int)≠0∧(i:Int)∉lent) then 1 else 0
noncomputable def startK (params lent:List Int) (k:Nat):BalS:=⟨params.take k,(List.range k).map (ownAt params lent),List.replicate k (-1)⟩
noncomputable def startB (params lent:List Int):BalS:=startK params lent params.length
theorem startK_succ (h0:0≤i) (h1:i < params.length):startK params lent (i+1).toNat=growB (startK params lent i.toNat) (nth params i) (ownAt params lent i.toNat):=by
  unfold startK growB
  rw [take_nth h0 h1,show (i+1).toNat=i.toNat+1 from by omega,List.range_succ,List.map_append,List.replicate_succ']
  rfl
theorem ownAt_le (params lent:List Int) (i:Nat):0≤ownAt params lent i∧ownAt params lent i≤1:=by
  unfold ownAt
  cases pB (nth params (i:Int)≠0∧(i:Int)∉lent)<;>simp
theorem start_wf (hv:nonneg params):WfB ds [] 1 (startB params lent):=by
  unfold startB startK
  refine ⟨by simp,by simp,fun t ht=>hv t (List.mem_of_mem_take ht),fun n hn=>?_,fun n hn=>?_,fun a ha=>by cases ha⟩
  · obtain ⟨i,_,rfl⟩:=List.mem_map.1 hn
    exact ownAt_le params lent i
  · rw [List.eq_of_mem_replicate hn];omega
theorem start_vars:(startB params lent).vars=params:=by unfold startB startK;simp
theorem ArOk.nil (n:Nat):ArOk [] n:=fun a ha=>by cases ha
theorem c_newLedger (hp:Read v px params) (hlx:Read v lx lent) (hv:nonneg params) (hl:params.length≤1000):
    Mk Tryz.prog 89 #[.agg #[px.val,lx.val,iV res,sx.val,iV bres]] v fun r J=>∃ a:Addr,r=(pt a)∧Lst a [] lent (startB params lent) J:=by
  refine of89 _ _ _ _ _ _ _ ?_
  unfold vc89
  have hpn:=hp.n
  refine Mk.use (c_copyInts hlx) (.refl v) ?_
  rintro _ w1 J1 ⟨z1,rfl,hO⟩ hS hs
  refine ⟨_,rfl,?_⟩
  refine St.box (vals:=[.slice none 0 0,.slice none 0 0,.slice none 0 0,.slice none 0 0,.slice none 0 0,.slice none 0 0,z1.val]) hS fun a w2 I0 hC hS hs2=>?_
  have hn:OwnI (Sl.mk none 0 0) [] []:=fun u=>Own.nil u
  have hL:LstP a lent (startK params lent 0) [] [] [] (I0++([]++([]++([]++([]++([]++([]++J1))))))):=⟨Sl.mk none 0 0,Sl.mk none 0 0,Sl.mk none 0 0,Sl.mk none 0 0,Sl.mk none 0 0,Sl.mk none 0 0,z1,I0,[],[],[],[],[],[],J1,hC,hn,hn,hn,hn,hn,hn,hO.toI,rfl⟩
  refine ⟨fun i w=>∃ P C F I,LstP a lent (startK params lent i.toNat) P C F I∧Lk [] i.toNat P C F∧St v w (I++[])∧0≤i∧i≤params.length,fun i _=>(params.length - i).toNat,⟨[],[],[],_,hL,⟨rfl,rfl,rfl,fun v v0 v1=>by simp at v1;omega,fun v v0 v1=>by simp at v1;omega⟩,by simpa using hS,by omega,by omega⟩,?_⟩
  clear hL hC hS hs2 hO
  rintro i w ⟨P,C,F,I,hL,hk,hS,i0,i1⟩
  dsimp only
  refine ⟨fun hc=>?_,fun hc=>?_⟩
  · simp only [bls] at hc
    have hil:i < params.length:=by omega
    refine go_ix hp i0 hil ?_
    refine ld_int (hp.mono hS.sub) i0 hil ?_
    intro q0 q1
    refine ⟨_,fun _=>c_specIsIn (hlx.mono hS.sub),?_⟩
    have hlen:(startK params lent i.toNat).vars.length≤1000000∧(startK params lent i.toNat).own.length≤1000000∧P.length≤1000000∧C.length≤1000000∧F.length≤1000000∧(startK params lent i.toNat).tok.length≤1000000:=by
      have:=hk.l1;have:=hk.l2;have:=hk.l3
      unfold startK
      simp only [List.length_take,List.length_map,List.length_range,List.length_replicate]
      omega
    have hnx:∀ (o:Int),o=ownAt params lent i.toNat→Trip Tryz.prog 118 #[(pt a),iV (nth params i),iV o,iV (-1)] w fun r w'=>r=.tuple #[]∧∃ P C F I,LstP a lent (startK params lent (i+1).toNat) P C F I∧Lk [] (i+1).toNat P C F∧St v w' (I++[]):=by
      rintro o rfl
      have ho:=ownAt_le params lent i.toNat
      refine (c_ledGrowP hL hS hlen ⟨q0,q1⟩ ⟨by omega,by omega⟩ ⟨by omega,by omega⟩).mono' ?_
      rintro r w' ⟨rfl,I2,hL2,hS2⟩
      refine ⟨rfl,_,_,_,I2,by rw [startK_succ i0 hil];exact hL2,?_,hS2⟩
      rw [show (i+1).toNat=i.toNat+1 from by omega]
      exact hk.grow (ArOk.nil _)
    refine ⟨fun hq=>?_,fun hq=>?_⟩
    · simp only [bls] at hq
      refine go_ix hp i0 hil ?_
      refine ld_int (hp.mono hS.sub) i0 hil ?_
      intro _ _
      refine (hnx 1 ?_).mono' ?_
      · unfold ownAt
        rw [pB_t ⟨by rw [show ((i.toNat:Nat):Int)=i from by omega];exact hq.1,by rw [show ((i.toNat:Nat):Int)=i from by omega];exact hq.2⟩]
        rfl
      · rintro r w' ⟨rfl,P2,C2,F2,I2,hL2,hk2,hS2⟩
        refine ⟨rfl,?_⟩
        refine go_wr (by omega) (by omega) ?_
        exact ⟨rfl,rfl,rfl,rfl,rfl,⟨P2,C2,F2,I2,hL2,hk2,hS2,by omega,by omega⟩,by omega⟩
    · simp only [bls] at hq
      refine go_ix hp i0 hil ?_
      refine ld_int (hp.mono hS.sub) i0 hil ?_
      intro _ _
      refine (hnx 0 ?_).mono' ?_
      · unfold ownAt
        rw [pB_f]
        · rfl
        rw [show ((i.toNat:Nat):Int)=i from by omega]
        rintro ⟨g1,g2⟩
        rcases hq with hq|hq
        · exact g1 hq
        · exact g2 hq
      · rintro r w' ⟨rfl,P2,C2,F2,I2,hL2,hk2,hS2⟩
        refine ⟨rfl,?_⟩
        refine go_wr (by omega) (by omega) ?_
        exact ⟨rfl,rfl,rfl,rfl,rfl,⟨P2,C2,F2,I2,hL2,hk2,hS2,by omega,by omega⟩,by omega⟩
  · simp only [bls] at hc
    rw [show i.toNat=params.length from by omega] at hL hk
    exact ⟨I,by simpa using hS,a,rfl,P,C,F,hL,by rw [start_vars];exact hk⟩
end
open Classical in
noncomputable def coreB (ds:List DeclD) (ss:List SigD) (lent:List Int) (arms:List ArmK) (σ:BalS) (s:StepD):Option BalS:=
  if s.op=14 then (if AlB arms lent σ.own (nth s.args 0) then some (incB σ (nth s.args 0)) else none)
  else if s.op=15 then takeB σ (nth s.args 0)
  else if s.op=16∨s.op=17 then openB arms σ s.op (nth s.args 0)
  else if s.op=7∨s.op=8 then
    (if s.op=8∧¬ AlB arms lent σ.own (nth s.args 0) then none
     else (joinB (kdsB ds ss lent arms σ s.op (nth s.args 0) (consL ds s.num) s.kids)).map fun p=>⟨σ.vars,p.1,p.2⟩)
  else handB ss lent arms s.op s.num s.into s.args σ
theorem stB_core {ds:List DeclD} {ss:List SigD} {lent:List Int} {arms:List ArmK} {σ:BalS} {s:StepD}:stB ds ss lent arms σ s=match coreB ds ss lent arms σ s with
    | none=>none
    | some σ1=>some (if isCnt s.op then σ1 else growB σ1 (gD (stpT ds ss σ.vars s)) (oneOf (gD (stpT ds ss σ.vars s)))):=by
  classical
  rw [stB_eq]
  unfold coreB
  by_cases h14:s.op=14
  · rw [if_pos h14,if_pos h14]
    split
    · dsimp only;rw [if_pos (by unfold isCnt;omega)]
    · rfl
  rw [if_neg h14,if_neg h14]
  by_cases h15:s.op=15
  · rw [if_pos h15,if_pos h15]
    cases takeB σ (nth s.args 0) with
    | none=>rfl
    | some σ1=>dsimp only;rw [if_pos (by unfold isCnt;omega)]
  rw [if_neg h15,if_neg h15]
  by_cases h16:s.op=16∨s.op=17
  · rw [if_pos h16,if_pos h16]
    cases openB arms σ s.op (nth s.args 0) with
    | none=>rfl
    | some σ1=>dsimp only;rw [if_pos (by unfold isCnt;omega)]
  rw [if_neg h16,if_neg h16]
  by_cases h7:s.op=7∨s.op=8
  · rw [if_pos h7,if_pos h7]
    by_cases hc:s.op=8∧¬ AlB arms lent σ.own (nth s.args 0)
    · rw [if_pos hc,if_pos hc]
    · rw [if_neg hc,if_neg hc]
      cases joinB (kdsB ds ss lent arms σ s.op (nth s.args 0) (consL ds s.num) s.kids) with
      | none=>rfl
      | some p=>dsimp only [Option.map_some];rw [if_neg (by unfold isCnt;omega)]
  rw [if_neg h7,if_neg h7]
  cases handB ss lent arms s.op s.num s.into s.args σ with
  | none=>rfl
  | some σ1=>dsimp only;rw [if_neg (by unfold isCnt;omega)]
def OpE (u:World) (R:Items) (a:Addr) (lent:List Int) (m:Nat):Option (List Int×List Int)→Value→World→Prop
  | none,r,w=>r=.bool false∧Sub u w
  | some p,r,w=>r=.bool true∧∃ I vs P C F,LstP a lent ⟨vs,p.1,p.2⟩ P C F I∧vs.length=m∧P.length=m∧C.length=m∧F.length=m∧St u w (I++R)
def BlkS (ds:List DeclD) (rs:List RoutD) (lent:List Int) (b:BlockD):Prop:=∀ (u w:World) (a:Addr) (x y xs:Sl) (arms:List ArmK) (σ:BalS) (P C F:List Int) (I R:Items) (m B:Nat) (t:Int),Nrm u x y ds rs→Read u xs b.steps→InI b.result→LstP a lent σ P C F I→Lk arms σ.vars.length P C F→WfB ds arms B σ→St u w (I++R)→
  blkT ds (rs.map sgOf) σ.vars b=some t→m≤σ.vars.length→σ.vars.length+4 * cntB b≤10000→B+cntB b≤10000→
  Trip Tryz.prog 173 #[(pt a),.agg #[x.val,y.val],.agg #[xs.val,iV b.result],iV m] w (OpE u R a lent m (bkB ds (rs.map sgOf) lent arms σ m b))
section
variable {u w v:World} {a:Addr} {arms:List ArmK} {lent P C F fs vars:List Int} {σ:BalS} {I R:Items} {r t i op num into:Int} {xx yy ax kx:Sl} {B n:Nat} {ds:List DeclD} {rs:List RoutD} {args:List Int} {k:StepD} {c:StepD} {p:List Int×List Int}
theorem kidS_nil:kidS σ []=σ:=by unfold kidS;simp
theorem kidS_succ (h0:0≤i) (h1:i < fs.length):kidS σ (fs.take (i+1).toNat)=growB (kidS σ (fs.take i.toNat)) (nth fs i) 0:=by
  unfold kidS growB
  have e:(fs.take (i+1).toNat).length=(fs.take i.toNat).length+1:=by rw [take_nth h0 h1];simp
  rw [e,List.replicate_succ',List.replicate_succ',take_nth h0 h1]
  simp only [List.append_assoc]
theorem c_ledKid (h:Nrm u xx yy ds rs) (hL:LstP a lent σ P C F I) (hS:St u w (I++R)) (hw:WfB ds arms B σ) (hk:Lk arms σ.vars.length P C F) (ha:Read u ax c.args) (hkx:Read u kx c.kids) (hnum:InI c.num)
    (hv:stpT ds (rs.map sgOf) σ.vars c=some t) (ho:c.op=7∨c.op=8) (i0:0≤i) (i1:i < c.kids.length) (H:∀ k∈c.kids,BlkS ds rs lent k) (hb:σ.vars.length+3+4 * cntS c≤10000) (hB:B+cntS c≤10000):
    Trip Tryz.prog 161 #[(pt a),.agg #[xx.val,yy.val],.agg #[iV c.op,iV c.num,iV into,ax.val,kx.val],iV i] w fun r w'=>
      ∃ (a':Addr) (q:Bool),r=.tuple #[.pointer (some (a'.add 0)),.bool q]∧OpE u (I++R) a' lent σ.vars.length (bkB ds (rs.map sgOf) lent (kidA ds arms c.op (nth c.args 0) σ.vars.length (nth (consL ds c.num) i)) (kidS σ (kidF ds c.op (nth (consL ds c.num) i))) σ.vars.length (nth c.kids i)) (.bool q) w':=by
  refine of161 _ _ _ _ _ _ _ _ _ _ _ ?_
  unfold vc161
  obtain ⟨hl,hk1,h7,h8,hkv⟩:=stp_choice hv ho
  obtain ⟨hin,_⟩:=stp_args hv
  have ha0:=argsIn_nth hin (i:=0) (by omega) (by omega)
  have hmem:=nth_mem (l:=c.kids) i0 i1
  have hcm:=cntK_mem c.kids hmem
  rw [cntS_eq] at hb hB
  have hR:=hL.rd hS
  obtain ⟨x1,e1,r1⟩:=hR.k1
  have x1n:=r1.n
  obtain ⟨g1,d1,d2,q1,t1⟩:=(hkx.src (.refl u)).ofBlockD i0 i1
  have fin:∀ (w2:World) (a':Addr) (I2:Items) (P2 C2 F2:List Int) (arms2:List ArmK) (σ2:BalS),arms2=kidA ds arms c.op (nth c.args 0) σ.vars.length (nth (consL ds c.num) i)→σ2=kidS σ (kidF ds c.op (nth (consL ds c.num) i))→
      LstP a' lent σ2 P2 C2 F2 I2→Lk arms2 σ2.vars.length P2 C2 F2→St u w2 (I2++(I++R))→
      Trip Tryz.prog 173 #[.pointer (some (a'.add 0)),.agg #[xx.val,yy.val],.agg #[g1.val,iV (nth c.kids i).result],iV (x1.n:Int)] w2 fun r w'=>∃ q:Bool,r=.bool q∧∃ (a'':Addr) (q':Bool),Value.tuple #[.pointer (some (a'.add 0)),.bool q]=.tuple #[.pointer (some (a''.add 0)),.bool q']∧
        OpE u (I++R) a'' lent σ.vars.length (bkB ds (rs.map sgOf) lent arms2 σ2 σ.vars.length (nth c.kids i)) (.bool q') w':=by
    rintro w2 a' I2 P2 C2 F2 arms2 σ2 hA hσ hL2 hk2 hS2
    rw [x1n]
    have hwk:=hw.kid (op:=c.op) (v:=nth c.args 0) (k:=nth (consL ds c.num) i) h.sg.1 (fun _=>⟨ha0.1,ha0.2,consL_nn ds c.num i⟩)
    rw [←hA,←hσ] at hwk
    have hkf:σ2.vars.length=σ.vars.length+(kidF ds c.op (nth (consL ds c.num) i)).length:=by rw [hσ];unfold kidS;simp
    have hk3:(kidF ds c.op (nth (consL ds c.num) i)).length≤3:=by
      unfold kidF;split
      · exact conF_len3 h.sg.1 _
      · simp
    have hvk:=hkv i i0 i1
    rw [show σ.vars++kidF ds c.op (nth (consL ds c.num) i)=σ2.vars from by rw [hσ];rfl] at hvk
    refine (H _ hmem u w2 a' xx yy g1 arms2 σ2 P2 C2 F2 I2 (I++R) σ.vars.length B t h t1 q1 hL2 hk2 hwk hS2 hvk (by omega) (by omega) (by omega)).mono' ?_
    intro r w3 hE
    cases hbk:bkB ds (rs.map sgOf) lent arms2 σ2 σ.vars.length (nth c.kids i) with
    | none=>
      rw [hbk] at hE
      obtain ⟨rfl,hs⟩:=hE
      exact ⟨false,rfl,a',false,rfl,rfl,hs⟩
    | some p=>
      rw [hbk] at hE
      obtain ⟨rfl,hE⟩:=hE
      exact ⟨true,rfl,a',true,rfl,rfl,hE⟩
  refine ⟨x1,e1,?_⟩
  refine Mk.usew (c_ledCopied hR) hS ?_
  rintro _ w2 J2 ⟨a2,rfl,hL2⟩ hS2 hs2
  refine ⟨a2,rfl,?_⟩
  rcases ho with ho|ho
  · refine ⟨fun hh=>absurd (of_decide_eq_true hh) (by omega),fun _=>?_⟩
    refine go_ix hkx i0 i1 ?_
    refine ⟨g1,_,⟨cell_sub hS2.sub d1,cell_sub hS2.sub d2⟩,?_⟩
    have eF:kidF ds c.op (nth (consL ds c.num) i)=[]:=by unfold kidF;rw [if_neg (by omega)]
    have eA:kidA ds arms c.op (nth c.args 0) σ.vars.length (nth (consL ds c.num) i)=arms:=by unfold kidA;rw [if_neg (by omega)]
    have:=fin w2 a2 J2 P C F arms σ eA.symm (by rw [eF,kidS_nil]) hL2 hk hS2
    rw [eA,eF,kidS_nil]
    exact this
  · refine ⟨fun _=>?_,fun hh=>absurd (of_decide_eq_false hh) (by omega)⟩
    have hcl:=h8 ho
    refine Mk.use (c_consOfB h.hx h.sm hnum) hS2 ?_
    rintro _ w3 J3 ⟨z3,rfl,hO3⟩ hS3 hs3
    refine ⟨_,rfl,?_⟩
    have hz3:=hO3.read hS3
    refine go_ix hz3 i0 (by omega) ?_
    refine ld_int hz3 i0 (by omega) ?_
    intro c0 c1
    refine Mk.use (c_conFieldsR h.hx h.sm ⟨c0,c1⟩) hS3 ?_
    rintro _ w4 J4 ⟨z4,rfl,hr4⟩ hS4 hs4
    refine ⟨_,rfl,?_⟩
    replace hS4:St u w4 (J2++(J4++(I++R))):=hS4.to
    obtain ⟨x4,e4,r4,st4⟩:=hL2.so4 hS4
    have hcn:=hk.l2
    have hfn:=hk.l3
    refine ⟨x4,e4,?_⟩
    refine go_ix ha (by omega) (by omega) ?_
    refine ld_int (ha.mono hS4.sub) (by omega) (by omega) ?_
    intro _ _
    refine go_ix r4 ha0.1 (by omega) ?_
    refine st4 ha0.1 (by omega) ⟨c0,c1⟩ ?_
    intro w5 J5 hL5 hS5
    obtain ⟨x5,e5,r5,st5⟩:=hL5.so5 hS5
    refine ⟨x5,e5,?_⟩
    refine go_ix ha (by omega) (by omega) ?_
    refine ld_int (ha.mono hS5.sub) (by omega) (by omega) ?_
    intro _ _
    refine go_ix r5 ha0.1 (by omega) ?_
    rw [x1n]
    refine st5 ha0.1 (by omega) ⟨by omega,by omega⟩ ?_
    intro w6 J6 hL6 hS6
    have hk6:=hk.enter (c:=nth (consL ds c.num) i) hw.arOk ha0.1 ha0.2
    have hf3:=conF_len3 h.sg.1 (nth (consL ds c.num) i)
    have hz4n:=(hr4 _ (hS6.to:St u w6 (J4++[])).left).n
    refine ⟨fun j w=>∃ P C F I2,LstP a2 lent (kidS σ ((conF ds (nth (consL ds c.num) i)).take j.toNat)) P C F I2∧Lk (arms++[⟨nth c.args 0,σ.vars.length,nth (consL ds c.num) i,(conF ds (nth (consL ds c.num) i)).take j.toNat⟩]) (σ.vars.length+j.toNat) P C F∧St u w (I2++(J4++(I++R)))∧0≤j∧j≤(conF ds (nth (consL ds c.num) i)).length,fun j _=>((conF ds (nth (consL ds c.num) i)).length - j).toNat,
      ⟨_,_,_,J6,by rw [show ((0:Int)).toNat=0 from rfl,List.take_zero,kidS_nil];exact hL6,by rw [show ((0:Int)).toNat=0 from rfl,List.take_zero,Nat.add_zero];exact hk6,hS6,by omega,by omega⟩,?_⟩
    rintro j w7 ⟨P7,C7,F7,J7,hL7,hk7,hS7,j0,j1⟩
    dsimp only
    have hz4:=hr4 _ (hS7.to:St u w7 (J4++[])).left
    refine ⟨fun hc=>?_,fun hc=>?_⟩
    · simp only [bls] at hc
      have hjl:j < (conF ds (nth (consL ds c.num) i)).length:=by omega
      refine go_ix hz4 j0 hjl ?_
      refine ld_int hz4 j0 hjl ?_
      intro f0 f1
      refine go_ix ha (by omega) (by omega) ?_
      refine ld_int (ha.mono hS7.sub) (by omega) (by omega) ?_
      intro m0 m1
      have hkl:=hk7.l1
      have hkl2:=hk7.l2
      have hkl3:=hk7.l3
      have hw1:=hw.l1
      have hw2:=hw.l2
      refine (c_ledGrowP hL7 hS7 ?_ ⟨f0,f1⟩ ⟨by omega,by omega⟩ ⟨m0,m1⟩).mono' ?_
      · unfold kidS
        simp only [List.length_append,List.length_take,List.length_replicate]
        omega
      rintro r w8 ⟨rfl,I8,hL8,hS8⟩
      refine ⟨rfl,?_⟩
      refine go_wr (by omega) (by omega) ?_
      refine ⟨rfl,rfl,rfl,rfl,rfl,rfl,rfl,⟨P7++[nth c.args 0],C7++[-1],F7++[-1],I8,?_,?_,hS8,by omega,by omega⟩,by omega⟩
      · rw [kidS_succ j0 hjl];exact hL8
      · rw [take_nth j0 hjl,show σ.vars.length+(j+1).toNat=σ.vars.length+j.toNat+1 from by omega]
        exact hk7.field hw.arOk (by simp;omega) ha0.1 ha0.2
    · simp only [bls] at hc
      have hje:j.toNat=(conF ds (nth (consL ds c.num) i)).length:=by omega
      rw [hje,List.take_length] at hL7 hk7
      refine go_ix hkx i0 i1 ?_
      refine ⟨g1,_,⟨cell_sub hS7.sub d1,cell_sub hS7.sub d2⟩,?_⟩
      have eF:kidF ds c.op (nth (consL ds c.num) i)=conF ds (nth (consL ds c.num) i):=by unfold kidF;rw [if_pos ho]
      have eA:kidA ds arms c.op (nth c.args 0) σ.vars.length (nth (consL ds c.num) i)=arms++[⟨nth c.args 0,σ.vars.length,nth (consL ds c.num) i,conF ds (nth (consL ds c.num) i)⟩]:=by unfold kidA;rw [if_pos ho]
      have hvl:(kidS σ (conF ds (nth (consL ds c.num) i))).vars.length=σ.vars.length+(conF ds (nth (consL ds c.num) i)).length:=by unfold kidS;simp
      have:=fin w7 a2 J7 P7 C7 F7 _ _ eA.symm (by rw [eF]) hL7 (by rw [hvl];exact hk7) hS7.to
      rw [eA,eF]
      rw [x1n] at this
      exact this
end
section
variable {u w:World} {a:Addr} {arms:List ArmK} {lent P C F vars:List Int} {σ σ1:BalS} {I R:Items} {r t m i op num into:Int} {xx yy ax kx:Sl} {B n:Nat} {ds:List DeclD} {rs:List RoutD} {ss:List SigD} {args:List Int} {k:StepD} {c:StepD} {p:List Int×List Int}
theorem LstP.move {a7:Addr} {I7:Items} {vs P7 C7 F7:List Int} (hL:LstP a lent σ P C F I) (hL7:LstP a7 lent ⟨vs,p.1,p.2⟩ P7 C7 F7 I7) (hS:St u w (I++(I7++R))):
    ∃ y2:Sl,w.cell? (a7.add 1)=some y2.val∧∀ {K:World→Prop},(∀ w2:World,(∃ y6:Sl,w2.cell? (a7.add 5)=some y6.val∧∀ {Q2:World→Prop},(∀ w3 I',LstP a lent ⟨σ.vars,p.1,p.2⟩ P C F I'→St u w3 (I'++R)→Q2 w3)→StoreAt w2 a 5 [y6.val] Q2)→K w2)→StoreAt w a 1 [y2.val] K:=by
  obtain ⟨x1,x2,x3,x4,x5,x6,x7,I0,J1,J2,J3,J4,J5,J6,J7,hC,o1,o2,o3,o4,o5,o6,o7,rfl⟩:=hL
  obtain ⟨y1,y2,y3,y4,y5,y6,y7,I10,K1,K2,K3,K4,K5,K6,K7,hC7,q1,q2,q3,q4,q5,q6,q7,rfl⟩:=hL7
  replace hS:St u w (I0++(J1++(J2++(J3++(J4++(J5++(J6++(J7++(I10++(K1++(K2++(K3++(K4++(K5++(K6++(K7++R)))))))))))))))):=by simpa [List.append_assoc] using hS
  refine ⟨y2,hC7.load hS rfl,fun {K} kk=>?_⟩
  refine hC.store hS (by simp) ?_
  intro w2 I1 hC hS
  simp [putR] at hC
  refine kk w2 ⟨y6,hC7.load hS rfl,fun {Q2} k2=>?_⟩
  refine hC.store hS (by simp) ?_
  intro w3 I2 hC hS
  simp [putR] at hC
  refine k2 w3 (I2++(J1++(K2++(J3++(J4++(J5++(K6++J7))))))) ⟨x1,y2,x3,x4,x5,y6,x7,I2,J1,K2,J3,J4,J5,K6,J7,hC,o1,q2,o3,o4,o5,q6,o7,rfl⟩ ?_
  have h:St u w3 (I2++(J1++(K2++(J3++(J4++(J5++(K6++(J7++R)))))))):=hS.to
  simpa [List.append_assoc] using h
theorem c_ledChoose (h:Nrm u xx yy ds rs) (hL:LstP a lent σ P C F I) (hS:St u w (I++R)) (hw:WfB ds arms B σ) (hk:Lk arms σ.vars.length P C F) (ha:Read u ax c.args) (hkx:Read u kx c.kids) (hnum:InI c.num)
    (hv:stpT ds (rs.map sgOf) σ.vars c=some t) (ho:c.op=7∨c.op=8) (H:∀ k∈c.kids,BlkS ds rs lent k) (hb:σ.vars.length+3+4 * cntS c≤10000) (hB:B+cntS c≤10000):
    Trip Tryz.prog 121 #[(pt a),.agg #[xx.val,yy.val],.agg #[iV c.op,iV c.num,iV into,ax.val,kx.val]] w (OpL u R a lent P C F (coreB ds (rs.map sgOf) lent arms σ c)):=by
  classical
  refine of121 _ _ _ _ _ _ _ _ _ _ ?_
  unfold vc121
  obtain ⟨hl,hk1,h7,h8,hkv⟩:=stp_choice hv ho
  obtain ⟨hin,_⟩:=stp_args hv
  have ha0:=argsIn_nth hin (i:=0) (by omega) (by omega)
  have hkn:=hkx.n
  have hkl:=hkx.le
  have hcore:coreB ds (rs.map sgOf) lent arms σ c=if c.op=8∧¬ AlB arms lent σ.own (nth c.args 0) then none else (joinB (kdsB ds (rs.map sgOf) lent arms σ c.op (nth c.args 0) (consL ds c.num) c.kids)).map fun p=>⟨σ.vars,p.1,p.2⟩:=by
    unfold coreB
    rw [if_neg (by omega),if_neg (by omega),if_neg (by omega),if_pos ho]
  have hR:=hL.rd hS
  refine ⟨fun _=>ha.ix (by omega) (by omega),nth c.args 0,fun _=>((ha.mono hS.sub).int (by omega) (by omega)).1,_,fun _=>c_ledAlive hR hw hk ha0.1 ha0.2,fun hq=>?_,fun hq=>?_⟩
  · simp only [bls] at hq
    have hn:¬ AlB arms lent σ.own (nth c.args 0):=fun hh=>by rw [pB_t hh] at hq;exact absurd hq.2 (by simp)
    rw [hcore,if_pos ⟨hq.1,hn⟩]
    exact ⟨rfl,hS.sub⟩
  simp only [bls] at hq
  have hna:¬ (c.op=8∧¬ AlB arms lent σ.own (nth c.args 0)):=by
    rintro ⟨h1,h2⟩
    rcases hq with hq|hq
    · exact hq h1
    · exact h2 (pB_iff.1 hq)
  rw [hcore,if_neg hna]
  refine (c_ledKid h hL hS hw hk ha hkx hnum hv ho (i:=0) (by omega) (by omega) H hb hB).mono' ?_
  rintro _ w2 ⟨a7,q,rfl,hE⟩
  have bad:∀ (j:Int) (w:World),0≤j→j < c.kids.length→Sub u w→(∀ p,bkB ds (rs.map sgOf) lent (kidA ds arms c.op (nth c.args 0) σ.vars.length (nth (consL ds c.num) 0)) (kidS σ (kidF ds c.op (nth (consL ds c.num) 0))) σ.vars.length (nth c.kids 0)=some p→bkB ds (rs.map sgOf) lent (kidA ds arms c.op (nth c.args 0) σ.vars.length (nth (consL ds c.num) j)) (kidS σ (kidF ds c.op (nth (consL ds c.num) j))) σ.vars.length (nth c.kids j)≠some p)→
      OpL u R a lent P C F ((joinB (kdsB ds (rs.map sgOf) lent arms σ c.op (nth c.args 0) (consL ds c.num) c.kids)).map fun p=>⟨σ.vars,p.1,p.2⟩) (.bool false) w:=by
    intro j w j0 j1 hs hne
    rw [joinB_none fun p hp=>hne p (kidsB_some hp (by omega) (by omega)) (kidsB_some hp j0 j1)]
    exact ⟨rfl,hs⟩
  cases hbk:bkB ds (rs.map sgOf) lent (kidA ds arms c.op (nth c.args 0) σ.vars.length (nth (consL ds c.num) 0)) (kidS σ (kidF ds c.op (nth (consL ds c.num) 0))) σ.vars.length (nth c.kids 0) with
  | none=>
    rw [hbk] at hE
    obtain ⟨hq,hs⟩:=hE
    cases hq
    refine ⟨a7,false,rfl,fun _=>bad 0 w2 (by omega) (by omega) hs (fun p hp=>by rw [hbk] at hp;cases hp),fun hh=>(by cases hh)⟩
  | some p=>
    rw [hbk] at hE
    obtain ⟨hq,I7,vs,P7,C7,F7,hL7,v7,p7,c7,f7,hS2⟩:=hE
    cases hq
    refine ⟨a7,true,rfl,fun hh=>(by cases hh),fun _=>?_⟩
    refine ⟨fun i w=>St u w (I++(I7++R))∧1≤i∧i≤c.kids.length∧∀ j:Int,0≤j→j < i→bkB ds (rs.map sgOf) lent (kidA ds arms c.op (nth c.args 0) σ.vars.length (nth (consL ds c.num) j)) (kidS σ (kidF ds c.op (nth (consL ds c.num) j))) σ.vars.length (nth c.kids j)=some p,fun i _=>(c.kids.length - i).toNat,
      ⟨hS2.perm (by
        classical
        exact List.perm_iff_count.2 fun a=>by simp only [List.count_append];omega),by omega,by omega,fun j j0 j1=>by rw [show j=0 from by omega];exact hbk⟩,?_⟩
    clear hS hS2 hR
    rintro i w3 ⟨hS,i0,i1,hj⟩
    dsimp only
    refine ⟨fun hc=>?_,fun hc=>?_⟩
    · simp only [bls] at hc
      have hil:i < c.kids.length:=by omega
      refine (c_ledKid h hL hS hw hk ha hkx hnum hv ho (i:=i) (by omega) hil H hb hB).mono' ?_
      rintro _ w4 ⟨a8,q,rfl,hE⟩
      cases hbi:bkB ds (rs.map sgOf) lent (kidA ds arms c.op (nth c.args 0) σ.vars.length (nth (consL ds c.num) i)) (kidS σ (kidF ds c.op (nth (consL ds c.num) i))) σ.vars.length (nth c.kids i) with
      | none=>
        rw [hbi] at hE
        obtain ⟨hq,hs⟩:=hE
        cases hq
        have hz:∀ C:Prop,((!false)=false→C):=fun C hh=>by cases hh
        refine ⟨a8,false,rfl,Sl.mk none 0 0,hz _,Sl.mk none 0 0,hz _,false,hz _,Sl.mk none 0 0,fun hh=>(by simp at hh),Sl.mk none 0 0,fun hh=>(by simp at hh),false,fun hh=>(by simp at hh),fun _=>?_,fun hh=>(by simp at hh)⟩
        exact bad i w4 (by omega) hil hs fun p' hp'=>by rw [hbi];exact fun hh=>by cases hh
      | some p8=>
        rw [hbi] at hE
        obtain ⟨hq,I8,vs8,P8,C8,F8,hL8,_,_,_,_,hS4⟩:=hE
        cases hq
        have hR7:=hL7.rd (hS4.to:St u w4 (I7++[]))
        have hR8:=hL8.rd (hS4.to:St u w4 (I8++[]))
        obtain ⟨x2,e2,r2⟩:=hR7.k2
        obtain ⟨x6,e6,r6⟩:=hR7.k6
        obtain ⟨y2,f2,q2⟩:=hR8.k2
        obtain ⟨y6,f6,q6⟩:=hR8.k6
        refine ⟨a8,true,rfl,x2,fun _=>e2,y2,fun _=>f2,_,fun _=>c_sameInts r2 q2,x6,fun _=>e6,y6,fun _=>f6,_,fun _=>c_sameInts r6 q6,fun hq=>?_,fun hq=>?_⟩
        · refine bad i w4 (by omega) hil hS4.sub fun p' hp' hp2=>?_
          rw [hbk] at hp'
          cases hp'
          rw [hbi] at hp2
          cases hp2
          simp at hq
        · simp at hq
          have hpe:p8=p:=by
            cases p8;cases p
            simp only [Prod.mk.injEq]
            exact ⟨hq.1.symm,hq.2.symm⟩
          subst hpe
          refine go_wr (by omega) (by omega) ?_
          refine ⟨rfl,rfl,rfl,rfl,rfl,rfl,rfl,⟨hS4.to,by omega,by omega,fun j j0 j1=>?_⟩,by omega⟩
          by_cases e:j=i
          · subst e;exact hbi
          · exact hj j j0 (by omega)
    · simp only [bls] at hc
      rw [kidsB_all (p:=p) (by intro hn;rw [hn] at hk1;simp at hk1) fun j j0 j1=>hj j j0 (by omega)]
      obtain ⟨y2,f2,st⟩:=LstP.move hL hL7 hS
      refine ⟨y2,f2,st fun w4 ⟨y6,f6,st6⟩=>⟨y6,f6,st6 fun w5 I5 hL5 hS5=>⟨rfl,I5,hL5,hS5⟩⟩⟩
theorem app_left {l m:List Int} {t:Int} (h:l++[t]=m++[t]):l=m:=List.append_cancel_right h
theorem core_wf (hsg:sigSigs ds ss) (hw:WfB ds arms B σ) (hv:stpT ds ss σ.vars c=some t) (hc:coreB ds ss lent arms σ c=some σ1):σ1.vars=σ.vars∧σ1.own.length=σ.vars.length∧σ1.tok.length=σ.vars.length:=by
  have hst:stB ds ss lent arms σ c=some (if isCnt c.op then σ1 else growB σ1 (gD (stpT ds ss σ.vars c)) (oneOf (gD (stpT ds ss σ.vars c)))):=by rw [stB_core,hc]
  obtain ⟨w1,e1⟩:=wf_st hsg hw hv hst
  by_cases hcn:isCnt c.op
  · rw [if_pos hcn] at w1 e1
    rw [if_pos hcn] at e1
    exact ⟨e1,by rw [w1.l1,e1],by rw [w1.l2,e1]⟩
  · rw [if_neg hcn] at w1 e1
    rw [if_neg hcn] at e1
    have hg:gD (stpT ds ss σ.vars c)=t:=by rw [hv];rfl
    rw [hg] at w1 e1
    have e2:σ1.vars=σ.vars:=app_left e1
    have g1:=w1.l1
    have g2:=w1.l2
    unfold growB at g1 g2
    simp only [List.length_append,List.length_singleton] at g1 g2
    exact ⟨e2,by rw [←e2];omega,by rw [←e2];omega⟩
def OpS (u:World) (R:Items) (a:Addr) (arms:List ArmK) (lent:List Int):Option BalS→Value→World→Prop
  | none,r,w=>r=.bool false∧Sub u w
  | some σ,r,w=>r=.bool true∧∃ I P C F,LstP a lent σ P C F I∧Lk arms σ.vars.length P C F∧St u w (I++R)
theorem c_ledStep (h:Nrm u xx yy ds rs) (hL:LstP a lent σ P C F I) (hS:St u w (I++R)) (hw:WfB ds arms B σ) (hk:Lk arms σ.vars.length P C F) (ha:Read u ax c.args) (hkx:Read u kx c.kids) (hnum:InI c.num) (hinto:InI c.into)
    (hv:stpT ds (rs.map sgOf) σ.vars c=some t) (H:∀ k∈c.kids,BlkS ds rs lent k) (hb:σ.vars.length+3+4 * cntS c≤10000) (hB:B+cntS c≤10000):
    Trip Tryz.prog 90 #[(pt a),.agg #[xx.val,yy.val],.agg #[iV c.op,iV c.num,iV c.into,ax.val,kx.val]] w (OpS u R a arms lent (stB ds (rs.map sgOf) lent arms σ c)):=by
  classical
  refine of90j _ _ _ _ _ _ _ _ _ _ ?_
  unfold vc90j
  obtain ⟨hin,hto⟩:=stp_args hv
  have htn:=stpT_nn h.sg hw.vn hv
  have hon:=oneOf_le t
  have hR:=hL.rd hS
  have hl1:=hw.l1
  obtain ⟨x1,e1,r1⟩:=hR.k1
  refine ⟨x1,e1,_,c_stepTypeS (h.mono hS.sub) r1 hw.vn (ha.mono hS.sub) (hkx.mono hS.sub) hnum hinto (fun k _=>c_blockTypeS k) hb,?_⟩
  have hgd:gD (stpT ds (rs.map sgOf) σ.vars c)=t:=by rw [hv];rfl
  rw [hgd]
  refine ⟨fun q w'=>OpL u R a lent P C F (coreB ds (rs.map sgOf) lent arms σ c) (.bool q) w',?_,?_⟩
  · have toJ:∀ {f:FuncId} {av:Array Value},Trip Tryz.prog f av w (OpL u R a lent P C F (coreB ds (rs.map sgOf) lent arms σ c))→Trip Tryz.prog f av w fun r w'=>∃ q:Bool,r=.bool q∧OpL u R a lent P C F (coreB ds (rs.map sgOf) lent arms σ c) (.bool q) w':=by
      intro f av hT
      refine hT.mono' fun r w' hr=>?_
      cases hcb:coreB ds (rs.map sgOf) lent arms σ c with
      | none=>rw [hcb] at hr;obtain ⟨rfl,hs⟩:=hr;exact ⟨false,rfl,rfl,hs⟩
      | some σ1=>rw [hcb] at hr;obtain ⟨rfl,hs⟩:=hr;exact ⟨true,rfl,rfl,hs⟩
    by_cases o14:c.op=14
    · obtain ⟨hl,hne⟩:=stp_count hv (by unfold isCnt;omega)
      have ha0:=argsIn_nth hin (i:=0) (by omega) (by omega)
      have hcore:coreB ds (rs.map sgOf) lent arms σ c=if AlB arms lent σ.own (nth c.args 0) then some (incB σ (nth c.args 0)) else none:=by unfold coreB;rw [if_pos o14]
      repeat (first|refine ⟨fun h=>absurd (of_decide_eq_true h) (by omega),fun _=>?_⟩|refine ⟨fun _=>?_,fun h=>absurd (of_decide_eq_false h) (by omega)⟩)
      obtain ⟨x2,e2,r2,st⟩:=hL.so2 hS
      have hbd:=nth_memD (B:=(B:Int)) hw.ow (by omega) (nth c.args 0)
      refine go_ix ha (by omega) (by omega) ?_
      refine ld_int (ha.mono hS.sub) (by omega) (by omega) ?_
      intro _ _
      refine ⟨_,c_ledAlive hR hw hk ha0.1 ha0.2,x2,e2,?_⟩
      refine go_ix ha (by omega) (by omega) ?_
      refine ld_int (ha.mono hS.sub) (by omega) (by omega) ?_
      intro _ _
      refine ⟨x2,e2,?_⟩
      refine go_ix ha (by omega) (by omega) ?_
      refine ld_int (ha.mono hS.sub) (by omega) (by omega) ?_
      intro _ _
      refine go_ix r2 ha0.1 (by omega) ?_
      refine ld_int r2 ha0.1 (by omega) ?_
      intro _ _
      refine go_wr (by omega) (by omega) ?_
      refine go_ix r2 ha0.1 (by omega) ?_
      refine st ha0.1 (by omega) ⟨by omega,by omega⟩ ?_
      intro w2 I2 hL2 hS2
      refine ⟨rfl,rfl,rfl,rfl,rfl,rfl,rfl,?_⟩
      rw [hcore]
      split
      · rename_i hal
        rw [pB_t hal]
        exact ⟨rfl,I2,hL2,hS2⟩
      · rename_i hal
        rw [pB_f hal]
        exact ⟨rfl,hS2.sub⟩
    by_cases o15:c.op=15
    · obtain ⟨hl,hne⟩:=stp_count hv (by unfold isCnt;omega)
      have ha0:=argsIn_nth hin (i:=0) (by omega) (by omega)
      have hcore:coreB ds (rs.map sgOf) lent arms σ c=takeB σ (nth c.args 0):=by unfold coreB;rw [if_neg o14,if_pos o15]
      repeat (first|refine ⟨fun h=>absurd (of_decide_eq_true h) (by omega),fun _=>?_⟩|refine ⟨fun _=>?_,fun h=>absurd (of_decide_eq_false h) (by omega)⟩)
      refine go_ix ha (by omega) (by omega) ?_
      refine ld_int (ha.mono hS.sub) (by omega) (by omega) ?_
      intro _ _
      refine (c_ledTake hL hS ha0.1 (by omega)).mono' ?_
      intro r2 w2 hT
      rw [hcore]
      cases htk:takeB σ (nth c.args 0) with
      | none=>rw [htk] at hT;obtain ⟨rfl,rfl⟩:=hT;exact ⟨false,rfl,rfl,rfl,rfl,rfl,rfl,rfl,rfl,rfl,hS.sub⟩
      | some σ2=>rw [htk] at hT;obtain ⟨rfl,hT⟩:=hT;exact ⟨true,rfl,rfl,rfl,rfl,rfl,rfl,rfl,rfl,rfl,hT⟩
    by_cases o16:c.op=16∨c.op=17
    · obtain ⟨hl,hne⟩:=stp_count hv (by unfold isCnt;omega)
      have ha0:=argsIn_nth hin (i:=0) (by omega) (by omega)
      have hcore:coreB ds (rs.map sgOf) lent arms σ c=openB arms σ c.op (nth c.args 0):=by unfold coreB;rw [if_neg o14,if_neg o15,if_pos o16]
      have hO:=toJ (by rw [hcore];exact c_ledOpen (op:=c.op) (num:=c.num) (into:=c.into) (yy:=yy) (kx:=kx) h.hx h.sg.1 hL hS hw hk (by omega) (by omega) ha ha0.1 ha0.2 (by omega))
      rcases o16 with o16|o16
      all_goals
        repeat (first|refine ⟨fun h=>absurd (of_decide_eq_true h) (by omega),fun _=>?_⟩|refine ⟨fun _=>?_,fun h=>absurd (of_decide_eq_false h) (by omega)⟩)
        refine hO.mono' ?_
        rintro _ w2 ⟨q,rfl,hq⟩
        exact ⟨q,rfl,rfl,rfl,rfl,rfl,rfl,rfl,rfl,hq⟩
    by_cases o7:c.op=7∨c.op=8
    · have hO:=toJ (c_ledChoose (into:=c.into) h hL hS hw hk ha hkx hnum hv o7 H hb hB)
      rcases o7 with o7|o7
      all_goals
        repeat (first|refine ⟨fun h=>absurd (of_decide_eq_true h) (by omega),fun _=>?_⟩|refine ⟨fun _=>?_,fun h=>absurd (of_decide_eq_false h) (by omega)⟩)
        refine hO.mono' ?_
        rintro _ w2 ⟨q,rfl,hq⟩
        exact ⟨q,rfl,rfl,rfl,rfl,rfl,rfl,rfl,rfl,hq⟩
    · have hcore:coreB ds (rs.map sgOf) lent arms σ c=handB (rs.map sgOf) lent arms c.op c.num c.into c.args σ:=by unfold coreB;rw [if_neg o14,if_neg o15,if_neg o16,if_neg o7]
      have hnm:c.op=9→0≤c.num∧c.num < rs.length:=fun o9=>by
        refine Classical.byContradiction fun hn=>?_
        have hcn:¬ isCnt c.op:=by unfold isCnt;omega
        by_cases hk0:c.kids.length=0
        · rw [(stp_simple hto (by omega) (by omega) hcn hk0).1 hin,simB_9n (.inl o9) (by rw [List.length_map];exact hn)] at hv
          cases hv
        · rw [stp_kids hk0 (by omega) (by omega)] at hv
          cases hv
      have hO:=toJ (by rw [hcore];exact c_ledHand (kx:=kx) h hL hS hw hk (by omega) (by omega) ha hin hto hnm hinto)
      repeat (first|refine ⟨fun h=>absurd (of_decide_eq_true h) (by omega),fun _=>?_⟩|refine ⟨fun _=>?_,fun h=>absurd (of_decide_eq_false h) (by omega)⟩)
      refine hO.mono' ?_
      rintro _ w2 ⟨q,rfl,hq⟩
      exact ⟨q,rfl,rfl,rfl,rfl,rfl,rfl,rfl,rfl,hq⟩
  · intro q w2 hq
    rw [stB_core]
    cases hcb:coreB ds (rs.map sgOf) lent arms σ c with
    | none=>
      rw [hcb] at hq
      obtain ⟨hq,hs⟩:=hq
      cases hq
      exact ⟨fun _=>⟨rfl,hs⟩,fun hh=>(by cases hh)⟩
    | some σ1=>
      rw [hcb] at hq
      obtain ⟨hq,I2,hL2,hS2⟩:=hq
      cases hq
      refine ⟨fun hh=>(by cases hh),fun _=>?_⟩
      dsimp only
      obtain ⟨ev,eo,et⟩:=core_wf h.sg hw hv hcb
      have hop:=stp_op hv
      have hlen:σ1.vars.length≤1000000∧σ1.own.length≤1000000∧P.length≤1000000∧C.length≤1000000∧F.length≤1000000∧σ1.tok.length≤1000000:=by
        have:=hk.l1;have:=hk.l2;have:=hk.l3
        rw [ev]
        omega
      have gr:∀ t' o':Int,0≤t'→t'≤4→0≤o'→o'≤1→¬ isCnt c.op→t'=t→o'=oneOf t→Trip Tryz.prog 118 #[(pt a),iV t',iV o',iV (-1)] w2 fun r w'=>r=.tuple #[]∧OpS u R a arms lent (some (if isCnt c.op then σ1 else growB σ1 (gD (stpT ds (rs.map sgOf) σ.vars c)) (oneOf (gD (stpT ds (rs.map sgOf) σ.vars c))))) (.bool true) w':=by
        rintro t' o' t0 t1 o0 o1 hcn rfl rfl
        refine (c_ledGrowP hL2 hS2 hlen ⟨by omega,by omega⟩ ⟨by omega,by omega⟩ ⟨by omega,by omega⟩).mono' ?_
        rintro r w' ⟨rfl,I3,hL3,hS3⟩
        refine ⟨rfl,rfl,I3,P++[-1],C++[-1],F++[-1],?_,?_,hS3⟩
        · rw [if_neg hcn,hgd];exact hL3
        · rw [if_neg hcn]
          have:(growB σ1 (gD (stpT ds (rs.map sgOf) σ.vars c)) (oneOf (gD (stpT ds (rs.map sgOf) σ.vars c)))).vars.length=σ.vars.length+1:=by unfold growB;rw [ev];simp
          rw [this]
          exact hk.grow hw.arOk
      refine ⟨_,c_defines,fun hq=>?_,fun hq=>?_⟩
      · simp only [bls] at hq
        exact gr t 1 htn.1 htn.2 (by omega) (by omega) (by unfold isCnt;omega) rfl (by unfold oneOf;rw [if_pos hq.2])
      · simp only [bls] at hq
        refine ⟨_,c_defines,fun hq2=>?_,fun hq2=>?_⟩
        · simp only [bls] at hq2
          have ht0:t=0:=by
            rcases hq with hq|hq
            · omega
            · exact hq
          exact gr 0 0 (by omega) (by omega) (by omega) (by omega) (by unfold isCnt;omega) ht0.symm (by unfold oneOf;rw [if_neg (by omega)])
        · simp only [bls] at hq2
          have hcn:isCnt c.op:=by
            rcases hop with h1|h1
            · omega
            · exact h1
          refine ⟨rfl,I2,P,C,F,?_,?_,hS2⟩
          · rw [if_pos hcn];exact hL2
          · rw [if_pos hcn,ev];exact hk
end
def LInv (u:World) (R:Items) (a:Addr) (ds:List DeclD) (rs:List RoutD) (lent:List Int) (arms:List ArmK) (σ0:BalS) (l:List StepD) (i:Int) (w:World):Prop:=
  ∃ (σ:BalS) (P C F:List Int) (I:Items) (B:Nat),LstP a lent σ P C F I∧Lk arms σ.vars.length P C F∧WfB ds arms B σ∧St u w (I++R)∧0≤i∧i≤l.length∧
    stsB ds (rs.map sgOf) lent arms σ0 l=stsB ds (rs.map sgOf) lent arms σ (l.drop i.toNat)∧stpsT ds (rs.map sgOf) σ0.vars l=stpsT ds (rs.map sgOf) σ.vars (l.drop i.toNat)∧
    σ.vars.length+4 * cntL (l.drop i.toNat)≤10000∧B+cntL (l.drop i.toNat)≤10000∧σ0.vars.length≤σ.vars.length
noncomputable def afterS (ds:List DeclD) (rs:List RoutD) (f k:Int):Option BalS:=
  bif pB (nrmOk ds rs∧(0≤f∧f≤(rs.length:Int) - 1)∧(0≤k∧k≤(nth rs f).body.steps.length)) then stsB ds (rs.map sgOf) (nth rs f).lent [] (startB (nth rs f).params (nth rs f).lent) ((nth rs f).body.steps.take k.toNat) else none
section
variable {u w v:World} {a:Addr} {arms:List ArmK} {lent P C F vars:List Int} {σ σ0:BalS} {I R:Items} {r t m i op num into:Int} {xx yy x y ax kx xs:Sl} {B n:Nat} {ds:List DeclD} {rs:List RoutD} {args:List Int} {k:StepD} {b:BlockD} {l:List StepD}
theorem LInv.start (hL:LstP a lent σ P C F I) (hk:Lk arms σ.vars.length P C F) (hw:WfB ds arms B σ) (hS:St u w (I++R)) (hb:σ.vars.length+4 * cntL l≤10000) (hB:B+cntL l≤10000):LInv u R a ds rs lent arms σ l 0 w:=
  ⟨σ,P,C,F,I,B,hL,hk,hw,hS,by omega,by omega,rfl,rfl,hb,hB,Nat.le_refl _⟩
theorem c_ledRun (h:Nrm u xx yy ds rs) (hI:LInv u R a ds rs lent arms σ0 l i w) (hil:i < l.length) (ht:stpsT ds (rs.map sgOf) σ0.vars l≠none) (ha:Read u ax (nth l i).args) (hkx:Read u kx (nth l i).kids) (hnum:InI (nth l i).num) (hinto:InI (nth l i).into)
    (H:∀ k∈(nth l i).kids,BlkS ds rs lent k):
    Trip Tryz.prog 90 #[(pt a),.agg #[xx.val,yy.val],.agg #[iV (nth l i).op,iV (nth l i).num,iV (nth l i).into,ax.val,kx.val]] w fun r w'=>∃ q:Bool,r=.bool q∧
      (q=false→stsB ds (rs.map sgOf) lent arms σ0 l=none∧Sub u w')∧(q=true→LInv u R a ds rs lent arms σ0 l (i+1) w'):=by
  obtain ⟨σ,P,C,F,I,B,hL,hk,hw,hS,i0,i1,e1,e2,hb,hB,hle⟩:=hI
  rw [drop_cons i0 hil] at e1 e2 hb hB
  rw [stpsT_cons] at e2
  rw [stsB_cons] at e1
  rw [cntL_cons] at hb hB
  cases hv:stpT ds (rs.map sgOf) σ.vars (nth l i) with
  | none=>rw [hv] at e2;exact absurd e2 ht
  | some t=>
    rw [hv] at e2
    dsimp only at e2
    refine (c_ledStep h hL hS hw hk ha hkx hnum hinto hv H (by omega) (by omega)).mono' ?_
    intro r w2 hO
    cases hst:stB ds (rs.map sgOf) lent arms σ (nth l i) with
    | none=>
      rw [hst] at hO e1
      obtain ⟨rfl,hs⟩:=hO
      exact ⟨false,rfl,fun _=>⟨e1,hs⟩,fun hh=>(by cases hh)⟩
    | some σ2=>
      rw [hst] at hO e1
      obtain ⟨rfl,I2,P2,C2,F2,hL2,hk2,hS2⟩:=hO
      obtain ⟨w2',ev⟩:=wf_st h.sg hw hv hst
      rw [←ev] at e2
      have hlen:σ2.vars.length≤σ.vars.length+1∧σ.vars.length≤σ2.vars.length:=by rw [ev];split<;>simp
      exact ⟨true,rfl,fun hh=>(by cases hh),fun _=>⟨σ2,P2,C2,F2,I2,_,hL2,hk2,w2',hS2,by omega,by omega,e1,e2,by omega,by omega,by omega⟩⟩
theorem LInv.fin (hI:LInv u R a ds rs lent arms σ0 l i w) (hi:¬ i < l.length):∃ (σ:BalS) (P C F:List Int) (I:Items) (B:Nat),LstP a lent σ P C F I∧Lk arms σ.vars.length P C F∧WfB ds arms B σ∧St u w (I++R)∧
    stsB ds (rs.map sgOf) lent arms σ0 l=some σ∧stpsT ds (rs.map sgOf) σ0.vars l=some σ.vars∧σ.vars.length≤10000∧σ0.vars.length≤σ.vars.length:=by
  obtain ⟨σ,P,C,F,I,B,hL,hk,hw,hS,i0,i1,e1,e2,hb,hB,hle⟩:=hI
  rw [drop_end (by omega)] at e1 e2
  rw [stsB_nil] at e1
  rw [stpsT_nil] at e2
  exact ⟨σ,P,C,F,I,B,hL,hk,hw,hS,e1,e2,by omega,hle⟩
theorem c_ledBlock (b:BlockD):BlkS ds rs lent b:=by
  classical
  refine blk_ind (P:=BlkS ds rs lent) (fun b ih=>?_) b
  intro u w a x y xs arms σ0 P C F I R m B t h hxs hres hL hk hw hS hv hm hb hB
  refine of173 _ _ _ _ _ _ _ _ ?_
  unfold vc173
  have hxn:=hxs.n
  have hxl:=hxs.le
  rw [cntB_eq] at hb hB
  rw [blkT_eq] at hv
  rw [bkB_eq]
  have ht:stpsT ds (rs.map sgOf) σ0.vars b.steps≠none:=fun hh=>by rw [hh] at hv;cases hv
  refine ⟨fun i w=>LInv u R a ds rs lent arms σ0 b.steps i w,fun i _=>(b.steps.length - i).toNat,LInv.start hL hk hw hS hb hB,?_⟩
  clear hL hk hS
  rintro i w hI
  dsimp only
  have hi:0≤i∧i≤b.steps.length:=by obtain ⟨_,_,_,_,_,_,_,_,_,_,h1,h2,_⟩:=hI;exact ⟨h1,h2⟩
  have hsub:Sub u w:=by obtain ⟨_,_,_,_,_,_,_,_,_,h1,_⟩:=hI;exact h1.sub
  refine ⟨fun hc=>?_,fun hc=>?_⟩
  · simp only [bls] at hc
    have hil:i < b.steps.length:=by omega
    obtain ⟨f1,f2,e1,e2,e3,e4,e5,j1,j2,j3,r1,r2⟩:=(hxs.src hsub).ofStepD hi.1 hil
    refine go_ix hxs hi.1 hil ?_
    refine ⟨_,_,_,f1,f2,⟨e1,e2,e3,e4,e5⟩,?_⟩
    refine (c_ledRun h hI hil ht r1 r2 j2 j3 (ih _ (nth_mem hi.1 hil))).mono' ?_
    rintro _ w2 ⟨q,rfl,hF,hT⟩
    refine ⟨q,rfl,fun hq=>?_,fun hq=>?_⟩
    · obtain ⟨g1,g2⟩:=hF (by simpa using hq)
      rw [g1]
      exact ⟨rfl,g2⟩
    · refine go_wr (by omega) (by omega) ?_
      exact ⟨rfl,rfl,rfl,rfl,hT (by simpa using hq),by omega⟩
  · simp only [bls] at hc
    obtain ⟨σ,P,C,F,I,B',hL,hk,hw',hS,e1,e2,hl,hle⟩:=hI.fin (by omega)
    rw [e2] at hv
    rw [e1]
    dsimp only at hv ⊢
    split at hv
    · rename_i hr
      have hR:=hL.rd hS
      obtain ⟨x1,d1,r1⟩:=hR.k1
      have fin:∀ (σ2:BalS) (I2:Items) (w2:World),σ2.vars=σ.vars→WfB ds arms B' σ2→LstP a lent σ2 P C F I2→St u w2 (I2++R)→
          Trip Tryz.prog 177 #[(pt a),iV m] w2 fun r w'=>∃ q:Bool,r=.bool q∧
            OpE u R a lent m (if ∀ v:Int,m≤v→v < σ2.vars.length→nth σ2.own v=0∧nth σ2.tok v < 0 then some (σ2.own.take m,σ2.tok.take m) else none) (.bool q) w':=by
        intro σ2 I2 w2 ev hw2 hL2 hS2
        have l1:=hk.l1;have l2:=hk.l2;have l3:=hk.l3
        refine (c_ledCut (m:=(m:Int)) hL2 hS2 hw2.l1 hw2.l2 (by rw [ev];exact ⟨l1,l2,l3⟩) (by rw [ev];omega) (by omega) (by rw [ev];omega)).mono' ?_
        rintro r w3 ⟨hA,hN⟩
        by_cases hc:∀ v:Int,m≤v→v < σ2.vars.length→nth σ2.own v=0∧nth σ2.tok v < 0
        · obtain ⟨rfl,I3,hL3,hS3⟩:=hA hc
          rw [if_pos hc]
          rw [show ((m:Int)).toNat=m from by omega] at hL3
          refine ⟨true,rfl,rfl,I3,_,_,_,_,hL3,?_,?_,?_,?_,hS3⟩
          all_goals (rw [List.length_take];try rw [ev]);omega
        · obtain ⟨rfl,hs⟩:=hN hc
          rw [if_neg hc]
          exact ⟨false,rfl,rfl,hs⟩
      refine ⟨x1,d1,?_⟩
      refine go_ix r1 hr.1 hr.2 ?_
      refine ld_int r1 hr.1 hr.2 ?_
      intro _ _
      unfold endB
      refine ⟨fun hc2=>?_,fun hc2=>?_⟩
      · simp only [bls] at hc2
        rw [if_pos hc2]
        refine (c_ledTake hL hS hr.1 (by rw [hw'.l1];exact hr.2)).mono' ?_
        intro r2 w2 hT
        cases htk:takeB σ b.result with
        | none=>rw [htk] at hT;obtain ⟨rfl,rfl⟩:=hT;exact ⟨false,rfl,fun _=>⟨rfl,hS.sub⟩,fun hh=>(by simp at hh)⟩
        | some σ2=>
          rw [htk] at hT
          obtain ⟨rfl,I2,hL2,hS2⟩:=hT
          obtain ⟨w2',ev,_⟩:=hw'.take htk
          exact ⟨true,rfl,fun hh=>(by simp at hh),fun _=>fin σ2 I2 _ ev w2' hL2 hS2⟩
      · simp only [bls] at hc2
        rw [if_neg (by omega)]
        exact fin σ I w rfl hw' hL hS
    · cases hv
end
section
variable {w v:World} {a:Addr} {lent P C F vars params:List Int} {σ:BalS} {I:Items} {r t i f k:Int} {xx yy ax kx s:Sl} {B n:Nat} {ds:List DeclD} {rs:List RoutD} {ss:List SigD} {b:BlockD} {l:List StepD}
theorem stps_take:∀ (l:List StepD) (n:Nat) (vars:List Int),stpsT ds ss vars l≠none→stpsT ds ss vars (l.take n)≠none
  | [],n,vars,h=>by simpa using h
  | s ::r,0,vars,h=>by rw [List.take_zero,stpsT_nil];exact fun hh=>by cases hh
  | s ::r,n+1,vars,h=>by
    rw [List.take_succ_cons]
    rw [stpsT_cons] at h ⊢
    split at h
    · exact absurd rfl h
    · rename_i t ht
      exact stps_take r n _ h
theorem cntL_take:∀ (l:List StepD) (n:Nat),cntL (l.take n)≤cntL l
  | [],n=>by simp
  | s ::r,0=>by rw [List.take_zero];rw [cntL];omega
  | s ::r,n+1=>by
    rw [List.take_succ_cons,cntL_cons,cntL_cons]
    have:=cntL_take r n
    omega
theorem nth_take {α:Type} [Inhabited α] {l:List α} {i k:Int} (h0:0≤i) (h1:i < k):nth (l.take k.toNat) i=nth l i:=by
  unfold nth List.getD
  rw [List.getElem?_take,if_pos (by omega)]
def AftE (v:World) (a:Addr) (ds:List DeclD) (rs:List RoutD) (lent:List Int):Option BalS→Bool→World→Prop
  | none,q,w=>q=false∧Sub v w
  | some σ,q,w=>q=true∧∃ P C F I B,LstP a lent σ P C F I∧Lk [] σ.vars.length P C F∧WfB ds [] B σ∧St v w (I++[])∧σ.vars.length≤10000
theorem c_ledgerAfter (hx:Read v xx ds) (hy:Read v yy rs):
    Trip Tryz.prog 67 #[.agg #[xx.val,yy.val],iV f,iV k] v fun r w'=>∃ (a:Addr) (q:Bool),r=.tuple #[(pt a),.bool q]∧AftE v a ds rs (nth rs f).lent (afterS ds rs f k) q w':=by
  classical
  refine of67 _ _ _ _ _ _ ?_
  unfold vc67
  have hyn:=hy.n
  have hyl:=hy.le
  have mid:∃ x8:Sl,(nrmOk ds rs∧(0≤f∧f≤(rs.length:Int) - 1)→v.cell? ((elA yy f 5).add 3)=some x8.val∧Read v x8 (nth rs f).body.steps):=by
    by_cases hc:0≤f∧f≤(rs.length:Int) - 1
    · obtain ⟨z1,z2,z3,e1,e2,e3,e4,e5,j1,j2,r1,r2,r3⟩:=(hy.src (.refl v)).ofRoutD hc.1 (show f < rs.length by omega)
      exact ⟨z3,fun _=>⟨e4,r3⟩⟩
    · exact ⟨Sl.mk none 0 0,fun hh=>absurd hh.2 hc⟩
  obtain ⟨x8,h8⟩:=mid
  have g:∀ {C:Bool},((!pB (nrmOk ds rs)) || !C)=false→nrmOk ds rs∧C=true:=fun {C} hq=>by
    simp only [Bool.or_eq_false_iff,Bool.not_eq_false'] at hq
    exact ⟨pB_iff.1 hq.1,hq.2⟩
  have g2:∀ {a b:Int},(decide (0≤a) && decide (a≤b))=true→0≤a∧a≤b:=fun h=>by simpa using h
  refine ⟨_,c_validNormal hx hy,(rs.length:Int) - 1,fun hq=>by rw [hyn];exact inK_i64 (by omega) (by omega),_,fun hq=>c_inRange,fun hq=>?_,x8,fun hq=>?_,_,fun hq=>c_inRange,fun hq=>?_,fun hq=>?_⟩
  · obtain ⟨hn,hf⟩:=g hq
    have:=g2 hf
    exact hy.ix this.1 (by omega)
  · obtain ⟨hn,hf⟩:=g hq
    exact (h8 ⟨hn,g2 hf⟩).1
  · refine St.box (vals:=[.slice none 0 0,.slice none 0 0,.slice none 0 0,.slice none 0 0,.slice none 0 0,.slice none 0 0,.slice none 0 0]) (St.refl v) fun a w2 I0 hC hS hs=>?_
    refine ⟨a,false,rfl,?_⟩
    have:afterS ds rs f k=none:=by
      unfold afterS
      rw [pB_f]
      · rfl
      rintro ⟨hn,hf,hkk⟩
      have hr:=(h8 ⟨hn,hf⟩).2.n
      rw [pB_t hn] at hq
      simp at hq
      omega
    rw [this]
    exact ⟨rfl,hs⟩
  · rw [Bool.or_eq_false_iff] at hq
    obtain ⟨hn,hf⟩:=g hq.1
    have hf:=g2 hf
    obtain ⟨d8,r8⟩:=h8 ⟨hn,hf⟩
    have r8n:=r8.n
    have r8l:=r8.le
    have hkk:0≤k∧k≤(nth rs f).body.steps.length:=by have:=hq.2;simp at this;omega
    have haf:afterS ds rs f k=stsB ds (rs.map sgOf) (nth rs f).lent [] (startB (nth rs f).params (nth rs f).lent) ((nth rs f).body.steps.take k.toNat):=by
      unfold afterS
      rw [pB_t ⟨hn,hf,hkk⟩]
      rfl
    rw [haf]
    have f1:f < rs.length:=by omega
    have h:Nrm v xx yy ds rs:=⟨hx,hy,hn.1⟩
    obtain ⟨g1,g2⟩:=hn.2 f hf.1 f1
    obtain ⟨hnn,hpl⟩:=nrm_bound h.sg hf.1 f1
    obtain ⟨z1,z2,z3,e1,e2,e3,e4,e5,j1,j2,r1,r2,r3⟩:=(h.hy.src (.refl v)).ofRoutD hf.1 f1
    refine go_ix hy hf.1 f1 ?_
    refine ⟨z1,z2,_,z3,_,⟨e1,e2,e3,e4,e5⟩,?_⟩
    refine Mk.use (c_newLedger r1 r2 hnn (by omega)) (.refl v) ?_
    rintro _ w1 J ⟨a,rfl,P,C,F,hL,hk⟩ hS hs
    have hS':St v w1 (J++[]):=by simpa using hS
    refine ⟨a,rfl,?_⟩
    have hlt:(((nth rs f).body.steps.take k.toNat).length:Int)=k:=by rw [List.length_take];omega
    have hct:=cntL_take (nth rs f).body.steps k.toNat
    rw [cntB_eq] at g1
    have hnt:stpsT ds (rs.map sgOf) (startB (nth rs f).params (nth rs f).lent).vars ((nth rs f).body.steps.take k.toNat)≠none:=by
      rw [start_vars]
      refine stps_take _ _ _ fun hh=>?_
      rw [blkT_eq,hh] at g2
      cases g2
    refine ⟨fun i w=>LInv v [] a ds rs (nth rs f).lent [] (startB (nth rs f).params (nth rs f).lent) ((nth rs f).body.steps.take k.toNat) i w,fun i _=>(k - i).toNat,LInv.start hL hk (start_wf hnn) hS' (by rw [start_vars];omega) (by omega),?_⟩
    clear hL hk hS hS' hs
    rintro i w hI
    dsimp only
    have hi:0≤i∧i≤k:=by obtain ⟨_,_,_,_,_,_,_,_,_,_,h1,h2,_⟩:=hI;exact ⟨h1,by omega⟩
    have hsub:Sub v w:=by obtain ⟨_,_,_,_,_,_,_,_,_,h1,_⟩:=hI;exact h1.sub
    refine ⟨fun hc=>?_,fun hc=>?_⟩
    · simp only [bls] at hc
      have hil:i < (nth rs f).body.steps.length:=by omega
      obtain ⟨f1',f2',d1,d2,d3,d4,d5,k1,k2,k3,q1,q2⟩:=(r8.src hsub).ofStepD hi.1 hil
      refine go_ix hy hf.1 f1 ?_
      refine ⟨x8,cell_sub hsub d8,?_⟩
      refine go_ix r8 hi.1 hil ?_
      refine ⟨_,_,_,f1',f2',⟨d1,d2,d3,d4,d5⟩,?_⟩
      have en:=nth_take (l:=(nth rs f).body.steps) hi.1 hc
      have hR:=c_ledRun (ax:=f1') (kx:=f2') h hI (by omega) hnt (by rw [en];exact q1) (by rw [en];exact q2) (by rw [en];exact k2) (by rw [en];exact k3) (fun b _=>c_ledBlock b)
      rw [en] at hR
      refine hR.mono' ?_
      rintro _ w2 ⟨q,rfl,hF,hT⟩
      refine ⟨q,rfl,fun hq=>?_,fun hq=>?_⟩
      · obtain ⟨g1,g2⟩:=hF (by simpa using hq)
        rw [g1]
        exact ⟨a,false,rfl,rfl,g2⟩
      · refine go_wr (by omega) (by omega) ?_
        exact ⟨rfl,rfl,hT (by simpa using hq),by omega⟩
    · simp only [bls] at hc
      obtain ⟨σ,P,C,F,I,B',hL,hk,hw',hS,e1,e2,hl,hle⟩:=hI.fin (by omega)
      rw [e1]
      exact ⟨a,true,rfl,rfl,P,C,F,I,B',hL,hk,hw',hS,hl⟩
end
section
variable {α:Type} [DatO α] [Inhabited α] {u v w:World} {x y z:Sl} {l:List α} {I J K R:Items}
theorem OwnD.pushC {P:Program} {t ty:TypeId} {bytes:Nat} {zc:List Value} [hT:SlT P t (Dat.sz α) bytes zc] {cs:List Value} {a:α} (h:OwnD x l I) (hS:St u w (I++(J++R)))
    (hy:Rows w y (Dat.sz α) [cs]) (ho:DatO.own cs a J) (hb:l.length+1≤1099511627776) (hby:bytes≤128) {Q:Value→World→Prop}
    (k:∀ x' w' I',OwnD x' (l++[a]) I'→St u w' (I'++R)→Q x'.val w'):StepT P (Builtin.append_ #[t,t] ty #[x.val,y.val]) w Q:=
  h.push hS hy ho (DatO.read ho (fun z hz=>hS.at_ z (by simp [hz]))) hb hby fun x' w' I' k1 k2=>k x' w' _ k1 (by rw [List.append_assoc];exact k2)
theorem OwnD.add {P:Program} {t ty:TypeId} {bytes:Nat} {zc:List Value} [hT:SlT P t (Dat.sz α) bytes zc] {val:Value} {a:α} (h:OwnD x l I) (hS:St u w (I++(J++R)))
    (hsz:val.cells.size=Dat.sz α) (ho:DatO.own val.cells.toList a J) (hs2:Dat.sz α≤100) (hb:l.length+1≤1099511627776) (hby:bytes≤128) {Q:Sl→World→Prop}
    (k:∀ x' w' I',OwnD x' (l++[a]) I'→St u w' (I'++R)→Q x' w'):
    StepT P (Instr.buildSlice t 1 #[(0,val)]) w fun r w2=>∃ z:Sl,r=z.val∧StepT P (Builtin.append_ #[t,t] ty #[x.val,z.val]) w2 fun r2 w3=>∃ x':Sl,r2=x'.val∧Q x' w3:=by
  refine St.buildR hS (fun v hv=>?_) rfl (by omega) ?_
  · simp only [List.map_cons,List.map_nil,List.mem_singleton] at hv;rw [hv];exact hsz
  intro x3 w3 I3 hB hS hs _
  refine ⟨_,rfl,?_⟩
  have hy:Rows w3 x3 (Dat.sz α) [val.cells.toList]:=hB.rd hS.items
  have hS2:St u w3 (I++(J++R)):=hS.right
  exact h.pushC hS2 hy ho hb hby fun x' w' I' k1 k2=>⟨x',rfl,k x' w' I' k1 k2⟩
theorem OwnD.ofEmpty (h:Own u x ([]:List α) I):OwnD x ([]:List α) I:=by
  obtain ⟨rows,k1,k2,k3⟩:=h
  have e:rows=[]:=List.eq_nil_of_length_eq_zero (by simpa using k2.1)
  subst e
  exact ⟨[],I,[],[],k1,by simp,by simp,fun i r a K h=>by simp at h,by simp,by simp⟩
end
inductive Br (code:List InstrD):Int→Int→Bool→Prop where
  | jump {a r:Int} {q:Bool}:(nth code a).op=22→a < (nth code a).num→Br code (nth code a).num r q→Br code a r q
  | move {a r:Int} {q:Bool}:(nth code a).op=18→nth (nth code a).args 0=r→Br code (a+1) (nth code a).dst q→Br code a r q
  | stop {a r:Int}:(nth code a).op≠22→¬((nth code a).op=18∧nth (nth code a).args 0=r)→Br code a r (decide ((nth code a).op=23) && decide (nth (nth code a).args 0=r))
structure Fw (code:List InstrD):Prop where
  len:code.length≤2000
  ok:∀ i:Int,0≤i→i < code.length→((nth code i).op=22→i < (nth code i).num∧(nth code i).num < code.length)∧((nth code i).op=18∨(nth code i).op=9→i+1 < code.length)∧
    ((nth code i).op=18∨(nth code i).op=23→(nth code i).args.length=1)∧((nth code i).op=9→(nth code i).into=0)
section

end
section

end
section
variable {v w:World} {x y z t:Sl} {ds:List DeclD} {I J K R:Items}
theorem c_copyDecls (hx:Read v x ds):Mk Tryz.prog 57 #[x.val] v fun r J=>∃ y,r=y.val∧OwnD y ds J:=by
  refine of57 _ _ _ ?_
  unfold vc57
  have hn:=hx.n
  have hl:=hx.le
  refine St.build (α:=DeclD) (St.refl v) (by (repeat' (first|exact VsOf.nil|apply VsOf.cons|(apply VOf.int;first|assumption|(constructor<;>first|omega|(simp only [lz] at *;omega)))|exact VOf.bool|exact VOf.str))) rfl (by decide) ?_
  intro y w1 I1 hO hS hs
  refine ⟨_,rfl,?_⟩
  refine ⟨fun y i w=>∃ I,OwnD y (ds.take i.toNat) I∧St v w (I++[])∧0≤i∧i≤ds.length,fun _ i _=>(ds.length - i).toNat,⟨I1,.ofEmpty hO,hS,by omega,by omega⟩,?_⟩
  clear hO hS hs
  rintro y i w ⟨I,hO,hS,h0,h1⟩
  dsimp only
  refine ⟨fun hi=>?_,fun hi=>?_⟩
  · simp only [bls] at hi
    have hil:i < ds.length:=by omega
    refine St.build (α:=ConD) hS (by (repeat' (first|exact VsOf.nil|apply VsOf.cons|(apply VOf.int;first|assumption|(constructor<;>first|omega|(simp only [lz] at *;omega)))|exact VOf.bool|exact VOf.str))) rfl (by decide) ?_
    intro z w2 K2 hK hS hs
    refine ⟨_,rfl,?_⟩
    refine ⟨fun z k w=>∃ K,OwnD z ((nth ds i).cons.take k.toNat) K∧St v w (K++(I++[]))∧0≤k∧k≤(nth ds i).cons.length,fun _ k _=>((nth ds i).cons.length - k).toNat,⟨K2,.ofEmpty hK,hS,by omega,by omega⟩,?_⟩
    clear hK hS hs
    rintro z k w ⟨K,hK,hS,k0,k1⟩
    dsimp only
    obtain ⟨f_cons,e1,e2,e3,i1,i2,r1⟩:=(hx.src hS.sub).ofDeclD h0 hil
    have hfn:=r1.n
    have hfl:=r1.le
    refine go_ix hx h0 hil ?_
    refine ⟨f_cons,e3,fun hi=>?_,fun hi=>?_⟩
    · simp only [bls] at hi
      have hkl:k < (nth ds i).cons.length:=by omega
      refine go_ix hx h0 hil ?_
      refine ⟨f_cons,e3,?_⟩
      refine go_ix r1 k0 hkl ?_
      refine ld_con_fields (r1.src hS.sub) k0 hkl ?_
      intro g hg
      refine Mk.use (c_copyInts hg) hS ?_
      rintro _ w3 J3 ⟨t,rfl,hT⟩ hS hsub
      refine ⟨_,rfl,?_⟩
      refine OwnD.add (a:=nth (nth ds i).cons k) (J:=J3) (R:=I++[]) hK (hS.perm (by
        classical
        exact List.perm_iff_count.2 fun a=>by simp only [List.count_append,List.count_nil];omega)) rfl ⟨t,J3,rfl,hT.toAll,rfl⟩ (by decide) (by simp;omega) (by decide) ?_
      intro z' w4 K4 hK hS
      refine go_wr (by omega) (by omega) ?_
      refine ⟨⟨K4,?_,hS,by omega,by omega⟩,by omega⟩
      rw [take_nth k0 hkl];exact hK
    · simp only [bls] at hi
      rw [take_all (by omega)] at hK
      refine go_ix hx h0 hil ?_
      refine ⟨_,e1,?_⟩
      refine go_ix hx h0 hil ?_
      refine ⟨_,e2,?_⟩
      refine OwnD.add (a:=nth ds i) (J:=K) (R:=[]) hO (hS.perm (by
        classical
        exact List.perm_iff_count.2 fun a=>by simp only [List.count_append,List.count_nil];omega)) rfl ⟨z,K,rfl,i1,i2,hK,rfl⟩ (by decide) (by simp;omega) (by decide) ?_
      intro y' w4 I4 hO hS
      refine go_wr (by omega) (by omega) ?_
      refine ⟨⟨I4,?_,hS,by omega,by omega⟩,by omega⟩
      rw [take_nth h0 hil];exact hO
  · simp only [bls] at hi
    rw [take_all (by omega)] at hO
    exact ⟨I,by simpa using hS,y,rfl,hO⟩
end
section

end
def RPl (ds:List DeclD) (nf:Int) (r:RoutD):Prop:=r.params.length≤3∧PlB ds nf 5000 r.params.length r.body∧r.lent.length≤3
def RsP (ds:List DeclD) (rs:List RoutD):Prop:=∀ r∈rs,RPl ds rs.length r
def ClB (b:BlockD):Prop:=∀ (u:World) (xs:Sl) (n:Int),Read u xs b.steps→Fz Tryz.prog 107 #[.agg #[xs.val,iV b.result],iV n] u fun r u'=>∃ q:Bool,r=.bool q
section
variable {u u' v w:World} {x y z f xs:Sl} {ds:List DeclD} {rs:List RoutD} {fs:List FunD} {J:Items} {n op num result nf i:Int} {m:Nat} {l k params:List Int} {kids:List BlockD} {steps:List StepD} {b:BlockD}
theorem vofL (h:Read u x l):VOf u x.val (l:List Int):=⟨rfl,x,rfl,h⟩
theorem c_copyDeclsZ (hx:Read u x ds):Fz Tryz.prog 57 #[x.val] u fun r u'=>∃ y:Sl,r=y.val∧Read u' y ds:=
  (c_copyDecls hx).mono' fun r w' ⟨J,hS,y,h1,h2⟩=>⟨hS.sub,y,h1,h2.read1 hS⟩
theorem c_heapFromG (hx:Read u x l) (h0:0≤n) (h1:n≤1000000000) (hl:l.length≤1000000000):Mk Tryz.prog 83 #[x.val,iV n] u fun r J=>∃ (y:Sl) (k:List Int),r=y.val∧Own u y k J∧k.length≤l.length:=by
  refine of83 _ _ _ _ ?_
  unfold vc83
  have hxn:=hx.n
  refine st_own (α:=Int) (l:=[]) (.refl u) VsOf.nil rfl (by decide) fun y0 w0 J0 hs0 hS hO=>?_
  refine ⟨fun y i w=>∃ (J:Items) (k:List Int),St u w (J++[])∧Own u y k J∧(k.length:Int)≤i∧0≤i∧i≤l.length,fun _ i _=>(l.length - i).toNat,⟨J0,[],hS,hO,by simp,by omega,by omega⟩,?_⟩
  clear hS hO hs0
  rintro y i w ⟨J,k,hS,hO,hk,i0,i1⟩
  dsimp only
  refine ⟨fun hc=>?_,fun hc=>?_⟩
  · simp only [bls] at hc
    have hil:i < l.length:=by omega
    obtain ⟨e1,hIn⟩:=(hx.src hS.sub).int i0 hil
    refine ⟨hx.ix i0 hil,nth l i,e1,fun hc2=>?_,fun hc2=>?_⟩
    · refine go_wr (by omega) (by omega) ?_
      refine st_push (α:=Int) hS hO (VOf.int ⟨by omega,by omega⟩) (by omega) (by decide) (by decide) fun y2 w2 J2 hS hO=>?_
      refine go_wr (by omega) (by omega) ?_
      exact ⟨⟨J2,_,hS,hO,by simp;omega,by omega,by omega⟩,by omega⟩
    · refine go_wr (by omega) (by omega) ?_
      exact ⟨⟨J,k,hS,hO,by omega,by omega,by omega⟩,by omega⟩
  · simp only [bls] at hc
    exact ⟨J,by simpa using hS,y,k,rfl,hO,by omega⟩
theorem c_normalize (hx:Read u x ds) (ht:typesOk ds) (hy:Read u y fs) (hok:∀ f∈fs,FOk ds fs.length f):Fz Tryz.prog 41 #[.agg #[x.val,y.val]] u fun r u'=>∃ (x' y':Sl) (rs:List RoutD),r=.agg #[x'.val,y'.val]∧Read u' x' ds∧Read u' y' rs∧rs.length=fs.length∧RsP ds rs:=by
  refine of41 _ _ _ _ ?_
  unfold vc41
  have hyn:=hy.n
  have hyl:=hy.le
  refine (c_copyDeclsZ hx).use (.refl u) ?_
  rintro _ w0 u0 hu0 hs0 hS ⟨x',rfl,hx'⟩
  refine ⟨x',rfl,?_⟩
  refine st_own (α:=RoutD) (l:=[]) hS VsOf.nil rfl (by decide) fun y1 w1 J1 hs1 hS hO=>?_
  refine ⟨fun i z w=>∃ (u1:World) (J:Items) (rs:List RoutD),Sub u0 u1∧St u1 w (J++[])∧Own u1 z rs J∧(rs.length:Int)=i∧(∀ r∈rs,RPl ds fs.length r)∧0≤i∧i≤fs.length,fun i _ _=>(fs.length - i).toNat,⟨u0,J1,[],.refl u0,hS,hO,by simp,by simp,by omega,by omega⟩,?_⟩
  clear hS hO hs1 hs0
  rintro i z w ⟨u1,J,rs,hu1,hS,hO,hrl,hrs,i0,i1⟩
  dsimp only
  have hU:=hu0.trans hu1
  refine ⟨fun hc=>?_,fun hc=>?_⟩
  · simp only [bls] at hc
    have hil:i < fs.length:=by omega
    obtain ⟨g1,g2,e1,e2,e3,e4,e5,j1,j2,j3,rp,rk⟩:=((hy.mono hU).src hS.sub).ofFunD i0 hil
    have hfk:=hok _ (nth_mem i0 hil)
    have hpl:(nth fs i).params.length≤3:=(sig_facts hfk.1).1
    have hpn:=rp.n
    refine go_ix hy i0 hil ?_
    refine ⟨g1,_,_,_,g2,⟨e1,e2,e3,e4,e5⟩,?_⟩
    have hlow:∀ {u2:World} {zE:Sl},Sub u1 u2→Read u2 zE (numsF 0 (g1.n:Int))→Fz Tryz.prog 58 #[.agg #[x.val,y.val],.agg #[iV (nth fs i).body.op,iV (nth fs i).body.num,g2.val],zE.val,iV (g1.n:Int)] u2 fun r u'=>∃ (ys:Sl) (b:BlockD),r=.agg #[ys.val,iV b.result]∧Read u' ys b.steps∧InI b.result∧PlB ds fs.length (nodesE (nth fs i).body) (nth fs i).params.length b:=by
      intro u2 zE hu2 hz
      have hl:(numsF 0 (g1.n:Int)).length=(nth fs i).params.length:=by rw [numsF_len];omega
      have hn5:=hfk.2.2
      have:=c_lowerBlockH (y:=y) (m:=(nth fs i).params.length) (c_lower (nth fs i).body) ((hx.mono hU).mono hu2) ht (rk.mono hu2) hz (nf:=fs.length) (by rw [hl];exact hfk.2.1) hn5 (fun v hv=>by have:=numsF_mem hv;omega) (by omega) (by omega)
      rw [show (g1.n:Int)=((nth fs i).params.length:Nat) by omega]
      exact this
    have fin:∀ {u2 u3 w:World} {pA lA yB:Sl} {b:BlockD},Sub u1 u2→Sub u2 u3→St u3 w (J++[])→Read u3 pA (nth fs i).params→Read u3 lA ([]:List Int)→Read u2 yB b.steps→InI b.result→PlB ds fs.length (nodesE (nth fs i).body) (nth fs i).params.length b→
        StepT Tryz.prog (Instr.buildSlice 48 1 #[(0,(.agg #[pA.val,lA.val,iV (nth fs i).result,yB.val,iV b.result]))]) w fun r30 w31=>
          ∃ x32:Sl,r30=x32.val∧Sub w w31∧
          StepT Tryz.prog (Builtin.append_ #[48,48] 48 #[(z.val),(x32.val)]) w31 fun r33 w34=>
            ∃ x35:Sl,r33=x35.val∧∃ n36:Int,Wr .i64 (i+1) n36∧
            ((.sl x:SV)=.sl x)∧((.sl y:SV)=.sl y)∧((.sl (Sl.mk none 0 0):SV)=.sl (Sl.mk none 0 0))∧((.sl (Sl.mk none 0 0):SV)=.sl (Sl.mk none 0 0))∧((.sl x':SV)=.sl x')∧
            (∃ (u1:World) (J:Items) (rs:List RoutD),Sub u0 u1∧St u1 w34 (J++[])∧Own u1 x35 rs J∧(rs.length:Int)=n36∧(∀ r∈rs,RPl ds fs.length r)∧0≤n36∧n36≤fs.length)∧
            (fs.length - n36).toNat < (fs.length - i).toNat:=by
      intro u2 u3 w pA lA yB b h12 h23 hS hpA hlA hyB hb hP
      refine st_pushS (α:=RoutD) hS ((hO.mono h12).mono h23) (vofR j1 hb hpA hlA (hyB.mono h23)) (by omega) (by decide) (by decide) fun y' w3 J3 hS hO=>?_
      refine go_wr (by omega) (by omega) ?_
      refine ⟨rfl,rfl,rfl,rfl,rfl,⟨u3,J3,_,hu1.trans (h12.trans h23),hS,hO,by simp;omega,?_,by omega,by omega⟩,by omega⟩
      intro r hr
      rcases List.mem_append.1 hr with hr|hr
      · exact hrs r hr
      · rw [List.mem_singleton.1 hr]
        exact ⟨hpl,hP.le hfk.2.2,by simp⟩
    have nums:∀ {K:Value→World→Prop},(∀ y' w' u',Sub u1 u'→Sub w w'→St u' w' (J++[])→Read u' y' (numsF 0 (g1.n:Int))→K (Sl.val y') w')→Trip Tryz.prog 59 #[iV 0,iV (g1.n:Int)] w K:=by
      intro K k
      refine (c_numbersFrom (by omega) (by omega) (by omega) (by omega)).use hS ?_
      rintro _ w2 u2 J2 hu2 hs2 hS ⟨y2,rfl,hO2⟩
      obtain ⟨u3,hu3,hS,hJ⟩:=hS.freeze J2
      exact k y2 w2 u3 (hu2.trans hu3) hs2 hS (hO2.read1 hJ)
    refine ⟨nums fun y2 w2 u2 hu2 hs2 hS hy2=>⟨y2,rfl,hs2,?_,.refl _,?_⟩,.refl _,nums fun y2 w2 u2 hu2 hs2 hS hy2=>⟨y2,rfl,hs2,?_⟩⟩
    · refine (hlow hu2 hy2).use hS ?_
      rintro _ w3 u3 hu3 hs3 hS ⟨yB,b,rfl,hyB,hb,hP⟩
      refine ⟨yB,_,rfl,.refl _,?_,?_⟩
      · refine (Mk.fz (c_copyInts (((rp.mono hu2).mono hu3)))).use hS ?_
        rintro _ wA uA huA hsA hS ⟨pA,rfl,hpA⟩
        refine ⟨pA,rfl,hsA,?_⟩
        refine st_bld (α:=Int) (l:=[]) hS VsOf.nil rfl (by decide) fun lA wB uB huB hsB hS hlA=>⟨hsB,?_⟩
        exact fin (hu2.trans hu3) (huA.trans huB) hS (hpA.mono huB) hlA hyB hb hP
      · refine st_bld (α:=Int) (l:=[]) hS VsOf.nil rfl (by decide) fun lA wB uB huB hsB hS hlA=>⟨hsB,?_⟩
        refine (Mk.fz (c_copyInts (((rp.mono hu2).mono hu3).mono huB))).use hS ?_
        rintro _ wA uA huA hsA hS ⟨pA,rfl,hpA⟩
        refine ⟨pA,rfl,hsA,?_⟩
        exact fin (hu2.trans hu3) (huB.trans huA) hS hpA (hlA.mono huA) hyB hb hP
    · refine (hlow hu2 hy2).use hS ?_
      rintro _ w3 u3 hu3 hs3 hS ⟨yB,b,rfl,hyB,hb,hP⟩
      refine ⟨yB,_,rfl,?_,?_⟩
      · refine (Mk.fz (c_copyInts (((rp.mono hu2).mono hu3)))).use hS ?_
        rintro _ wA uA huA hsA hS ⟨pA,rfl,hpA⟩
        refine ⟨pA,rfl,hsA,?_⟩
        refine st_bld (α:=Int) (l:=[]) hS VsOf.nil rfl (by decide) fun lA wB uB huB hsB hS hlA=>⟨hsB,?_⟩
        exact fin (hu2.trans hu3) (huA.trans huB) hS (hpA.mono huB) hlA hyB hb hP
      · refine st_bld (α:=Int) (l:=[]) hS VsOf.nil rfl (by decide) fun lA wB uB huB hsB hS hlA=>⟨hsB,?_⟩
        refine (Mk.fz (c_copyInts (((rp.mono hu2).mono hu3).mono huB))).use hS ?_
        rintro _ wA uA huA hsA hS ⟨pA,rfl,hpA⟩
        refine ⟨pA,rfl,hsA,?_⟩
        exact fin (hu2.trans hu3) (huB.trans huA) hS hpA (hlA.mono huA) hyB hb hP
    · refine (hlow hu2 hy2).use hS ?_
      rintro _ w3 u3 hu3 hs3 hS ⟨yB,b,rfl,hyB,hb,hP⟩
      refine ⟨yB,_,rfl,?_,?_⟩
      · refine (Mk.fz (c_copyInts (((rp.mono hu2).mono hu3)))).use hS ?_
        rintro _ wA uA huA hsA hS ⟨pA,rfl,hpA⟩
        refine ⟨pA,rfl,hsA,?_⟩
        refine st_bld (α:=Int) (l:=[]) hS VsOf.nil rfl (by decide) fun lA wB uB huB hsB hS hlA=>⟨hsB,?_⟩
        exact fin (hu2.trans hu3) (huA.trans huB) hS (hpA.mono huB) hlA hyB hb hP
      · refine st_bld (α:=Int) (l:=[]) hS VsOf.nil rfl (by decide) fun lA wB uB huB hsB hS hlA=>⟨hsB,?_⟩
        refine (Mk.fz (c_copyInts (((rp.mono hu2).mono hu3).mono huB))).use hS ?_
        rintro _ wA uA huA hsA hS ⟨pA,rfl,hpA⟩
        refine ⟨pA,rfl,hsA,?_⟩
        exact fin (hu2.trans hu3) (huB.trans huA) hS hpA (hlA.mono huA) hyB hb hP
  · simp only [bls] at hc
    have hle:(rs.length:Int)=fs.length:=by omega
    refine ⟨hU.trans hS.sub,x',z,rs,rfl,(hx'.mono hu1).mono hS.sub,hO.read1 (by simpa using hS),by omega,?_⟩
    intro r hr
    rw [hle]
    exact hrs r hr
theorem c_closesIn (b:BlockD):ClB b:=by
  refine blk_ind (P:=ClB) (fun b H=>?_) b
  intro u xs n hx
  refine of107e _ _ _ _ _ ?_
  unfold vc107e
  have hxn:=hx.n
  have hxl:=hx.le
  refine ⟨fun i w=>Sub u w∧0≤i∧i≤b.steps.length,fun i _=>(b.steps.length - i).toNat,⟨.refl u,by omega,by omega⟩,?_⟩
  rintro i w ⟨hs,i0,i1⟩
  dsimp only
  refine ⟨fun hc=>?_,fun hc=>⟨hs,_,rfl⟩⟩
  simp only [bls] at hc
  have hil:i < b.steps.length:=by omega
  obtain ⟨f,g,e1,e2,e3,e4,e5,q1,q2,q3,hf,hg⟩:=(hx.src hs).ofStepD i0 hil
  have hix:=hx.ix i0 hil
  have hgn:=hg.n
  have hgl:=hg.le
  refine ⟨hix,_,e1,fun _=>hix,_,fun _=>e2,fun _=>⟨hs,_,rfl⟩,fun _=>?_⟩
  refine ⟨fun j w'=>Sub w w'∧0≤j∧j≤(nth b.steps i).kids.length,fun j _=>((nth b.steps i).kids.length - j).toNat,⟨.refl w,by omega,by omega⟩,?_⟩
  rintro j w' ⟨hs2,j0,j1⟩
  dsimp only
  refine ⟨hix,g,cell_sub hs2 e5,fun hc2=>?_,fun hc2=>?_⟩
  · simp only [bls] at hc2
    have hjl:j < (nth b.steps i).kids.length:=by omega
    obtain ⟨k,a1,a2,hr,hk⟩:=(hg.src (hs.trans hs2)).ofBlockD j0 hjl
    refine ⟨hix,g,cell_sub hs2 e5,hg.ix j0 hjl,k,_,⟨a1,a2⟩,?_⟩
    refine (H _ (nth_mem i0 hil) _ (nth_mem j0 hjl) w' k n (hk.mono (hs.trans hs2))).use (.refl w') ?_
    rintro _ w3 u3 hu3 hs3 hS ⟨q,rfl⟩
    refine ⟨q,rfl,fun _=>⟨hs.trans (hs2.trans hs3),_,rfl⟩,fun _=>?_⟩
    refine go_wr (by omega) (by omega) ?_
    exact ⟨rfl,rfl,⟨hs2.trans hs3,by omega,by omega⟩,by omega⟩
  · refine go_wr (by omega) (by omega) ?_
    exact ⟨rfl,rfl,⟨hs.trans hs2,by omega,by omega⟩,by omega⟩
theorem c_isClosed (hy:Read u y rs):Fz Tryz.prog 82 #[.agg #[x.val,y.val],iV n] u fun r u'=>∃ q:Bool,r=.bool q:=by
  refine of82e _ _ _ _ _ ?_
  unfold vc82e
  have hyn:=hy.n
  have hyl:=hy.le
  refine ⟨fun i w=>Sub u w∧0≤i∧i≤rs.length,fun i _=>(rs.length - i).toNat,⟨.refl u,by omega,by omega⟩,?_⟩
  rintro i w ⟨hs,i0,i1⟩
  dsimp only
  refine ⟨fun hc=>?_,fun hc=>⟨hs,_,rfl⟩⟩
  simp only [bls] at hc
  have hil:i < rs.length:=by omega
  obtain ⟨f1,f2,f3,e1,e2,e3,e4,e5,q1,q2,r1,r2,r3⟩:=(hy.src hs).ofRoutD i0 hil
  refine ⟨hy.ix i0 hil,f3,_,⟨e4,e5⟩,?_⟩
  refine (c_closesIn _ w f3 n (r3.mono hs)).use (.refl w) ?_
  rintro _ w3 u3 hu3 hs3 hS ⟨q,rfl⟩
  refine ⟨q,rfl,fun _=>⟨hs.trans hs3,_,rfl⟩,fun _=>?_⟩
  refine go_wr (by omega) (by omega) ?_
  exact ⟨rfl,rfl,⟨hs.trans hs3,by omega,by omega⟩,by omega⟩
end
theorem Src.ofLI {u w:World} {x:Sl} {l:List (List Int)} {i:Int} (hx:Src u w x l) (h0:0≤i) (h1:i < l.length):∃ f:Sl,w.cell? ((elA x i 1).add 0)=some f.val∧Read u f (nth l i):=by
  obtain ⟨r,hr,h5⟩:=hx.row h0 h1
  obtain ⟨f,rfl,hf⟩:=hr
  exact ⟨f,h5 0 _ rfl,hf⟩
def CsB (ds:List DeclD) (rs:List RoutD) (b:BlockD):Prop:=∀ (u:World) (d m:Nat) (x y xs:Sl) (n:Int),PlB ds rs.length d m b→Read u y rs→Read u xs b.steps→Fz Tryz.prog 84 #[.agg #[x.val,y.val],.agg #[xs.val,iV b.result],iV n] u fun r u'=>∃ q:Bool,r=.bool q
section
variable {u u' w:World} {x y z s f xs:Sl} {ds:List DeclD} {rs:List RoutD} {J:Items} {n i:Int} {m d:Nat} {l k args lent:List Int} {ll:List (List Int)} {kids:List BlockD} {steps:List StepD} {b:BlockD}
theorem c_consumesParam (b:BlockD):CsB ds rs b:=by
  refine blk_ind (P:=CsB ds rs) (fun b H=>?_) b
  intro u d m x y xs n hP hy hx
  refine of84e _ _ _ _ _ _ _ ?_
  unfold vc84e
  have hxn:=hx.n
  have hxl:=hx.le
  refine ⟨fun _=>⟨.refl u,_,rfl⟩,fun _=>?_⟩
  refine ⟨fun i w=>Sub u w∧0≤i∧i≤b.steps.length,fun i _=>(b.steps.length - i).toNat,⟨.refl u,by omega,by omega⟩,?_⟩
  rintro i w ⟨hs,i0,i1⟩
  dsimp only
  refine ⟨fun hc=>?_,fun hc=>⟨hs,_,rfl⟩⟩
  simp only [bls] at hc
  have hil:i < b.steps.length:=by omega
  obtain ⟨f,g,e1,e2,e3,e4,e5,q1,q2,q3,hf,hg⟩:=(hx.src hs).ofStepD i0 hil
  obtain ⟨d2,hd2,hA,hK⟩:=hP.1.at i0 hil
  have hfn:=hf.n
  have hfl:=hf.le
  have hgn:=hg.n
  have hgl:=hg.le
  refine ⟨hx.ix i0 hil,_,_,_,f,g,⟨e1,e2,e3,e4,e5⟩,?_⟩
  refine ⟨fun j w'=>Sub w w'∧0≤j∧j≤(nth b.steps i).args.length,fun j _=>((nth b.steps i).args.length - j).toNat,⟨.refl w,by omega,by omega⟩,?_⟩
  rintro j w' ⟨hs2,j0,j1⟩
  dsimp only
  have hsw:=hs.trans hs2
  refine ⟨fun hc2=>?_,fun hc2=>?_⟩
  · simp only [bls] at hc2
    have hjl:j < (nth b.steps i).args.length:=by omega
    refine ⟨hf.ix j0 hjl,_,((hf.src hsw).int j0 hjl).1,_,fun _=>c_consumes,_,fun _=>c_lentAt (hy.mono hsw) hA.2.2.2.2.2.1,fun _=>⟨hsw,_,rfl⟩,fun _=>?_⟩
    refine go_wr (by omega) (by omega) ?_
    exact ⟨rfl,rfl,rfl,rfl,rfl,rfl,rfl,rfl,rfl,⟨hs2,by omega,by omega⟩,by omega⟩
  · refine ⟨fun j w3=>Sub w' w3∧0≤j∧j≤(nth b.steps i).kids.length,fun j _=>((nth b.steps i).kids.length - j).toNat,⟨.refl w',by omega,by omega⟩,?_⟩
    clear j0 j1 hc2
    rintro j w3 ⟨hs3,j0,j1⟩
    dsimp only
    have hsw3:=hsw.trans hs3
    refine ⟨fun hc3=>?_,fun hc3=>?_⟩
    · simp only [bls] at hc3
      have hjl:j < (nth b.steps i).kids.length:=by omega
      obtain ⟨k,a1,a2,hr,hk⟩:=(hg.src hsw3).ofBlockD j0 hjl
      refine ⟨hg.ix j0 hjl,k,_,⟨a1,a2⟩,?_⟩
      refine (H _ (nth_mem i0 hil) _ (nth_mem j0 hjl) w3 d2 _ x y k n (hK j.toNat _ (nth_get j0 hjl)) (hy.mono hsw3) (hk.mono hsw3)).use (.refl w3) ?_
      rintro _ w4 u4 hu4 hs4 hS ⟨q,rfl⟩
      refine ⟨q,rfl,fun _=>⟨hsw3.trans hs4,_,rfl⟩,fun _=>?_⟩
      refine go_wr (by omega) (by omega) ?_
      exact ⟨rfl,rfl,rfl,rfl,rfl,rfl,rfl,rfl,rfl,⟨hs3.trans hs4,by omega,by omega⟩,by omega⟩
    · refine go_wr (by omega) (by omega) ?_
      exact ⟨rfl,rfl,rfl,rfl,⟨hsw3,by omega,by omega⟩,by omega⟩
theorem ball_push {α:Type} {P:α→Prop} {l:List α} {x:α} (h:∀ k∈l,P k) (hx:P x):∀ k∈l++[x],P k:=fun k hk=>by
  rcases List.mem_append.1 hk with hk|hk
  · exact h k hk
  · rw [List.mem_singleton.1 hk]
    exact hx
theorem c_keptLent (hy:Read u y rs) (hP:RsP ds rs) (h0:0≤n) (h1:n < rs.length):Fz Tryz.prog 64 #[.agg #[x.val,y.val],iV n] u fun r u'=>∃ (z:Sl) (l:List Int),r=z.val∧Read u' z l∧l.length≤3:=by
  refine of64e _ _ _ _ _ ?_
  unfold vc64e
  have hix:=hy.ix h0 h1
  refine st_own (α:=Int) (l:=[]) (.refl u) VsOf.nil rfl (by decide) fun y0 w0 J0 hs0 hS hO=>?_
  refine ⟨fun z i w=>∃ (u1:World) (J:Items) (l:List Int),Sub u u1∧St u1 w (J++[])∧Own u1 z l J∧(l.length:Int)≤i∧0≤i∧i≤(nth rs n).lent.length,fun _ i _=>((nth rs n).lent.length - i).toNat,⟨u,J0,[],.refl u,hS,hO,by simp,by omega,by omega⟩,?_⟩
  clear hS hO hs0
  rintro z i w ⟨u1,J,l,hu1,hS,hO,hl,i0,i1⟩
  dsimp only
  obtain ⟨f1,f2,f3,e1,e2,e3,e4,e5,q1,q2,r1,r2,r3⟩:=((hy.mono hu1).src hS.sub).ofRoutD h0 h1
  have h2n:=r2.n
  have h2l:=r2.le
  have hPr:=hP _ (nth_mem h0 h1)
  refine ⟨hix,f2,e2,fun hc=>?_,fun hc=>?_⟩
  · simp only [bls] at hc
    have hil:i < (nth rs n).lent.length:=by omega
    have hix2:=r2.ix i0 hil
    refine ⟨hix,f3,_,⟨e4,e5⟩,hix,f2,e2,hix2,_,((r2.src hS.sub).int i0 hil).1,?_⟩
    refine (c_consumesParam _ u1 5000 _ x y f3 _ hPr.2.1 (hy.mono hu1) r3).use hS ?_
    rintro _ w4 u4 hu4 hs4 hS ⟨q,rfl⟩
    refine ⟨q,rfl,fun _=>?_,fun _=>?_⟩
    · obtain ⟨c1,c2⟩:=((r2.mono hu4).src hS.sub).int i0 hil
      refine ⟨hix,f2,cell_sub hs4 e2,hix2,_,c1,?_⟩
      refine st_push (α:=Int) hS (hO.mono hu4) (VOf.int c2) (by omega) (by decide) (by decide) fun z5 w5 J5 hS hO=>?_
      refine go_wr (by omega) (by omega) ?_
      exact ⟨rfl,rfl,⟨u4,J5,_,hu1.trans hu4,hS,hO,by simp;omega,by omega,by omega⟩,by omega⟩
    · refine go_wr (by omega) (by omega) ?_
      exact ⟨rfl,rfl,⟨u4,J,l,hu1.trans hu4,hS,hO.mono hu4,by omega,by omega,by omega⟩,by omega⟩
  · exact ⟨hu1.trans hS.sub,z,l,rfl,hO.read1 (by simpa using hS),by have:=hPr.2.2;omega⟩
theorem c_candidates (hy:Read u y rs) (hP:RsP ds rs):Fz Tryz.prog 63 #[.agg #[x.val,y.val]] u fun r u'=>∃ (z:Sl) (ll:List (List Int)),r=z.val∧Read u' z ll∧ll.length=rs.length∧∀ k∈ll,k.length≤3:=by
  refine of63e _ _ _ _ ?_
  unfold vc63e
  have hyn:=hy.n
  have hyl:=hy.le
  refine st_own (α:=List Int) (l:=[]) (.refl u) VsOf.nil rfl (by decide) fun y0 w0 J0 hs0 hS hO=>?_
  refine ⟨fun z i w=>∃ (u1:World) (J:Items) (ll:List (List Int)),Sub u u1∧St u1 w (J++[])∧Own u1 z ll J∧(ll.length:Int)=i∧0≤i∧i≤rs.length∧∀ k∈ll,k.length≤3,fun _ i _=>(rs.length - i).toNat,⟨u,J0,[],.refl u,hS,hO,by simp,by omega,by omega,by simp⟩,?_⟩
  clear hS hO hs0
  rintro z i w ⟨u1,J,ll,hu1,hS,hO,hl,i0,i1,hb⟩
  dsimp only
  refine ⟨fun hc=>?_,fun hc=>?_⟩
  · simp only [bls] at hc
    have hil:i < rs.length:=by omega
    refine (c_isClosed (hy.mono hu1)).use hS ?_
    rintro _ w4 u4 hu4 hs4 hS ⟨q,rfl⟩
    refine ⟨q,rfl,fun _=>?_,fun _=>?_⟩
    · refine st_bld (α:=Int) (l:=[]) hS VsOf.nil rfl (by decide) fun x5 w5 u5 hu5 hs5 hS hx5=>?_
      refine st_push (α:=List Int) hS ((hO.mono hu4).mono hu5) (vofL hx5) (by omega) (by decide) (by decide) fun z6 w6 J6 hS hO=>?_
      refine go_wr (by omega) (by omega) ?_
      exact ⟨rfl,rfl,⟨u5,J6,_,hu1.trans (hu4.trans hu5),hS,hO,by simp;omega,by omega,by omega,ball_push hb (by simp)⟩,by omega⟩
    · obtain ⟨f1,f2,f3,e1,e2,e3,e4,e5,q1,q2,r1,r2,r3⟩:=(((hy.mono hu1).mono hu4).src hS.sub).ofRoutD i0 hil
      have hPr:=hP _ (nth_mem i0 hil)
      refine ⟨hy.ix i0 hil,f1,e1,?_⟩
      refine Mk.use (c_heapFromG r1 (by omega) (by omega) (by have:=hPr.1;omega)) hS ?_
      rintro _ w5 J5 ⟨x5,l5,rfl,hO5,hl5⟩ hS hs5
      obtain ⟨u6,hu6,hS,hJ⟩:=hS.freeze J5
      refine ⟨x5,rfl,?_⟩
      refine st_push (α:=List Int) hS ((hO.mono hu4).mono hu6) (vofL (hO5.read1 hJ)) (by omega) (by decide) (by decide) fun z6 w6 J6 hS hO=>?_
      refine go_wr (by omega) (by omega) ?_
      exact ⟨rfl,rfl,⟨u6,J6,_,hu1.trans (hu4.trans hu6),hS,hO,by simp;omega,by omega,by omega,ball_push hb (by have:=hPr.1;omega)⟩,by omega⟩
  · simp only [bls] at hc
    exact ⟨hu1.trans hS.sub,z,ll,rfl,hO.read1 (by simpa using hS),by omega,hb⟩
theorem c_withLent (hx:Read u x ds) (hy:Read u y rs) (hP:RsP ds rs) (hz:Read u z ll) (hl:ll.length=rs.length) (hb:∀ k∈ll,k.length≤3):Fz Tryz.prog 62 #[.agg #[x.val,y.val],z.val] u fun r u'=>∃ (x' y':Sl) (rs':List RoutD),r=.agg #[x'.val,y'.val]∧Read u' x' ds∧Read u' y' rs'∧rs'.length=rs.length∧RsP ds rs':=by
  refine of62 _ _ _ _ _ ?_
  unfold vc62
  have hyn:=hy.n
  have hyl:=hy.le
  refine (c_copyDeclsZ hx).use (.refl u) ?_
  rintro _ w0 u0 hu0 hs0 hS ⟨x',rfl,hx'⟩
  refine ⟨x',rfl,?_⟩
  refine st_own (α:=RoutD) (l:=[]) hS VsOf.nil rfl (by decide) fun y1 w1 J1 hs1 hS hO=>?_
  refine ⟨fun i s w=>∃ (u1:World) (J:Items) (ts:List RoutD),Sub u0 u1∧St u1 w (J++[])∧Own u1 s ts J∧(ts.length:Int)=i∧(∀ r∈ts,RPl ds rs.length r)∧0≤i∧i≤rs.length,fun i _ _=>(rs.length - i).toNat,⟨u0,J1,[],.refl u0,hS,hO,by simp,by simp,by omega,by omega⟩,?_⟩
  clear hS hO hs1 hs0
  rintro i s w ⟨u1,J,ts,hu1,hS,hO,hrl,hts,i0,i1⟩
  dsimp only
  have hU:=hu0.trans hu1
  refine ⟨fun hc=>?_,fun hc=>?_⟩
  · simp only [bls] at hc
    have hil:i < rs.length:=by omega
    obtain ⟨f1,f2,f3,e1,e2,e3,e4,e5,q1,q2,r1,r2,r3⟩:=((hy.mono hU).src hS.sub).ofRoutD i0 hil
    obtain ⟨g,c1,hg⟩:=((hz.mono hU).src hS.sub).ofLI (i:=i) i0 (by omega)
    have hPr:=hP _ (nth_mem i0 hil)
    refine ⟨hy.ix i0 hil,f1,f2,_,f3,_,⟨e1,e2,e3,e4,e5⟩,hz.ix i0 (by omega),g,c1,?_⟩
    refine (Mk.fz (c_copyInts r1)).use hS ?_
    rintro _ w2 u2 hu2 hs2 hS ⟨p2,rfl,hp2⟩
    refine ⟨p2,rfl,hs2,?_⟩
    refine (Mk.fz (c_copyInts (hg.mono hu2))).use hS ?_
    rintro _ w3 u3 hu3 hs3 hS ⟨p3,rfl,hp3⟩
    refine ⟨p3,rfl,hs3,?_⟩
    refine (c_copyBlock _ u3 f3 ((r3.mono hu2).mono hu3) q2).use hS ?_
    rintro _ w4 u4 J4 hu4 hs4 hS ⟨p4,rfl,hO4⟩
    obtain ⟨u5,hu5,hS,hJ⟩:=hS.freeze J4
    refine ⟨p4,_,rfl,hs4,?_⟩
    have hV:=hu2.trans (hu3.trans (hu4.trans hu5))
    refine st_pushS (α:=RoutD) hS (hO.mono hV) (vofR q1 q2 (hp2.mono (hu3.trans (hu4.trans hu5))) (hp3.mono (hu4.trans hu5)) (hO4.read1 hJ)) (by omega) (by decide) (by decide) fun y' w3 J3 hS hO=>?_
    refine go_wr (by omega) (by omega) ?_
    refine ⟨rfl,rfl,rfl,rfl,rfl,⟨u5,J3,_,hu1.trans hV,hS,hO,by simp;omega,?_,by omega,by omega⟩,by omega⟩
    intro r hr
    rcases List.mem_append.1 hr with hr|hr
    · exact hts r hr
    · rw [List.mem_singleton.1 hr]
      exact ⟨hPr.1,hPr.2.1,hb _ (nth_mem i0 (by omega))⟩
  · simp only [bls] at hc
    refine ⟨hU.trans hS.sub,x',s,ts,rfl,(hx'.mono hu1).mono hS.sub,hO.read1 (by simpa using hS),by omega,?_⟩
    intro r hr
    rw [show (ts.length:Int)=rs.length by omega]
    exact hts r hr
theorem c_lentMost (hx:Read u x ds) (hy:Read u y rs) (hP:RsP ds rs):Fz Tryz.prog 43 #[.agg #[x.val,y.val]] u fun r u'=>∃ (x' y':Sl) (rs':List RoutD),r=.agg #[x'.val,y'.val]∧Read u' x' ds∧Read u' y' rs'∧rs'.length=rs.length∧RsP ds rs':=by
  refine of43 _ _ _ _ ?_
  unfold vc43
  have cand:∀ {K:Value→World→Prop},(∀ z w' u',Sub u u'→Sub u w'→St u' w' []→(∃ ll:List (List Int),Read u' z ll∧ll.length=rs.length∧∀ k∈ll,k.length≤3)→K (Sl.val z) w')→Trip Tryz.prog 63 #[.agg #[x.val,y.val]] u K:=by
    intro K k
    refine (c_candidates hy hP).use (.refl u) ?_
    rintro _ w1 u1 hu1 hs1 hS ⟨z1,ll,rfl,hz1,hl1,hb1⟩
    exact k z1 w1 u1 hu1 hs1 hS ⟨ll,hz1,hl1,hb1⟩
  refine ⟨cand fun z1 w1 u1 hu1 hs1 hS ⟨ll,hz1,hl1,hb1⟩=>⟨z1,rfl,hs1,?_,.refl _,?_⟩,.refl _,cand fun z1 w1 u1 hu1 hs1 hS ⟨ll,hz1,hl1,hb1⟩=>⟨z1,rfl,hs1,?_⟩⟩
  · refine (c_withLent (hx.mono hu1) (hy.mono hu1) hP hz1 hl1 hb1).use hS ?_
    rintro _ wL uL huL hsL hS ⟨xL,yL,rsL,rfl,hxL,hyL,hlL,hPL⟩
    refine ⟨xL,yL,rfl,.refl _,?_⟩
    refine ⟨fun i x' y' w=>∃ (u2:World) (ts:List RoutD),Sub u u2∧St u2 w []∧Read u2 x' ds∧Read u2 y' ts∧ts.length=rs.length∧RsP ds ts∧0≤i∧i≤13,fun i _ _ _=>(13 - i).toNat,⟨uL,rsL,hu1.trans huL,hS,hxL,hyL,hlL,hPL,by omega,by omega⟩,?_⟩
    clear hS
    rintro i x' y' w ⟨u2,ts,u2S,hS,hx2,hy2,hl2,hP,i0,i1⟩
    dsimp only
    have hyn:=hy2.n
    have hyl:=hy2.le
    refine ⟨fun hc=>?_,fun hc=>⟨u2S.trans hS.sub,x',y',ts,rfl,hx2.mono hS.sub,hy2.mono hS.sub,hl2,hP⟩⟩
    simp only [bls] at hc
    refine st_own (α:=List Int) (l:=[]) hS VsOf.nil rfl (by decide) fun yn wn Jn hsn hS hOn=>?_
    refine ⟨fun z j w=>∃ (u3:World) (J:Items) (ll:List (List Int)),Sub u2 u3∧St u3 w (J++[])∧Own u3 z ll J∧(ll.length:Int)=j∧0≤j∧j≤ts.length∧∀ k∈ll,k.length≤3,fun _ j _=>(ts.length - j).toNat,⟨u2,Jn,[],.refl u2,hS,hOn,by simp,by omega,by omega,by simp⟩,?_⟩
    clear hS hOn hsn
    rintro z j w ⟨u3,J,ll,hu3,hS,hO,hll,j0,j1,hb⟩
    dsimp only
    refine ⟨fun hc2=>?_,fun hc2=>?_⟩
    · simp only [bls] at hc2
      have hjl:j < ts.length:=by omega
      refine (c_keptLent (hy2.mono hu3) hP j0 hjl).use hS ?_
      rintro _ w4 u4 hu4 hs4 hS ⟨k4,l4,rfl,hk4,hk3⟩
      refine ⟨k4,rfl,?_⟩
      refine st_push (α:=List Int) hS (hO.mono hu4) (vofL hk4) (by omega) (by decide) (by decide) fun z5 w5 J5 hS hO=>?_
      refine go_wr (by omega) (by omega) ?_
      exact ⟨rfl,rfl,rfl,rfl,rfl,rfl,⟨u4,J5,_,hu3.trans hu4,hS,hO,by simp;omega,by omega,by omega,ball_push hb hk3⟩,by omega⟩
    · simp only [bls] at hc2
      obtain ⟨u4,hu4,hS,hJ⟩:=hS.freeze J
      refine (c_withLent ((hx2.mono hu3).mono hu4) ((hy2.mono hu3).mono hu4) hP (hO.read1 hJ) (by omega) hb).use hS ?_
      rintro _ w5 u5 hu5 hs5 hS ⟨x5,y5,rs5,rfl,hx5,hy5,hl5,hP5⟩
      refine ⟨x5,y5,rfl,?_⟩
      refine go_wr (by omega) (by omega) ?_
      exact ⟨rfl,rfl,rfl,rfl,⟨u5,rs5,u2S.trans (hu3.trans (hu4.trans hu5)),hS,hx5,hy5,by omega,hP5,by omega,by omega⟩,by omega⟩
  · refine (c_withLent (hx.mono hu1) (hy.mono hu1) hP hz1 hl1 hb1).use hS ?_
    rintro _ wL uL huL hsL hS ⟨xL,yL,rsL,rfl,hxL,hyL,hlL,hPL⟩
    refine ⟨xL,yL,rfl,?_⟩
    refine ⟨fun i x' y' w=>∃ (u2:World) (ts:List RoutD),Sub u u2∧St u2 w []∧Read u2 x' ds∧Read u2 y' ts∧ts.length=rs.length∧RsP ds ts∧0≤i∧i≤13,fun i _ _ _=>(13 - i).toNat,⟨uL,rsL,hu1.trans huL,hS,hxL,hyL,hlL,hPL,by omega,by omega⟩,?_⟩
    clear hS
    rintro i x' y' w ⟨u2,ts,u2S,hS,hx2,hy2,hl2,hP,i0,i1⟩
    dsimp only
    have hyn:=hy2.n
    have hyl:=hy2.le
    refine ⟨fun hc=>?_,fun hc=>⟨u2S.trans hS.sub,x',y',ts,rfl,hx2.mono hS.sub,hy2.mono hS.sub,hl2,hP⟩⟩
    simp only [bls] at hc
    refine st_own (α:=List Int) (l:=[]) hS VsOf.nil rfl (by decide) fun yn wn Jn hsn hS hOn=>?_
    refine ⟨fun z j w=>∃ (u3:World) (J:Items) (ll:List (List Int)),Sub u2 u3∧St u3 w (J++[])∧Own u3 z ll J∧(ll.length:Int)=j∧0≤j∧j≤ts.length∧∀ k∈ll,k.length≤3,fun _ j _=>(ts.length - j).toNat,⟨u2,Jn,[],.refl u2,hS,hOn,by simp,by omega,by omega,by simp⟩,?_⟩
    clear hS hOn hsn
    rintro z j w ⟨u3,J,ll,hu3,hS,hO,hll,j0,j1,hb⟩
    dsimp only
    refine ⟨fun hc2=>?_,fun hc2=>?_⟩
    · simp only [bls] at hc2
      have hjl:j < ts.length:=by omega
      refine (c_keptLent (hy2.mono hu3) hP j0 hjl).use hS ?_
      rintro _ w4 u4 hu4 hs4 hS ⟨k4,l4,rfl,hk4,hk3⟩
      refine ⟨k4,rfl,?_⟩
      refine st_push (α:=List Int) hS (hO.mono hu4) (vofL hk4) (by omega) (by decide) (by decide) fun z5 w5 J5 hS hO=>?_
      refine go_wr (by omega) (by omega) ?_
      exact ⟨rfl,rfl,rfl,rfl,rfl,rfl,⟨u4,J5,_,hu3.trans hu4,hS,hO,by simp;omega,by omega,by omega,ball_push hb hk3⟩,by omega⟩
    · simp only [bls] at hc2
      obtain ⟨u4,hu4,hS,hJ⟩:=hS.freeze J
      refine (c_withLent ((hx2.mono hu3).mono hu4) ((hy2.mono hu3).mono hu4) hP (hO.read1 hJ) (by omega) hb).use hS ?_
      rintro _ w5 u5 hu5 hs5 hS ⟨x5,y5,rs5,rfl,hx5,hy5,hl5,hP5⟩
      refine ⟨x5,y5,rfl,?_⟩
      refine go_wr (by omega) (by omega) ?_
      exact ⟨rfl,rfl,rfl,rfl,⟨u5,rs5,u2S.trans (hu3.trans (hu4.trans hu5)),hS,hx5,hy5,by omega,hP5,by omega,by omega⟩,by omega⟩
  · refine (c_withLent (hx.mono hu1) (hy.mono hu1) hP hz1 hl1 hb1).use hS ?_
    rintro _ wL uL huL hsL hS ⟨xL,yL,rsL,rfl,hxL,hyL,hlL,hPL⟩
    refine ⟨xL,yL,rfl,?_⟩
    refine ⟨fun i x' y' w=>∃ (u2:World) (ts:List RoutD),Sub u u2∧St u2 w []∧Read u2 x' ds∧Read u2 y' ts∧ts.length=rs.length∧RsP ds ts∧0≤i∧i≤13,fun i _ _ _=>(13 - i).toNat,⟨uL,rsL,hu1.trans huL,hS,hxL,hyL,hlL,hPL,by omega,by omega⟩,?_⟩
    clear hS
    rintro i x' y' w ⟨u2,ts,u2S,hS,hx2,hy2,hl2,hP,i0,i1⟩
    dsimp only
    have hyn:=hy2.n
    have hyl:=hy2.le
    refine ⟨fun hc=>?_,fun hc=>⟨u2S.trans hS.sub,x',y',ts,rfl,hx2.mono hS.sub,hy2.mono hS.sub,hl2,hP⟩⟩
    simp only [bls] at hc
    refine st_own (α:=List Int) (l:=[]) hS VsOf.nil rfl (by decide) fun yn wn Jn hsn hS hOn=>?_
    refine ⟨fun z j w=>∃ (u3:World) (J:Items) (ll:List (List Int)),Sub u2 u3∧St u3 w (J++[])∧Own u3 z ll J∧(ll.length:Int)=j∧0≤j∧j≤ts.length∧∀ k∈ll,k.length≤3,fun _ j _=>(ts.length - j).toNat,⟨u2,Jn,[],.refl u2,hS,hOn,by simp,by omega,by omega,by simp⟩,?_⟩
    clear hS hOn hsn
    rintro z j w ⟨u3,J,ll,hu3,hS,hO,hll,j0,j1,hb⟩
    dsimp only
    refine ⟨fun hc2=>?_,fun hc2=>?_⟩
    · simp only [bls] at hc2
      have hjl:j < ts.length:=by omega
      refine (c_keptLent (hy2.mono hu3) hP j0 hjl).use hS ?_
      rintro _ w4 u4 hu4 hs4 hS ⟨k4,l4,rfl,hk4,hk3⟩
      refine ⟨k4,rfl,?_⟩
      refine st_push (α:=List Int) hS (hO.mono hu4) (vofL hk4) (by omega) (by decide) (by decide) fun z5 w5 J5 hS hO=>?_
      refine go_wr (by omega) (by omega) ?_
      exact ⟨rfl,rfl,rfl,rfl,rfl,rfl,⟨u4,J5,_,hu3.trans hu4,hS,hO,by simp;omega,by omega,by omega,ball_push hb hk3⟩,by omega⟩
    · simp only [bls] at hc2
      obtain ⟨u4,hu4,hS,hJ⟩:=hS.freeze J
      refine (c_withLent ((hx2.mono hu3).mono hu4) ((hy2.mono hu3).mono hu4) hP (hO.read1 hJ) (by omega) hb).use hS ?_
      rintro _ w5 u5 hu5 hs5 hS ⟨x5,y5,rs5,rfl,hx5,hy5,hl5,hP5⟩
      refine ⟨x5,y5,rfl,?_⟩
      refine go_wr (by omega) (by omega) ?_
      exact ⟨rfl,rfl,rfl,rfl,⟨u5,rs5,u2S.trans (hu3.trans (hu4.trans hu5)),hS,hx5,hy5,by omega,hP5,by omega,by omega⟩,by omega⟩
end
section
variable {P:Program} {f:FuncId} {args:Array Value} {u' w:World} {K:Value→World→Prop}
theorem Fz.usew {Φ:Value→World→Prop} (h:Fz P f args w Φ) (k:∀ r w',Sub w w'→Φ r w'→K r w'):Trip P f args w K:=h.mono' fun r w' ⟨h1,h2⟩=>k r w' h1 h2
theorem st_bldw {α:Type} [Dat α] {t bytes c:Nat} {zc:List Value} [hT:SlT P t (Dat.sz α) bytes zc] {l:List α} {ps:Array (Nat×Value)} (hv:VsOf w (ps.toList.map (·.2)) l) (hi:ps.toList.map (·.1)=List.range c) (hsz:c * Dat.sz α≤16777216) {K:Sl→World→Prop} (k:∀ y w',Sub w w'→Read w' y l→K y w'):
    StepT P (Instr.buildSlice t c ps) w fun r1 w1=>∃ z:Sl,r1=z.val∧K z w1:=
  st_bld (α:=α) (.refl w) hv hi hsz fun y w' u' hu hs hS hy=>k y w' hs (hy.mono hS.sub)
end
def Tyq (r:Value):Prop:=∃ t:Int,r=iV t∧InI t
structure TyE (u:World) (x y z:Sl) (ds:List DeclD) (rs:List RoutD) (vars:List Int):Prop where
  rx:Read u x ds
  ok:typesOk ds
  ry:Read u y rs
  rz:Read u z vars
def BtW (ds:List DeclD) (rs:List RoutD) (b:BlockD):Prop:=∀ (u:World) (d m:Nat) (nf:Int) (x y z xs:Sl) (vars:List Int),TyE u x y z ds rs vars→PlL ds nf d m b.steps→vars.length+4 * d≤1000000→Read u xs b.steps→Fz Tryz.prog 117 #[.agg #[x.val,y.val],z.val,.agg #[xs.val,iV b.result]] u fun r u'=>Tyq r
section
variable {u u' v:World} {x y z f xa xk:Sl} {ds:List DeclD} {rs:List RoutD} {n op num into result i:Int} {args vars params:List Int} {c:StepD}
theorem TyE.mono (h:TyE u x y z ds rs vars) (hs:Sub u u'):TyE u' x y z ds rs vars:=⟨h.rx.mono hs,h.ok,h.ry.mono hs,h.rz.mono hs⟩
theorem ty_m1:Tyq (iV (-1)):=⟨_,rfl,in64_in rfl⟩
theorem ty_0:Tyq (iV 0):=⟨_,rfl,in64_in rfl⟩
theorem ty_of {t:Int} (h:InI t):Tyq (iV t):=⟨_,rfl,h⟩
theorem c_validIntoW (hz:Read v z vars) (hi:InI into):∃ q,Fn Tryz.prog 151 #[z.val,.agg #[iV op,iV num,iV into,xa.val,xk.val]] v (.bool q):=by
  refine ⟨decide (into=0) || ((decide (op=6) && (decide (1≤into) && decide (into≤(vars.length:Int)))) && decide (nth vars (into - 1) > 0)),?_⟩
  refine of151 _ _ _ _ _ _ _ _ ?_
  unfold vc151
  have hzn:=hz.n
  have hzl:=hz.le
  refine ⟨fun hc=>?_,fun hc=>?_⟩
  · rw [hc];exact ⟨rfl,.refl v⟩
  · rw [hc,hzn]
    refine ⟨_,fun _=>c_inRange,?_⟩
    refine go_wrg ?_ ?_
    · intro hg
      simp only [bls] at hg
      constructor<;>omega
    refine ⟨fun hg=>hz.ix ?_ ?_,nth vars (into - 1),fun hg=>((hz.src (.refl v)).int ?_ ?_).1,by simp,.refl v⟩
    all_goals (simp only [bls] at hg;omega)
theorem c_countingTypeW (h:TyE u x y z ds rs vars) (ha:Read u xa c.args):Fz Tryz.prog 156 #[.agg #[x.val,y.val],z.val,.agg #[iV c.op,iV c.num,iV c.into,xa.val,xk.val]] u fun r u'=>Tyq r:=by
  refine of156e _ _ _ _ _ _ _ _ _ _ ?_
  unfold vc156e
  have hzn:=h.rz.n
  have hzl:=h.rz.le
  have han:=ha.n
  obtain ⟨q,_,hq⟩:=c_isArrow (n:=nth vars (nth c.args 0)) h.rx h.ok.1
  have g1:((!decide ((xa.n:Int)=1))=false)→(0:Int) < c.args.length:=fun hc=>by simp only [bls] at hc;omega
  have ca:(0:Int) < c.args.length→u.cell? ((elA xa 0 1).add 0)=some (iV (nth c.args 0)):=fun hl=>((ha.src (.refl u)).int (by omega) hl).1
  have cv:0≤nth c.args 0→nth c.args 0 < vars.length→u.cell? ((elA z (nth c.args 0) 1).add 0)=some (iV (nth vars (nth c.args 0))):=fun a1 a2=>((h.rz.src (.refl u)).int a1 a2).1
  refine ⟨fun hc=>ha.ix (by omega) (g1 hc),nth c.args 0,fun hc=>ca (g1 hc),?_⟩
  refine go_wrg (fun hc=>⟨by omega,by omega⟩) ?_
  refine ⟨_,fun _=>c_inRange,fun hc=>?_,nth c.args 0,fun hc=>?_,fun hc=>?_,nth vars (nth c.args 0),fun hc=>?_,fun _=>⟨.refl u,ty_m1⟩,fun hc=>?_⟩
  · simp only [bls] at hc
    exact ha.ix (by omega) (by omega)
  · simp only [bls] at hc
    exact ca (by omega)
  · simp only [bls] at hc
    exact h.rz.ix (by omega) (by omega)
  · simp only [bls] at hc
    exact cv (by omega) (by omega)
  · simp only [bls] at hc
    refine ⟨fun _=>ha.ix (by omega) (by omega),_,fun _=>ca (by omega),fun _=>h.rz.ix (by omega) (by omega),_,fun _=>cv (by omega) (by omega),q,fun _=>hq,fun _=>⟨.refl u,ty_m1⟩,fun _=>⟨.refl u,ty_0⟩⟩
theorem c_routineTypeW (h:TyE u x y z ds rs vars) (ha:Read u xa c.args):Fz Tryz.prog 154 #[.agg #[x.val,y.val],z.val,.agg #[iV c.op,iV c.num,iV c.into,xa.val,xk.val]] u fun r u'=>Tyq r:=by
  refine of154e _ _ _ _ _ _ _ _ _ _ ?_
  unfold vc154e
  have hyn:=h.ry.n
  have hyl:=h.ry.le
  refine go_wr (by omega) (by omega) ?_
  refine ⟨_,c_inRange,fun _=>⟨.refl u,ty_m1⟩,fun hc=>?_⟩
  simp only [bls] at hc
  have n0:0≤c.num:=by omega
  have n1:c.num < rs.length:=by omega
  obtain ⟨f1,f2,f3,e1,e2,e3,e4,e5,q1,q2,r1,r2,r3⟩:=(h.ry.src (.refl u)).ofRoutD n0 n1
  have h1n:=r1.n
  have h1l:=r1.le
  refine ⟨h.ry.ix n0 n1,f1,f2,_,f3,_,⟨e1,e2,e3,e4,e5⟩,fun _=>?_,fun _=>?_⟩
  · exact ⟨_,c_typed h.rz ha r1,fun _=>⟨.refl u,ty_m1⟩,fun _=>⟨.refl u,ty_of q1⟩⟩
  · refine go_wrg (fun hc=>⟨by omega,by omega⟩) ?_
    have hg:(((decide ((f1.n:Int)=0)) || (decide ((f2.n:Int) > 0)))=false)→(1:Int)≤(nth rs c.num).params.length:=fun hc=>by simp only [bls] at hc;omega
    have hcut:(1:Int)≤(nth rs c.num).params.length→Read u (f1.cut 0 ((f1.n:Int) - 1) 1) (((nth rs c.num).params.take ((f1.n:Int) - 1).toNat).drop (0:Int).toNat):=fun hl=>r1.cut (by omega) (by omega) (by omega)
    by_cases hp:(1:Int)≤(nth rs c.num).params.length
    · refine ⟨fun hc=>cutOkD r1 (by omega) (by omega),_,fun hc=>c_typed h.rz ha (hcut hp),fun _=>⟨.refl u,ty_m1⟩,fun hc=>?_⟩
      refine go_wr (by omega) (by omega) ?_
      refine ⟨r1.ix (by omega) (by omega),_,((r1.src (.refl u)).int (i:=(f1.n:Int) - 1) (by omega) (by omega)).1,_,c_arrowOf h.rx h.ok.1,.refl u,ty_of ?_⟩
      have:=arrI_bd (ds:=ds) (f:=nth (nth rs c.num).params ((f1.n:Int) - 1)) (t:=(nth rs c.num).result) h.ok.1
      exact ⟨by omega,by omega⟩
    · refine ⟨fun hc=>absurd (hg hc) hp,false,fun hc=>absurd (hg hc) hp,fun _=>⟨.refl u,ty_m1⟩,fun hc=>?_⟩
      simp at hc
end
section
variable {u u' w:World} {x y z f xa xk xs:Sl} {ds:List DeclD} {rs:List RoutD} {J R:Items} {n op num into nf i:Int} {m d:Nat} {l k args vars:List Int} {kids:List BlockD} {steps:List StepD} {b:BlockD} {c:StepD}
theorem c_kidsTypeW (H:∀ k∈c.kids,BtW ds rs k) (h:TyE u x y z ds rs vars) (hk:Read u xk c.kids) (hK:∀ i:Nat,∀ k:BlockD,c.kids[i]?=some k→PlB ds nf d (armV ds c m i) k) (hb:vars.length+4 * (d+1)≤1000000) (hi:InI c.num):Fz Tryz.prog 153 #[.agg #[x.val,y.val],z.val,.agg #[iV c.op,iV c.num,iV c.into,xa.val,xk.val]] u fun r u'=>Tyq r:=by
  refine of153e _ _ _ _ _ _ _ _ _ _ ?_
  unfold vc153e
  have hkn:=hk.n
  have hkl:=hk.le
  have hzl:=h.rz.le
  refine Fz.usew (Mk.fz (c_consOfB h.rx h.ok.sm hi)) ?_
  rintro _ w1 hs1 ⟨zc,rfl,hzc⟩
  have hcn:=hzc.n
  have hcl:=hzc.le
  refine ⟨zc,rfl,fun h7=>⟨fun _=>⟨hs1,ty_m1⟩,fun hc=>?_⟩,fun h7=>⟨fun _=>⟨hs1,ty_m1⟩,fun hc=>?_⟩⟩
  · simp only [bls] at hc
    have hk2:c.kids.length=2:=by omega
    refine ⟨fun t i w=>Sub w1 w∧0≤i∧i≤2∧InI t,fun _ i _=>(2 - i).toNat,⟨.refl w1,by omega,by omega,in64_in rfl⟩,?_⟩
    rintro t i w ⟨hsw,i0,i1,ht⟩
    dsimp only
    have hs:=hs1.trans hsw
    refine ⟨fun hc2=>?_,fun hc2=>⟨hs,ty_of ht⟩⟩
    simp only [bls] at hc2
    have hik:i < c.kids.length:=by omega
    refine ⟨fun h8=>?_,fun h8=>?_⟩
    · simp only [bls] at h8 h7
      omega
    · obtain ⟨f1,a1,a2,r1,hf1⟩:=((hk.mono hs).src (.refl w)).ofBlockD i0 hik
      refine ⟨hk.ix i0 hik,f1,_,⟨a1,a2⟩,?_⟩
      have hPi:=hK i.toNat _ (nth_get i0 hik)
      refine Fz.usew (H _ (nth_mem i0 hik) w d _ nf x y z f1 vars (h.mono hs) hPi.1 (by omega) hf1) ?_
      rintro _ w4 hs4 ⟨t4,rfl,ht4⟩
      refine ⟨t4,rfl,fun _=>⟨hs.trans hs4,ty_m1⟩,fun _=>?_⟩
      refine go_wr (by omega) (by omega) ?_
      exact ⟨rfl,rfl,rfl,rfl,rfl,rfl,rfl,⟨hsw.trans hs4,by omega,by omega,ht4⟩,by omega⟩
  · simp only [bls] at hc
    have hk2:(c.kids.length:Int)=(consL ds c.num).length:=by omega
    refine ⟨fun t i w=>Sub w1 w∧0≤i∧i≤(consL ds c.num).length∧InI t,fun _ i _=>((consL ds c.num).length - i).toNat,⟨.refl w1,by omega,by omega,in64_in rfl⟩,?_⟩
    rintro t i w ⟨hsw,i0,i1,ht⟩
    dsimp only
    have hs:=hs1.trans hsw
    refine ⟨fun hc2=>?_,fun hc2=>⟨hs,ty_of ht⟩⟩
    simp only [bls] at hc2
    have hik:i < c.kids.length:=by omega
    refine ⟨fun h8=>?_,fun h8=>?_⟩
    · have hic:i < (consL ds c.num).length:=by omega
      have hzc2:=hzc.mono (hsw)
      refine ⟨hzc2.ix i0 hic,_,((hzc2.src (.refl w)).int i0 hic).1,?_⟩
      refine Fz.usew (c_conFieldsZ (h.rx.mono hs) h.ok.sm ((hzc2.src (.refl w)).int i0 hic).2) ?_
      rintro _ w3 hs3 ⟨z3,rfl,hz3⟩
      have hc3:=conF_len3 h.ok (nth (consL ds c.num) i)
      refine ⟨z3,rfl,?_⟩
      refine Fz.usew (Mk.fz (c_extend (((h.rz.mono hs).mono hs3)) hz3 (by omega))) ?_
      rintro _ w5 hs5 ⟨z5,rfl,hz5⟩
      have hs':=hs.trans (hs3.trans hs5)
      obtain ⟨f1,a1,a2,r1,hf1⟩:=((hk.mono hs').src (.refl w5)).ofBlockD i0 hik
      refine ⟨z5,rfl,hk.ix i0 hik,f1,_,⟨a1,a2⟩,?_⟩
      have hPi:=hK i.toNat _ (nth_get i0 hik)
      refine Fz.usew (H _ (nth_mem i0 hik) w5 d _ nf x y z5 f1 _ ⟨h.rx.mono hs',h.ok,h.ry.mono hs',hz5⟩ hPi.1 (by rw [List.length_append];omega) hf1) ?_
      rintro _ w4 hs4 ⟨t4,rfl,ht4⟩
      refine ⟨t4,rfl,fun _=>⟨hs'.trans hs4,ty_m1⟩,fun _=>?_⟩
      refine go_wr (by omega) (by omega) ?_
      exact ⟨rfl,rfl,rfl,rfl,rfl,rfl,rfl,⟨(hsw.trans (hs3.trans hs5)).trans hs4,by omega,by omega,ht4⟩,by omega⟩
    · obtain ⟨f1,a1,a2,r1,hf1⟩:=((hk.mono hs).src (.refl w)).ofBlockD i0 hik
      refine ⟨hk.ix i0 hik,f1,_,⟨a1,a2⟩,?_⟩
      have hPi:=hK i.toNat _ (nth_get i0 hik)
      refine Fz.usew (H _ (nth_mem i0 hik) w d _ nf x y z f1 vars (h.mono hs) hPi.1 (by omega) hf1) ?_
      rintro _ w4 hs4 ⟨t4,rfl,ht4⟩
      refine ⟨t4,rfl,fun _=>⟨hs.trans hs4,ty_m1⟩,fun _=>?_⟩
      refine go_wr (by omega) (by omega) ?_
      exact ⟨rfl,rfl,rfl,rfl,rfl,rfl,rfl,⟨hsw.trans hs4,by omega,by omega,ht4⟩,by omega⟩
theorem c_stepTypeWH (H:∀ k∈c.kids,BtW ds rs k) (h:TyE u x y z ds rs vars) (ha:Read u xa c.args) (hk:Read u xk c.kids) (hK:∀ i:Nat,∀ k:BlockD,c.kids[i]?=some k→PlB ds nf d (armV ds c m i) k) (hb:vars.length+4 * (d+1)≤1000000) (hi:InI c.num) (hi2:InI c.into):Fz Tryz.prog 113 #[.agg #[x.val,y.val],z.val,.agg #[iV c.op,iV c.num,iV c.into,xa.val,xk.val]] u fun r u'=>Tyq r:=by
  refine of113e _ _ _ _ _ _ _ _ _ _ ?_
  unfold vc113e
  have hzn:=h.rz.n
  have hzl:=h.rz.le
  have han:=ha.n
  have hal:=ha.le
  have I0:InI 0:=in64_in rfl
  obtain ⟨qi,hqi⟩:=c_validIntoW (op:=c.op) (num:=c.num) (xa:=xa) (xk:=xk) h.rz hi2
  have kidsT:∀ {w:World},Sub u w→Fz Tryz.prog 153 #[.agg #[x.val,y.val],z.val,.agg #[iV c.op,iV c.num,iV c.into,xa.val,xk.val]] w fun r u'=>Tyq r:=fun hs=>c_kidsTypeW H (h.mono hs) (hk.mono hs) hK hb hi
  have routT:=c_routineTypeW (c:=c) (xk:=xk) h ha
  have cntT:=c_countingTypeW (c:=c) (xk:=xk) h ha
  have R:∀ {w:World} {t:Int},Sub u w→InI t→Sub u w∧Tyq (iV t):=fun hs ht=>⟨hs,ty_of ht⟩
  have M1:InI (-1):=in64_in rfl
  refine ⟨_,fun _=>c_hasNum,qi,fun _=>hqi,fun _=>⟨.refl u,ty_m1⟩,fun _=>?_⟩
  refine ⟨fun _=>⟨_,fun _=>c_inRange,fun _=>R (.refl u) I0,fun _=>R (.refl u) M1⟩,fun _=>?_⟩
  refine ⟨fun _=>?_,fun _=>?_⟩
  · refine st_bldw (α:=Int) (l:=[0,0]) (by exact VsOf.cons (VOf.int I0) (VsOf.cons (VOf.int I0) VsOf.nil)) rfl (by decide) fun T w1 hs1 hT=>?_
    exact ⟨_,c_typed (h.rz.mono hs1) (ha.mono hs1) hT,fun _=>R hs1 I0,fun _=>R hs1 M1⟩
  refine ⟨fun _=>?_,fun _=>?_⟩
  · refine st_bldw (α:=Int) (l:=[0,0]) (by exact VsOf.cons (VOf.int I0) (VsOf.cons (VOf.int I0) VsOf.nil)) rfl (by decide) fun T w1 hs1 hT=>?_
    exact ⟨_,c_typed (h.rz.mono hs1) (ha.mono hs1) hT,fun _=>R hs1 I0,fun _=>R hs1 M1⟩
  refine ⟨fun _=>?_,fun _=>?_⟩
  · refine st_bldw (α:=Int) (l:=[0,0]) (by exact VsOf.cons (VOf.int I0) (VsOf.cons (VOf.int I0) VsOf.nil)) rfl (by decide) fun T w1 hs1 hT=>?_
    exact ⟨_,c_typed (h.rz.mono hs1) (ha.mono hs1) hT,fun _=>R hs1 I0,fun _=>R hs1 M1⟩
  refine ⟨fun _=>?_,fun _=>?_⟩
  · refine st_bldw (α:=Int) (l:=[0,0]) (by exact VsOf.cons (VOf.int I0) (VsOf.cons (VOf.int I0) VsOf.nil)) rfl (by decide) fun T w1 hs1 hT=>?_
    exact ⟨_,c_typed (h.rz.mono hs1) (ha.mono hs1) hT,fun _=>R hs1 I0,fun _=>R hs1 M1⟩
  refine ⟨fun _=>?_,fun _=>?_⟩
  · refine st_bldw (α:=Int) (l:=[0]) (by exact VsOf.cons (VOf.int I0) VsOf.nil) rfl (by decide) fun T w1 hs1 hT=>?_
    exact ⟨_,c_typed (h.rz.mono hs1) (ha.mono hs1) hT,fun _=>R hs1 I0,fun _=>R hs1 M1⟩
  refine ⟨fun _=>⟨_,c_specConType h.rx h.ok.sm,fun _=>?_,fun _=>⟨.refl u,R (.refl u) M1⟩⟩,fun _=>?_⟩
  · refine Fz.usew (c_conFieldsZ h.rx h.ok.sm hi) ?_
    rintro _ w1 hs1 ⟨z1,rfl,hz1⟩
    refine ⟨z1,rfl,hs1,_,c_typed (h.rz.mono hs1) (ha.mono hs1) hz1,fun _=>⟨_,c_specConType (h.rx.mono hs1) h.ok.sm,R hs1 ?_⟩,fun _=>R hs1 M1⟩
    have:=conTyV_bd (n:=c.num) h.ok
    exact ⟨by omega,by omega⟩
  refine ⟨fun _=>?_,fun _=>?_⟩
  · refine st_bldw (α:=Int) (l:=[0]) (by exact VsOf.cons (VOf.int I0) VsOf.nil) rfl (by decide) fun T w1 hs1 hT=>?_
    refine ⟨_,c_typed (h.rz.mono hs1) (ha.mono hs1) hT,fun _=>?_,fun _=>R hs1 M1⟩
    refine Fz.usew (kidsT hs1) ?_
    rintro _ w2 hs2 ⟨t,rfl,ht⟩
    exact ⟨t,rfl,R (hs1.trans hs2) ht⟩
  refine ⟨fun _=>?_,fun _=>?_⟩
  · refine st_bldw (α:=Int) (l:=[c.num]) (by exact VsOf.cons (VOf.int hi) VsOf.nil) rfl (by decide) fun T w1 hs1 hT=>?_
    refine ⟨_,c_typed (h.rz.mono hs1) (ha.mono hs1) hT,fun _=>?_,fun _=>R hs1 M1⟩
    refine Fz.usew (kidsT hs1) ?_
    rintro _ w2 hs2 ⟨t,rfl,ht⟩
    exact ⟨t,rfl,R (hs1.trans hs2) ht⟩
  refine ⟨fun _=>?_,fun _=>?_⟩
  · refine Fz.usew routT ?_
    rintro _ w2 hs2 ⟨t,rfl,ht⟩
    exact ⟨t,rfl,R hs2 ht⟩
  refine ⟨fun _=>?_,fun _=>?_⟩
  · refine Fz.usew routT ?_
    rintro _ w2 hs2 ⟨t,rfl,ht⟩
    exact ⟨t,rfl,R hs2 ht⟩
  refine ⟨fun _=>?_,fun _=>?_⟩
  ·
    obtain ⟨q,hq1,hq⟩:=c_isArrow (n:=nth vars (nth c.args 0)) h.rx h.ok.1
    have ca:(0:Int) < c.args.length→u.cell? ((elA xa 0 1).add 0)=some (iV (nth c.args 0)):=fun hl=>((ha.src (.refl u)).int (by omega) hl).1
    have cv:0≤nth c.args 0→nth c.args 0 < vars.length→u.cell? ((elA z (nth c.args 0) 1).add 0)=some (iV (nth vars (nth c.args 0))):=fun a1 a2=>((h.rz.src (.refl u)).int a1 a2).1
    refine ⟨fun hc=>ha.ix (by omega) (by simp only [bls] at hc;omega),nth c.args 0,fun hc=>ca (by simp only [bls] at hc;omega),?_⟩
    refine go_wrg (fun hc=>⟨by omega,by omega⟩) ?_
    refine ⟨_,fun _=>c_inRange,fun hc=>?_,nth c.args 0,fun hc=>?_,fun hc=>?_,nth vars (nth c.args 0),fun hc=>?_,q,fun _=>hq,fun hc=>?_,fun _=>R (.refl u) M1⟩
    · simp only [bls] at hc
      exact ha.ix (by omega) (by omega)
    · simp only [bls] at hc
      exact ca (by omega)
    · simp only [bls] at hc
      exact h.rz.ix (by omega) (by omega)
    · simp only [bls] at hc
      exact cv (by omega) (by omega)
    · simp only [bls] at hc
      obtain ⟨⟨c1,c2⟩,c3⟩:=hc
      have harr:=hq1.1 c3
      unfold isArr at harr
      have hxn:=h.rx.n
      have hd4:=h.ok.1
      obtain ⟨fc,d1,d2,d3,j1,j2,rc⟩:=(h.rx.src (.refl u)).ofDeclD (i:=nth vars (nth c.args 0) - 1) (by omega) (by omega)
      refine ⟨ha.ix (by omega) (by omega),_,ca (by omega),h.rz.ix (by omega) (by omega),_,cv (by omega) (by omega),?_⟩
      refine go_wr (by omega) (by omega) ?_
      refine ⟨h.rx.ix (by omega) (by omega),_,_,fc,⟨d1,d2,d3⟩,.refl u,⟨by omega,by omega⟩,?_⟩
      refine st_bldw (α:=Int) (l:=[(nth ds (nth vars (nth c.args 0) - 1)).frm]) (by exact VsOf.cons (VOf.int j1) VsOf.nil) rfl (by decide) fun T w1 hs1 hT=>?_
      have hcut:Read u (xa.cut 1 (xa.n:Int) 1) ((c.args.take (xa.n:Int).toNat).drop (1:Int).toNat):=ha.cut (by omega) (by omega) (by omega)
      exact ⟨hs1,_,c_typed (h.rz.mono hs1) (hcut.mono hs1) hT,fun _=>R hs1 j2,fun _=>R hs1 M1⟩
  refine ⟨fun _=>?_,fun _=>?_⟩
  · refine Fz.usew cntT ?_
    rintro _ w2 hs2 ⟨t,rfl,ht⟩
    exact ⟨t,rfl,R hs2 ht⟩
  refine ⟨fun _=>?_,fun _=>?_⟩
  · refine Fz.usew cntT ?_
    rintro _ w2 hs2 ⟨t,rfl,ht⟩
    exact ⟨t,rfl,R hs2 ht⟩
  refine ⟨fun _=>?_,fun _=>?_⟩
  · refine Fz.usew cntT ?_
    rintro _ w2 hs2 ⟨t,rfl,ht⟩
    exact ⟨t,rfl,R hs2 ht⟩
  refine ⟨fun _=>?_,fun _=>R (.refl u) M1⟩
  refine Fz.usew cntT ?_
  rintro _ w2 hs2 ⟨t,rfl,ht⟩
  exact ⟨t,rfl,R hs2 ht⟩
theorem c_blockTypeW (b:BlockD):BtW ds rs b:=by
  refine blk_ind (P:=BtW ds rs) (fun b H=>?_) b
  intro u d m nf x y z xs vars h hP hb hx
  refine of117e _ _ _ _ _ _ _ ?_
  unfold vc117e
  have hxn:=hx.n
  have hxl:=hx.le
  have hln:=hP.len
  refine Mk.use (c_copyInts h.rz) (.refl u) ?_
  rintro _ w0 J0 ⟨z0,rfl,hO0⟩ hS hs0
  refine ⟨z0,rfl,?_⟩
  refine ⟨fun z i w=>∃ (u1:World) (J:Items) (inner:List Int),Sub u u1∧St u1 w (J++[])∧Own u1 z inner J∧inner.length≤vars.length+i.toNat∧0≤i∧i≤b.steps.length,fun _ i _=>(b.steps.length - i).toNat,⟨u,J0,vars,.refl u,hS,hO0,by omega,by omega,by omega⟩,?_⟩
  clear hS hO0 hs0
  rintro z i w ⟨u1,J,inner,hu1,hS,hO,hil,i0,i1⟩
  dsimp only
  refine ⟨fun hc=>?_,fun hc=>?_⟩
  · simp only [bls] at hc
    have hlt:i < b.steps.length:=by omega
    have hsw:=hu1.trans hS.sub
    obtain ⟨f,g,e1,e2,e3,e4,e5,q1,q2,q3,hf,hg⟩:=(hx.src hsw).ofStepD i0 hlt
    obtain ⟨d2,hd2,hA,hK⟩:=hP.at i0 hlt
    have hix:=hx.ix i0 hlt
    have hzr:Read w z inner:=hO.read hS
    refine ⟨hix,_,_,_,f,g,⟨e1,e2,e3,e4,e5⟩,?_⟩
    refine Fz.usew (c_stepTypeWH (H _ (nth_mem i0 hlt)) ⟨h.rx.mono hsw,h.ok,h.ry.mono hsw,hzr⟩ (hf.mono hsw) (hg.mono hsw) hK (by omega) q2 q3) ?_
    rintro _ w2 hs2 ⟨t,rfl,ht⟩
    have hS:=hS.sub_w hs2
    refine ⟨t,rfl,fun _=>⟨hsw.trans hs2,ty_m1⟩,fun _=>⟨hix,_,cell_sub hs2 e1,_,c_defines,fun _=>?_,fun _=>?_⟩⟩
    · refine st_push (α:=Int) hS hO (VOf.int ht) (by omega) (by decide) (by decide) fun z5 w5 J5 hS hO=>?_
      refine go_wr (by omega) (by omega) ?_
      exact ⟨rfl,rfl,rfl,rfl,⟨u1,J5,_,hu1,hS,hO,by simp;omega,by omega,by omega⟩,by omega⟩
    · refine go_wr (by omega) (by omega) ?_
      exact ⟨rfl,rfl,rfl,rfl,⟨u1,J,_,hu1,hS,hO,by omega,by omega,by omega⟩,by omega⟩
  · have hzr:Read w z inner:=hO.read hS
    have hzn:=hzr.n
    refine go_wr (by omega) (by omega) ?_
    refine ⟨_,c_inRange,fun _=>⟨hu1.trans hS.sub,ty_m1⟩,fun hc2=>?_⟩
    simp only [bls] at hc2
    refine ⟨hzr.ix (by omega) (by omega),_,((hzr.src (.refl w)).int (by omega) (by omega)).1,hu1.trans hS.sub,ty_of ((hzr.src (.refl w)).int (by omega) (by omega)).2⟩
theorem c_stepTypeW (h:TyE u x y z ds rs vars) (ha:Read u xa c.args) (hk:Read u xk c.kids) (hK:∀ i:Nat,∀ k:BlockD,c.kids[i]?=some k→PlB ds nf d (armV ds c m i) k) (hb:vars.length+4 * (d+1)≤1000000) (hi:InI c.num) (hi2:InI c.into):Fz Tryz.prog 113 #[.agg #[x.val,y.val],z.val,.agg #[iV c.op,iV c.num,iV c.into,xa.val,xk.val]] u fun r u'=>Tyq r:=
  c_stepTypeWH (fun k _=>c_blockTypeW k) h ha hk hK hb hi hi2
end
def nbP (ss:List SigD) (op num:Int) (args:List Int) (i k:Int):Prop:=k≠i∧nth args k=nth args i∧(k > i∨lentAtB ss op num k)
structure CtE (u:World) (x y z xa:Sl) (ds:List DeclD) (rs:List RoutD) (vars:List Int) (c:StepD):Prop where
  ty:TyE u x y z ds rs vars
  ra:Read u xa c.args
  pl:PlA ds rs.length vars.length c
section
variable {u w:World} {x y z xa xk xo xl:Sl} {ds:List DeclD} {rs:List RoutD} {J:Items} {n op num into i:Int} {l k args vars owned later:List Int} {c:StepD} {e:ExprD}
theorem CtE.mono (h:CtE u x y z xa ds rs vars c) (hs:Sub u w):CtE w x y z xa ds rs vars c:=⟨h.ty.mono hs,h.ra.mono hs,h.pl⟩
theorem CtE.arg (h:CtE u x y z xa ds rs vars c) (h0:0≤i) (h1:i < c.args.length):0≤nth c.args i∧nth c.args i < vars.length:=h.pl.2.2.2.2.1 _ (nth_mem h0 h1)
theorem CtE.cell (h:CtE u x y z xa ds rs vars c) (h0:0≤i) (h1:i < c.args.length):u.cell? ((elA xa i 1).add 0)=some (iV (nth c.args i))∧InI (nth c.args i):=(h.ra.src (.refl u)).int h0 h1
theorem c_neededBeside (h:CtE u x y z xa ds rs vars c) (h0:0≤n) (h1:n < c.args.length):Fn Tryz.prog 174 #[.agg #[x.val,y.val],.agg #[iV c.op,iV c.num,iV c.into,xa.val,xk.val],iV n] u (.bool (pB (∃ k:Int,0≤k∧k < c.args.length∧nbP (rs.map sgOf) c.op c.num c.args n k))):=by
  refine of174 _ _ _ _ _ _ _ _ _ _ ?_
  unfold vc174
  have han:=h.ra.n
  have hal:=h.ra.le
  refine ⟨fun k w=>u=w∧0≤k∧k≤c.args.length∧∀ j:Int,0≤j→j < k→¬ nbP (rs.map sgOf) c.op c.num c.args n j,fun k _=>(c.args.length - k).toNat,⟨rfl,by omega,by omega,fun j j0 j1=>by omega⟩,?_⟩
  rintro k _ ⟨rfl,k0,k1,hno⟩
  dsimp only
  refine ⟨fun hc=>?_,fun hc=>⟨?_,.refl u⟩⟩
  · simp only [bls] at hc
    have hkl:k < c.args.length:=by omega
    have hl:=c_lentAt (x:=x) (into:=c.into) (ax:=xa) (kx:=xk) (i:=k) h.ty.ry h.pl.2.2.2.2.2.1
    refine ⟨fun _=>h.ra.ix k0 hkl,_,fun _=>(h.cell k0 hkl).1,fun _=>h.ra.ix h0 h1,_,fun _=>(h.cell h0 h1).1,_,fun _ _=>hl,fun hc2=>⟨?_,.refl u⟩,fun hc2=>?_⟩
    · rw [pB_t]
      simp only [Bool.and_eq_true,Bool.or_eq_true,Bool.not_eq_true',decide_eq_true_eq,decide_eq_false_iff_not,pB_iff] at hc2
      exact ⟨k,k0,hkl,hc2.1.1,hc2.1.2,hc2.2⟩
    · refine go_wr (by omega) (by omega) ?_
      refine ⟨rfl,rfl,rfl,rfl,rfl,rfl,rfl,⟨rfl,by omega,by omega,fun j j0 j1=>?_⟩,by omega⟩
      by_cases hj:j < k
      · exact hno j j0 hj
      · have e:j=k:=by omega
        subst e
        rintro ⟨p1,p2,p3⟩
        have:(((!decide (j=n)) && (decide (nth c.args j=nth c.args n))) && ((decide (j > n)) || pB (lentAtB (rs.map sgOf) c.op c.num j)))=true:=by
          simp only [Bool.and_eq_true,Bool.or_eq_true,Bool.not_eq_true',decide_eq_true_eq,decide_eq_false_iff_not,pB_iff]
          exact ⟨⟨p1,p2⟩,p3⟩
        rw [this] at hc2
        cases hc2
  · simp only [bls] at hc
    rw [pB_f]
    rintro ⟨j,j0,j1,hj⟩
    exact hno j j0 (by omega) hj
theorem c_keepsAt (h:CtE u x y z xa ds rs vars c) (ho:Read u xo owned) (hl:Read u xl later) (h0:0≤n) (h1:n < c.args.length):∃ q,Fn Tryz.prog 166 #[.agg #[x.val,y.val],.agg #[iV c.op,iV c.num,iV c.into,xa.val,xk.val],iV n,xo.val,xl.val] u (.bool q):=by
  refine ⟨(decide (nth c.args n∈later) || (!decide (nth c.args n∈owned))) || pB (∃ k:Int,0≤k∧k < c.args.length∧nbP (rs.map sgOf) c.op c.num c.args n k),?_⟩
  refine of166 _ _ _ _ _ _ _ _ _ _ _ _ ?_
  unfold vc166
  have hc:=(h.cell h0 h1).1
  exact ⟨h.ra.ix h0 h1,_,hc,_,c_specIsIn hl,fun _=>h.ra.ix h0 h1,_,fun _=>hc,_,fun _=>c_specIsIn ho,_,fun _=>c_neededBeside h h0 h1,rfl,.refl u⟩
theorem c_isConsumedE (h:CtE u x y z xa ds rs vars c) (h0:0≤n) (h1:n < c.args.length):∃ q,Fn Tryz.prog 157 #[.agg #[x.val,y.val],z.val,.agg #[iV c.op,iV c.num,iV c.into,xa.val,xk.val],iV n] u (.bool q):=
  ⟨_,c_isConsumed h.ty.ry h.pl.2.2.2.2.2.1 h.ty.rz h.ra h0 h1 (h.arg h0 h1)⟩
theorem c_dupsBefore (h:CtE u x y z xa ds rs vars c) (ho:Read u xo owned) (hl:Read u xl later):Mk Tryz.prog 145 #[.agg #[x.val,y.val],z.val,.agg #[iV c.op,iV c.num,iV c.into,xa.val,xk.val],xo.val,xl.val] u fun r J=>∃ (t:Sl) (k:List Int),r=t.val∧Own u t k J∧k.length≤c.args.length:=by
  refine of145 _ _ _ _ _ _ _ _ _ _ _ _ ?_
  unfold vc145
  have han:=h.ra.n
  have hal:=h.ra.le
  refine st_own (α:=Int) (l:=[]) (.refl u) VsOf.nil rfl (by decide) fun y0 w0 J0 hs0 hS hO=>?_
  refine ⟨fun t i w=>∃ (J:Items) (k:List Int),St u w (J++[])∧Own u t k J∧(k.length:Int)≤i∧0≤i∧i≤c.args.length,fun _ i _=>(c.args.length - i).toNat,⟨J0,[],hS,hO,by simp,by omega,by omega⟩,?_⟩
  clear hS hO hs0
  rintro t i w ⟨J,k,hS,hO,hk,i0,i1⟩
  dsimp only
  refine ⟨fun hc=>?_,fun hc=>⟨J,by simpa using hS,t,k,rfl,hO,by omega⟩⟩
  simp only [bls] at hc
  have hil:i < c.args.length:=by omega
  have h':=h.mono hS.sub
  obtain ⟨q1,hq1⟩:=c_isConsumedE (xk:=xk) h' i0 hil
  obtain ⟨q2,hq2⟩:=c_keepsAt (xk:=xk) h' (ho.mono hS.sub) (hl.mono hS.sub) i0 hil
  refine ⟨q1,hq1,q2,fun _=>hq2,fun _=>?_,fun _=>?_⟩
  · obtain ⟨c1,c2⟩:=h'.cell i0 hil
    refine ⟨h.ra.ix i0 hil,_,c1,?_⟩
    refine st_push (α:=Int) hS hO (VOf.int c2) (by omega) (by decide) (by decide) fun z5 w5 J5 hS hO=>?_
    refine go_wr (by omega) (by omega) ?_
    exact ⟨rfl,rfl,rfl,rfl,rfl,rfl,rfl,⟨J5,_,hS,hO,by simp;omega,by omega,by omega⟩,by omega⟩
  · refine go_wr (by omega) (by omega) ?_
    exact ⟨rfl,rfl,rfl,rfl,rfl,rfl,rfl,⟨J,k,hS,hO,by omega,by omega,by omega⟩,by omega⟩
theorem c_leftAfter (h:CtE u x y z xa ds rs vars c) (ho:Read u xo owned) (hl:Read u xl later):Mk Tryz.prog 147 #[.agg #[x.val,y.val],z.val,.agg #[iV c.op,iV c.num,iV c.into,xa.val,xk.val],xo.val,xl.val] u fun r J=>∃ (t:Sl) (k:List Int),r=t.val∧Own u t k J∧k.length≤owned.length:=by
  refine of147 _ _ _ _ _ _ _ _ _ _ _ _ ?_
  unfold vc147
  have han:=h.ra.n
  have hal:=h.ra.le
  refine ⟨fun _=>?_,fun _=>?_⟩
  · refine Mk.use (c_common ho hl) (.refl u) ?_
    rintro _ w1 J1 ⟨t1,rfl,hO1⟩ hS hs1
    exact ⟨t1,rfl,J1,by simpa using hS,t1,_,rfl,hO1,List.length_filter_le _ _⟩
  · refine Mk.use (c_copyInts ho) (.refl u) ?_
    rintro _ w1 J1 ⟨t1,rfl,hO1⟩ hS hs1
    refine ⟨t1,rfl,?_⟩
    refine ⟨fun t i w=>∃ (J:Items) (k:List Int),St u w (J++[])∧Own u t k J∧k.length≤owned.length∧0≤i∧i≤c.args.length,fun _ i _=>(c.args.length - i).toNat,⟨J1,owned,hS,hO1,by omega,by omega,by omega⟩,?_⟩
    clear hS hO1 hs1
    rintro t i w ⟨J,k,hS,hO,hk,i0,i1⟩
    dsimp only
    refine ⟨fun hc=>?_,fun hc=>⟨J,by simpa using hS,t,k,rfl,hO,by omega⟩⟩
    simp only [bls] at hc
    have hil:i < c.args.length:=by omega
    have h':=h.mono hS.sub
    obtain ⟨q1,hq1⟩:=c_isConsumedE (xk:=xk) h' i0 hil
    obtain ⟨q2,hq2⟩:=c_keepsAt (xk:=xk) h' (ho.mono hS.sub) (hl.mono hS.sub) i0 hil
    refine ⟨q1,hq1,q2,fun _=>hq2,fun _=>?_,fun _=>?_⟩
    · obtain ⟨c1,c2⟩:=h'.cell i0 hil
      refine ⟨h.ra.ix i0 hil,_,c1,?_⟩
      refine Mk.usew (c_without (hO.read hS)) hS ?_
      rintro _ w5 J5 ⟨t5,rfl,hO5⟩ hS hs5
      refine ⟨t5,rfl,?_⟩
      refine go_wr (by omega) (by omega) ?_
      have hf:=List.length_filter_le (fun j=>decide (j≠nth c.args i)) k
      exact ⟨rfl,rfl,rfl,rfl,rfl,rfl,rfl,⟨J5,_,hS.to,hO5.ofInts,Nat.le_trans hf hk,by omega,by omega⟩,by omega⟩
    · refine go_wr (by omega) (by omega) ?_
      exact ⟨rfl,rfl,rfl,rfl,rfl,rfl,rfl,⟨J,k,hS,hO,by omega,by omega,by omega⟩,by omega⟩
theorem c_lentDrops (h:CtE u x y z xa ds rs vars c) (ho:Read u xo owned) (hl:Read u xl later):Mk Tryz.prog 148 #[.agg #[x.val,y.val],.agg #[iV c.op,iV c.num,iV c.into,xa.val,xk.val],xo.val,xl.val] u fun r J=>∃ (t:Sl) (k:List Int),r=t.val∧Own u t k J∧k.length≤c.args.length:=by
  refine of148 _ _ _ _ _ _ _ _ _ _ _ ?_
  unfold vc148
  have han:=h.ra.n
  have hal:=h.ra.le
  have ha5:=h.pl.1
  refine st_own (α:=Int) (l:=[]) (.refl u) VsOf.nil rfl (by decide) fun y0 w0 J0 hs0 hS hO=>?_
  refine ⟨fun t i w=>∃ (J:Items) (k:List Int),St u w (J++[])∧Own u t k J∧k.Pairwise (· < ·)∧(k.length:Int)≤i∧0≤i∧i≤c.args.length,fun _ i _=>(c.args.length - i).toNat,⟨J0,[],hS,hO,.nil,by simp,by omega,by omega⟩,?_⟩
  clear hS hO hs0
  rintro t i w ⟨J,k,hS,hO,hp,hk,i0,i1⟩
  dsimp only
  refine ⟨fun hc=>?_,fun hc=>⟨J,by simpa using hS,t,k,rfl,hO,by omega⟩⟩
  simp only [bls] at hc
  have hil:i < c.args.length:=by omega
  have h':=h.mono hS.sub
  obtain ⟨c1,c2⟩:=h'.cell i0 hil
  have hix:=h.ra.ix i0 hil
  refine ⟨_,c_lentAt h'.ty.ry h.pl.2.2.2.2.2.1,fun _=>hix,_,fun _=>c1,_,fun _=>c_specIsIn (ho.mono hS.sub),fun _=>hix,_,fun _=>c1,_,fun _=>c_specIsIn (hl.mono hS.sub),fun _=>⟨hix,_,c1,?_⟩,fun _=>?_⟩
  · refine Mk.usew (c_insert (hO.read hS) hp c2 (by omega)) hS ?_
    rintro _ w5 J5 ⟨t5,l5,rfl,hO5,hp5,_,hl5⟩ hS hs5
    refine ⟨t5,rfl,?_⟩
    refine go_wr (by omega) (by omega) ?_
    exact ⟨rfl,rfl,rfl,rfl,rfl,rfl,rfl,⟨J5,l5,hS.to,hO5.ofInts,hp5,by omega,by omega,by omega⟩,by omega⟩
  · refine go_wr (by omega) (by omega) ?_
    exact ⟨rfl,rfl,rfl,rfl,rfl,rfl,rfl,⟨J,k,hS,hO,hp,by omega,by omega,by omega⟩,by omega⟩
theorem c_unionM (hx:Read u x l) (hy:Read u y k) (hl:Asc n l) (hk:Asc n k) (hm:0≤n) (hm2:n≤1000000000):Mk Tryz.prog 144 #[x.val,y.val] u fun r J=>∃ (z:Sl) (l':List Int),r=z.val∧Own u z l' J∧Asc n l':=by
  refine of144 _ _ _ _ ?_
  unfold vc144
  have hyn:=hy.n
  have hyl:=hk.len hm
  refine Mk.use (c_copyInts hx) (.refl u) ?_
  rintro _ w0 J0 ⟨z0,rfl,hz0⟩ hS hs0
  refine ⟨z0,rfl,?_⟩
  refine ⟨fun z i w=>∃ (J:Items) (l':List Int),St u w (J++[])∧Own u z l' J∧Asc n l'∧0≤i∧i≤k.length,fun _ i _=>(k.length - i).toNat,⟨J0,l,hS,hz0,hl,by omega,by omega⟩,?_⟩
  clear hS hz0 hs0
  rintro z i w ⟨J,l',hS,hO,ha,i0,i1⟩
  dsimp only
  refine ⟨fun hc=>?_,fun hc=>⟨J,by simpa using hS,z,l',rfl,hO,ha⟩⟩
  simp only [bls] at hc
  have hil:i < k.length:=by omega
  refine go_ix hy i0 hil ?_
  refine ⟨_,((hy.src hS.sub).int i0 hil).1,?_⟩
  have hb:=hk.2 _ (nth_mem i0 hil)
  refine Mk.usew (c_insertA (hO.read hS) ha hb.1 hb.2 hm2) hS ?_
  rintro _ w2 J2 ⟨z2,l2,rfl,hO2,ha2⟩ hS hs2
  refine ⟨z2,rfl,?_⟩
  refine go_wr (by omega) (by omega) ?_
  exact ⟨⟨J2,l2,hS.to,hO2.ofInts,ha2,by omega,by omega⟩,by omega⟩
end
abbrev NC:Nat:=60000000
theorem VrG.here {u w:World} {R:Items} {z:Sl} {vars:List Int} (h:VrG u R z vars) {I:Items} (hS:St u w (I++R)):Read w z vars:=(h u w I (.refl u) hS).rd hS.sub
theorem VrG.here0 {u w:World} {R:Items} {z:Sl} {vars:List Int} (h:VrG u R z vars) (hS:St u w R):Read w z vars:=VrG.here (I:=[]) h hS
def CbP (ds:List DeclD) (rs:List RoutD) (b:BlockD):Prop:=∀ (u w:World) (R:Items) (x y z xs xo xl:Sl) (vars owned after:List Int) (d:Nat),St u w R→Read u x ds→typesOk ds→Read u y rs→PlB ds rs.length d vars.length b→d≤5000→vars.length+4 * d≤30000→Read u xs b.steps→VrG u R z vars→VrG u R xo owned→owned.length≤vars.length→VrG u R xl after→Asc vars.length after→
  Trip Tryz.prog 111 #[.agg #[x.val,y.val],z.val,.agg #[xs.val,iV b.result],xo.val,xl.val] w fun r w'=>∃ (u':World) (y':Sl) (l:List StepD),r=.agg #[y'.val,iV b.result]∧Sub u u'∧St u' w' R∧Read u' y' l∧l.length≤50050000∧∀ s∈l,ShS ds NC d s
section
variable {u u' w:World} {x y z s xa xk xo xl xf:Sl} {ds:List DeclD} {rs:List RoutD} {I J R:Items} {n op num into result nf i:Int} {m d:Nat} {l k args vars owned later fields:List Int} {kids:List BlockD} {steps:List StepD} {b:BlockD} {c:StepD}
theorem ShA.ctg {q:Int} (hq:q≠8):ShA ds ⟨q,0,0,[n],[]⟩:=⟨by show 1≤5000;omega,Nat.zero_le _,fun _ _=>Nat.le_refl 1,fun h=>absurd h hq⟩
theorem sh_ctg {N:Nat} {q:Int} (hq:q≠8) {s:StepD} (h:s∈ctgS q l):ShS ds N d s:=by
  unfold ctgS at h
  obtain ⟨n,hn,rfl⟩:=List.mem_map.1 h
  exact ⟨ShA.ctg hq,fun k hk=>by cases hk⟩
theorem ctg_len {q:Int}:(ctgS q l).length=l.length:=by simp [ctgS]
theorem PlA.sh {s:StepD} (h:PlA ds nf m s):ShA ds s:=⟨h.1,h.2.1,fun h1 h2=>by have:=h.2.2.2.1;omega,h.2.2.2.2.2.2⟩
theorem c_countKidH (H:CbP ds rs b) (hS:St u w R) (hx:Read u x ds) (ht:typesOk ds) (hy:Read u y rs) (hP:PlB ds rs.length d (vars.length+fields.length) b) (hd:d≤5000) (hb:vars.length+fields.length+4 * d≤30000) (hf3:fields.length≤3) (hk:Read u xk b.steps) (hz:VrG u R z vars) (hf:Read u xf fields) (ho:VrG u R xo owned) (hol:owned.length≤vars.length) (hl:VrG u R xl later) (hla:Asc ((vars.length+1:Nat):Int) later):
    Trip Tryz.prog 167 #[.agg #[x.val,y.val],z.val,xf.val,.agg #[xk.val,iV b.result],xo.val,xl.val] w fun r w'=>∃ (u':World) (y':Sl) (l:List StepD),r=.agg #[y'.val,iV b.result]∧Sub u u'∧St u' w' R∧Read u' y' l∧l.length≤60000000∧∀ s∈l,ShS ds NC d s:=by
  refine of167 _ _ _ _ _ _ _ _ _ _ ?_
  unfold vc167
  have hfn:=hf.n
  have hzr:=hz.here0 hS
  have hzn:=hzr.n
  have hor:=ho.here0 hS
  have hon:=hor.n
  refine Mk.usew (c_extend hzr (hf.mono hS.sub) (by omega)) hS ?_
  rintro _ w1 J1 ⟨x3,rfl,hO3⟩ hS hs1
  have hO3:Own u x3 (vars++fields) J1:=hO3.ofInts
  obtain ⟨u1,hu1,hS,hJ⟩:=hS.freeze J1
  have hx3:=hO3.read1 hJ
  have hx3n:=hx3.n
  refine ⟨x3,rfl,?_⟩
  rw [List.length_append] at hx3n
  refine (c_usedIn (b:=b) (n:=(x3.n:Int)) (hk.mono hu1) (by omega)).use hS ?_
  rintro _ w2 u2 hu2 hs2 hS ⟨xu,used,rfl,hxu,hau⟩
  refine ⟨xu,rfl,?_⟩
  refine st_own (α:=Int) (l:=[]) hS VsOf.nil rfl (by decide) fun ym w3 Km hs3 hS hOm=>?_
  refine st_own (α:=Int) (l:=[]) hS VsOf.nil rfl (by decide) fun yd w4 Kd hs4 hS hOd=>?_
  have hU2:=hu1.trans hu2
  refine ⟨fun xm xd i w=>∃ (Km Kd:Items) (mine drops:List Int),St u2 w (Km++(Kd++R))∧Own u2 xm mine Km∧Own u2 xd drops Kd∧((mine.length+drops.length:Nat):Int)=i∧0≤i∧i≤owned.length,fun _ _ i _=>(owned.length - i).toNat,⟨Km,Kd,[],[],hS.to,hOm,hOd,by simp,by omega,by omega⟩,?_⟩
  clear hS hOm hOd hs3 hs4
  rintro xm xd i w4 ⟨Km,Kd,mine,drops,hS,hOm,hOd,hlen,i0,i1⟩
  dsimp only
  have hor:Read w4 xo owned:=(ho.mono hU2).here (I:=Km++Kd) (by rw [List.append_assoc];exact hS)
  refine ⟨fun hc=>?_,fun hc=>?_⟩
  · simp only [bls] at hc
    have hil:i < owned.length:=by omega
    obtain ⟨c1,c2⟩:=(hor.src (.refl w4)).int i0 hil
    have hix:=hor.ix i0 hil
    have hlr:Read w4 xl later:=(hl.mono hU2).here (I:=Km++Kd) (by rw [List.append_assoc];exact hS)
    refine ⟨hix,_,c1,_,c_specIsIn (hxu.mono hS.sub),fun _=>hix,_,fun _=>c1,_,fun _=>c_specIsIn hlr,fun _=>⟨hix,_,c1,?_⟩,fun _=>⟨hix,_,c1,?_⟩⟩
    · refine st_push (α:=Int) hS hOm (VOf.int c2) (by omega) (by decide) (by decide) fun z5 w5 J5 hS hOm=>?_
      refine go_wr (by omega) (by omega) ?_
      exact ⟨rfl,rfl,rfl,rfl,rfl,rfl,⟨J5,Kd,_,drops,hS,hOm,hOd,by simp;omega,by omega,by omega⟩,by omega⟩
    · refine st_push (α:=Int) (R:=Km++R) hS.to hOd (VOf.int c2) (by omega) (by decide) (by decide) fun z5 w5 J5 hS hOd=>?_
      refine go_wr (by omega) (by omega) ?_
      exact ⟨rfl,rfl,rfl,rfl,rfl,rfl,⟨Km,J5,mine,_,hS.to,hOm,hOd,by simp;omega,by omega,by omega⟩,by omega⟩
  · simp only [bls] at hc
    refine st_own (α:=Int) (l:=[]) hS VsOf.nil rfl (by decide) fun yp w5 Kp hs5 hS hOp=>?_
    refine ⟨fun xp j w=>∃ (Kp:Items) (dups:List Int),St u2 w (Kp++(Km++(Kd++R)))∧Own u2 xp dups Kp∧(dups.length:Int)≤j∧0≤j∧j≤fields.length,fun _ j _=>(fields.length - j).toNat,⟨Kp,[],hS,hOp,by simp,by omega,by omega⟩,?_⟩
    clear hS hOp hs5 hor
    rintro xp j w5 ⟨Kp,dups,hS,hOp,hdl,j0,j1⟩
    dsimp only
    refine ⟨fun hc2=>?_,fun hc2=>?_⟩
    · simp only [bls] at hc2
      have hjl:j < fields.length:=by omega
      obtain ⟨c1,c2⟩:=((hf.mono hU2).src hS.sub).int j0 hjl
      refine ⟨hf.ix j0 hjl,_,c1,?_⟩
      refine go_wrg (fun hg=>⟨by omega,by omega⟩) ?_
      refine ⟨_,fun _=>c_specIsIn (hxu.mono hS.sub),fun _=>?_,fun _=>?_⟩
      · refine go_wr (by omega) (by omega) ?_
        refine st_push (α:=Int) hS hOp (VOf.int ⟨by omega,by omega⟩) (by omega) (by decide) (by decide) fun z6 w6 J6 hS hOp=>?_
        refine go_wr (by omega) (by omega) ?_
        exact ⟨rfl,rfl,rfl,rfl,rfl,rfl,⟨J6,_,hS,hOp,by simp;omega,by omega,by omega⟩,by omega⟩
      · refine go_wr (by omega) (by omega) ?_
        exact ⟨rfl,rfl,rfl,rfl,rfl,rfl,⟨Kp,dups,hS,hOp,by omega,by omega,by omega⟩,by omega⟩
    · simp only [bls] at hc2
      obtain ⟨u3,hu3,hS,hJp⟩:=hS.freeze Kp
      have hrp:=hOp.read1 hJp
      have hS:St u3 w5 (Kd++(Km++R)):=hS.to
      obtain ⟨u4,hu4,hS,hJd⟩:=hS.freeze Kd
      have hrd:=(hOd.mono hu3).read1 hJd
      refine (c_countings (in64_in rfl) (hrp.mono hu4)).use hS ?_
      rintro _ w6 u6 J6 hu6 hs6 hS ⟨y6,rfl,hO6⟩
      refine ⟨y6,rfl,?_⟩
      refine (c_countings (in64_in rfl) (hrd.mono hu6)).use hS ?_
      rintro _ w7 u5 J7 hu7 hs7 hS ⟨y7,rfl,hO7⟩
      refine ⟨y7,rfl,?_⟩
      have h35:=hu4.trans (hu6.trans hu7)
      have hU5:=hU2.trans (hu3.trans h35)
      have hx3':=hx3.mono (hu2.trans (hu3.trans h35))
      have hrp5:=hrp.mono h35
      have hOm5:=hOm.mono (hu3.trans h35)
      refine Own.append (hO6.mono hu7) hS (Own.src hO7 hS) (by rw [ctg_len,ctg_len];omega) (by decide) fun ys w8 Js hOs hS=>⟨ys,rfl,?_⟩
      have hS:St u5 w8 (Km++(Js++R)):=hS.to
      refine ⟨?_,?_⟩
      · refine Own.append hOm5 hS (hrp5.src hS.sub) (by omega) (by decide) fun xm w8 Jm hOm hS=>⟨xm,rfl,?_,?_⟩
        · have hlr:Read w8 xl later:=(hl.mono hU5).here (I:=Jm++Js) (by rw [List.append_assoc];exact hS)
          refine Mk.usew (c_below (n:=(z.n:Int)) hlr) hS ?_
          rintro _ w9 Jb ⟨xb,rfl,hOb⟩ hS hs9
          refine ⟨xb,rfl,?_,?_⟩
          · refine (H u5 w9 (Jb++(Jm++(Js++R))) x y x3 xk xm xb (vars++fields) (mine++dups) (later.filter fun i=>decide (i < (z.n:Int))) d hS (hx.mono hU5) ht (hy.mono hU5) (by rw [List.length_append];exact hP) hd (by rw [List.length_append];omega) (hk.mono hU5) (.of hx3') (fun u' w' I' hs' hS'=>(hOm.mono hs').src hS') (by rw [List.length_append,List.length_append];omega) (fun u' w' I' hs' hS'=>(hOb.ofInts (u':=u')).src hS') (by
              rw [List.length_append]
              refine Asc.mono (n:=(vars.length:Int)) ⟨hla.1.sublist List.filter_sublist,fun q hq=>?_⟩ (by omega)
              have h1:=List.mem_filter.1 hq
              exact ⟨(hla.2 q h1.1).1,by have:=of_decide_eq_true h1.2;omega⟩)).mono' ?_
            rintro _ w10 ⟨u10,yB,lB,rfl,hu10,hS,hyB,hlB,hsB⟩
            refine ⟨yB,_,rfl,?_⟩
            have hS:St u10 w10 (Js++R):=hS.to
            refine Own.append (hOs.mono hu10) hS (hyB.src hS.sub) (by rw [List.length_append,ctg_len,ctg_len];omega) (by decide) fun y11 w11 J11 hO11 hS11=>⟨y11,rfl,?_⟩
            obtain ⟨u12,hu12,hS12,hJ12⟩:=hS11.freeze J11
            refine ⟨u12,y11,_,rfl,hU5.trans (hu10.trans hu12),hS12,hO11.read1 hJ12,?_,?_⟩
            · rw [List.length_append,List.length_append,ctg_len,ctg_len]
              omega
            · intro s hs
              rcases List.mem_append.1 hs with hs|hs
              · rcases List.mem_append.1 hs with hs|hs
                · exact sh_ctg (by decide) hs
                · exact sh_ctg (by decide) hs
              · exact hsB s hs
          · refine (H u5 w9 (Jb++(Jm++(Js++R))) x y x3 xk xm xb (vars++fields) (mine++dups) (later.filter fun i=>decide (i < (z.n:Int))) d hS (hx.mono hU5) ht (hy.mono hU5) (by rw [List.length_append];exact hP) hd (by rw [List.length_append];omega) (hk.mono hU5) (.of hx3') (fun u' w' I' hs' hS'=>(hOm.mono hs').src hS') (by rw [List.length_append,List.length_append];omega) (fun u' w' I' hs' hS'=>(hOb.ofInts (u':=u')).src hS') (by
              rw [List.length_append]
              refine Asc.mono (n:=(vars.length:Int)) ⟨hla.1.sublist List.filter_sublist,fun q hq=>?_⟩ (by omega)
              have h1:=List.mem_filter.1 hq
              exact ⟨(hla.2 q h1.1).1,by have:=of_decide_eq_true h1.2;omega⟩)).mono' ?_
            rintro _ w10 ⟨u10,yB,lB,rfl,hu10,hS,hyB,hlB,hsB⟩
            refine ⟨yB,_,rfl,?_⟩
            have hS:St u10 w10 (Js++R):=hS.to
            refine Own.append (hOs.mono hu10) hS (hyB.src hS.sub) (by rw [List.length_append,ctg_len,ctg_len];omega) (by decide) fun y11 w11 J11 hO11 hS11=>⟨y11,rfl,?_⟩
            obtain ⟨u12,hu12,hS12,hJ12⟩:=hS11.freeze J11
            refine ⟨u12,y11,_,rfl,hU5.trans (hu10.trans hu12),hS12,hO11.read1 hJ12,?_,?_⟩
            · rw [List.length_append,List.length_append,ctg_len,ctg_len]
              omega
            · intro s hs
              rcases List.mem_append.1 hs with hs|hs
              · rcases List.mem_append.1 hs with hs|hs
                · exact sh_ctg (by decide) hs
                · exact sh_ctg (by decide) hs
              · exact hsB s hs
        · have hlr:Read w8 xl later:=(hl.mono hU5).here (I:=Jm++Js) (by rw [List.append_assoc];exact hS)
          refine Mk.usew (c_below (n:=(z.n:Int)) hlr) hS ?_
          rintro _ w9 Jb ⟨xb,rfl,hOb⟩ hS hs9
          refine ⟨xb,rfl,?_⟩
          refine (H u5 w9 (Jb++(Jm++(Js++R))) x y x3 xk xm xb (vars++fields) (mine++dups) (later.filter fun i=>decide (i < (z.n:Int))) d hS (hx.mono hU5) ht (hy.mono hU5) (by rw [List.length_append];exact hP) hd (by rw [List.length_append];omega) (hk.mono hU5) (.of hx3') (fun u' w' I' hs' hS'=>(hOm.mono hs').src hS') (by rw [List.length_append,List.length_append];omega) (fun u' w' I' hs' hS'=>(hOb.ofInts (u':=u')).src hS') (by
            rw [List.length_append]
            refine Asc.mono (n:=(vars.length:Int)) ⟨hla.1.sublist List.filter_sublist,fun q hq=>?_⟩ (by omega)
            have h1:=List.mem_filter.1 hq
            exact ⟨(hla.2 q h1.1).1,by have:=of_decide_eq_true h1.2;omega⟩)).mono' ?_
          rintro _ w10 ⟨u10,yB,lB,rfl,hu10,hS,hyB,hlB,hsB⟩
          refine ⟨yB,_,rfl,?_⟩
          have hS:St u10 w10 (Js++R):=hS.to
          refine Own.append (hOs.mono hu10) hS (hyB.src hS.sub) (by rw [List.length_append,ctg_len,ctg_len];omega) (by decide) fun y11 w11 J11 hO11 hS11=>⟨y11,rfl,?_⟩
          obtain ⟨u12,hu12,hS12,hJ12⟩:=hS11.freeze J11
          refine ⟨u12,y11,_,rfl,hU5.trans (hu10.trans hu12),hS12,hO11.read1 hJ12,?_,?_⟩
          · rw [List.length_append,List.length_append,ctg_len,ctg_len]
            omega
          · intro s hs
            rcases List.mem_append.1 hs with hs|hs
            · rcases List.mem_append.1 hs with hs|hs
              · exact sh_ctg (by decide) hs
              · exact sh_ctg (by decide) hs
            · exact hsB s hs
      · refine Own.append hOm5 hS (hrp5.src hS.sub) (by omega) (by decide) fun xm w8 Jm hOm hS=>⟨xm,rfl,?_⟩
        have hlr:Read w8 xl later:=(hl.mono hU5).here (I:=Jm++Js) (by rw [List.append_assoc];exact hS)
        refine Mk.usew (c_below (n:=(z.n:Int)) hlr) hS ?_
        rintro _ w9 Jb ⟨xb,rfl,hOb⟩ hS hs9
        refine ⟨xb,rfl,?_⟩
        refine (H u5 w9 (Jb++(Jm++(Js++R))) x y x3 xk xm xb (vars++fields) (mine++dups) (later.filter fun i=>decide (i < (z.n:Int))) d hS (hx.mono hU5) ht (hy.mono hU5) (by rw [List.length_append];exact hP) hd (by rw [List.length_append];omega) (hk.mono hU5) (.of hx3') (fun u' w' I' hs' hS'=>(hOm.mono hs').src hS') (by rw [List.length_append,List.length_append];omega) (fun u' w' I' hs' hS'=>(hOb.ofInts (u':=u')).src hS') (by
          rw [List.length_append]
          refine Asc.mono (n:=(vars.length:Int)) ⟨hla.1.sublist List.filter_sublist,fun q hq=>?_⟩ (by omega)
          have h1:=List.mem_filter.1 hq
          exact ⟨(hla.2 q h1.1).1,by have:=of_decide_eq_true h1.2;omega⟩)).mono' ?_
        rintro _ w10 ⟨u10,yB,lB,rfl,hu10,hS,hyB,hlB,hsB⟩
        refine ⟨yB,_,rfl,?_⟩
        have hS:St u10 w10 (Js++R):=hS.to
        refine Own.append (hOs.mono hu10) hS (hyB.src hS.sub) (by rw [List.length_append,ctg_len,ctg_len];omega) (by decide) fun y11 w11 J11 hO11 hS11=>⟨y11,rfl,?_⟩
        obtain ⟨u12,hu12,hS12,hJ12⟩:=hS11.freeze J11
        refine ⟨u12,y11,_,rfl,hU5.trans (hu10.trans hu12),hS12,hO11.read1 hJ12,?_,?_⟩
        · rw [List.length_append,List.length_append,ctg_len,ctg_len]
          omega
        · intro s hs
          rcases List.mem_append.1 hs with hs|hs
          · rcases List.mem_append.1 hs with hs|hs
            · exact sh_ctg (by decide) hs
            · exact sh_ctg (by decide) hs
          · exact hsB s hs
theorem c_countStepH (H:∀ k∈c.kids,CbP ds rs k) (hS:St u w R) (hx:Read u x ds) (ht:typesOk ds) (hy:Read u y rs) (hA:PlA ds rs.length vars.length c) (hK:∀ i:Nat,∀ k:BlockD,c.kids[i]?=some k→PlB ds rs.length d (armV ds c vars.length i) k) (hd:d≤5000) (hb:vars.length+3+4 * d≤30000) (hi:InI c.num) (ha:Read u xa c.args) (hk:Read u xk c.kids) (hz:VrG u R z vars) (ho:VrG u R xo owned) (hol:owned.length≤vars.length) (hl:VrG u R xl later) (hla:Asc ((vars.length+1:Nat):Int) later):
    Trip Tryz.prog 146 #[.agg #[x.val,y.val],z.val,.agg #[iV c.op,iV c.num,iV c.into,xa.val,xk.val],xo.val,xl.val] w fun r w'=>∃ (u':World) (ya yk:Sl) (ks:List BlockD),r=.agg #[iV c.op,iV c.num,iV 0,ya.val,yk.val]∧Sub u u'∧St u' w' R∧Read u' ya c.args∧Read u' yk ks∧ks.length=c.kids.length∧∀ k∈ks,ShB ds NC (d+1) k:=by
  refine of146 _ _ _ _ _ _ _ _ _ _ _ _ ?_
  unfold vc146
  have hkn:=hk.n
  have hkl:=hk.le
  refine st_own (α:=BlockD) (l:=[]) hS VsOf.nil rfl (by decide) fun y0 w0 J0 hs0 hS hO=>?_
  refine (Mk.fz (c_consOfB hx ht.sm hi)).use hS ?_
  rintro _ w1 u1 hu1 hs1 hS ⟨zc,rfl,hzc⟩
  have hcn:=hzc.n
  refine ⟨zc,rfl,?_⟩
  refine ⟨fun t i w=>∃ (u2:World) (J:Items) (ks:List BlockD),Sub u1 u2∧St u2 w (J++R)∧Own u2 t ks J∧(ks.length:Int)=i∧(∀ k∈ks,ShB ds NC (d+1) k)∧0≤i∧i≤c.kids.length,fun _ i _=>(c.kids.length - i).toNat,⟨u1,J0,[],.refl u1,hS,hO.mono hu1,by simp,by simp,by omega,by omega⟩,?_⟩
  clear hS hO hs0 hs1
  rintro t i w ⟨u2,J,ks,hu2,hS,hO,hlen,hks,i0,i1⟩
  dsimp only
  have hU:=hu1.trans hu2
  refine ⟨fun hc=>?_,fun hc=>?_⟩
  · simp only [bls] at hc
    have hil:i < c.kids.length:=by omega
    have hPi:=hK i.toNat _ (nth_get i0 hil)
    refine st_bld (α:=Int) (l:=[]) hS VsOf.nil rfl (by decide) fun x3 w3 u3 hu3 hs3 hS hx3=>?_
    refine ⟨fun h8=>?_,fun h8=>?_⟩
    · simp only [bls] at h8
      have hmat:=hA.2.2.2.2.2.2 h8
      have hic:i < (consL ds c.num).length:=by omega
      have hzc3:=(hzc.mono hu2).mono hu3
      have hPi:PlB ds rs.length d (vars.length+(conF ds (nth (consL ds c.num) (i.toNat:Int))).length) (nth c.kids i):=by
        unfold armV at hPi
        rw [if_pos h8] at hPi
        exact hPi
      rw [show ((i.toNat:Nat):Int)=i by omega] at hPi
      have hc3:=conF_len3 ht (nth (consL ds c.num) i)
      obtain ⟨c1,c2⟩:=(hzc3.src hS.sub).int i0 hic
      refine ⟨hzc3.ix i0 hic,_,c1,?_⟩
      refine (c_conFieldsZ ((hx.mono hU).mono hu3) ht.sm c2).use hS ?_
      rintro _ w4 u4 hu4 hs4 hS ⟨z4,rfl,hz4⟩
      have hV:=hU.trans (hu3.trans hu4)
      obtain ⟨f1,a1,a2,r1,hf1⟩:=((hk.mono hV).src hS.sub).ofBlockD i0 hil
      refine ⟨z4,rfl,hk.ix i0 hil,f1,_,⟨a1,a2⟩,?_⟩
      refine (c_countKidH (H _ (nth_mem i0 hil)) hS (hx.mono hV) ht (hy.mono hV) hPi hd (by omega) hc3 hf1 ((hz.mono hV).app J) hz4 ((ho.mono hV).app J) hol ((hl.mono hV).app J) hla).mono' ?_
      rintro _ w5 ⟨u5,y5,l5,rfl,hu5,hS,hy5,hl5,hs5⟩
      refine ⟨y5,_,rfl,?_⟩
      have hW:=hV.trans hu5
      refine st_push (α:=BlockD) hS (hO.mono ((hu3.trans hu4).trans hu5)) (vofB r1 hy5) (by omega) (by decide) (by decide) fun y6 w6 J6 hS hO=>?_
      refine go_wr (by omega) (by omega) ?_
      refine ⟨rfl,rfl,rfl,rfl,rfl,rfl,rfl,rfl,rfl,rfl,rfl,rfl,⟨u5,J6,_,hu2.trans ((hu3.trans hu4).trans hu5),hS,hO,by simp;omega,?_,by omega,by omega⟩,by omega⟩
      intro k hk'
      rcases List.mem_append.1 hk' with hk'|hk'
      · exact hks k hk'
      · rw [List.mem_singleton.1 hk']
        exact ⟨hl5,hs5⟩
    · simp only [bls] at h8
      have hPi:PlB ds rs.length d (vars.length+([]:List Int).length) (nth c.kids i):=by
        unfold armV at hPi
        rw [if_neg h8] at hPi
        exact hPi
      have hV:=hU.trans hu3
      obtain ⟨f1,a1,a2,r1,hf1⟩:=((hk.mono hV).src hS.sub).ofBlockD i0 hil
      refine ⟨hk.ix i0 hil,f1,_,⟨a1,a2⟩,?_⟩
      refine (c_countKidH (H _ (nth_mem i0 hil)) hS (hx.mono hV) ht (hy.mono hV) hPi hd (by simp;omega) (by simp) hf1 ((hz.mono hV).app J) hx3 ((ho.mono hV).app J) hol ((hl.mono hV).app J) hla).mono' ?_
      rintro _ w5 ⟨u5,y5,l5,rfl,hu5,hS,hy5,hl5,hs5⟩
      refine ⟨y5,_,rfl,?_⟩
      have hW:=hV.trans hu5
      refine st_push (α:=BlockD) hS (hO.mono (hu3.trans hu5)) (vofB r1 hy5) (by omega) (by decide) (by decide) fun y6 w6 J6 hS hO=>?_
      refine go_wr (by omega) (by omega) ?_
      refine ⟨rfl,rfl,rfl,rfl,rfl,rfl,rfl,rfl,rfl,rfl,rfl,rfl,⟨u5,J6,_,hu2.trans (hu3.trans hu5),hS,hO,by simp;omega,?_,by omega,by omega⟩,by omega⟩
      intro k hk'
      rcases List.mem_append.1 hk' with hk'|hk'
      · exact hks k hk'
      · rw [List.mem_singleton.1 hk']
        exact ⟨hl5,hs5⟩
  · simp only [bls] at hc
    obtain ⟨u3,hu3,hS,hJ⟩:=hS.freeze J
    refine (Mk.fz (c_copyInts ((ha.mono hU).mono hu3))).use hS ?_
    rintro _ w4 u4 hu4 hs4 hS ⟨y4,rfl,hy4⟩
    exact ⟨y4,rfl,hs4,u4,y4,t,ks,rfl,hU.trans (hu3.trans hu4),hS,hy4,(hO.read1 hJ).mono hu4,by omega,hks⟩
end
def RSh (ds:List DeclD) (r:RoutD):Prop:=ShB ds NC 5001 r.body∧r.lent.length≤3
section
variable {u u' w:World} {x y z s f xk xs xo xl:Sl} {ds:List DeclD} {rs:List RoutD} {I J R:Items} {n op num result i:Int} {d:Nat} {l k args vars owned later:List Int} {steps sts:List StepD} {b:BlockD} {c:StepD}
set_option maxRecDepth 4000 in
theorem c_countBlock (b:BlockD):CbP ds rs b:=by
  refine blk_ind (P:=CbP ds rs) (fun b H=>?_) b
  intro u w R x y z xs xo xl vars owned after d hS hx ht hy hP hd hb hxs hz ho hol hl hla
  refine of111e _ _ _ _ _ _ _ _ _ ?_
  unfold vc111e
  have hxn:=hxs.n
  have hxl:=hxs.le
  have hPl:=hP.1.len
  refine st_own (α:=StepD) (l:=[]) hS VsOf.nil rfl (by decide) fun y0 w0 Js hs0 hS hOs=>?_
  refine Mk.usew (c_copyInts (hz.here hS)) hS ?_
  rintro _ w1 Ji ⟨x1,rfl,hOi⟩ hS hs1
  refine ⟨x1,rfl,?_⟩
  refine Mk.usew (c_copyInts (ho.here (I:=Ji++Js) (by rw [List.append_assoc];exact hS))) hS ?_
  rintro _ w2 Jm ⟨x2,rfl,hOm⟩ hS hs2
  refine ⟨x2,rfl,?_⟩
  refine ⟨fun xs' xi xm i w=>∃ (u1:World) (Js Ji Jm:Items) (sts:List StepD) (inner mine:List Int),Sub u u1∧St u1 w (Js++(Ji++(Jm++R)))∧Own u1 xs' sts Js∧Own u1 xi inner Ji∧Own u1 xm mine Jm∧(sts.length:Int)≤10004 * i∧inner.length=vars.length+i.toNat∧mine.length≤inner.length∧(∀ s∈sts,ShS ds NC d s)∧0≤i∧i≤b.steps.length,fun _ _ _ i _=>(b.steps.length - i).toNat,⟨u,Js,Ji,Jm,[],vars,owned,.refl u,hS.to,hOs,hOi.ofInts,hOm.ofInts,by simp,by simp,hol,by simp,by omega,by omega⟩,?_⟩
  clear hS hOs hOi hOm hs0 hs1 hs2
  rintro x12 x13 x14 i w ⟨u1,Js,Ji,Jm,sts,inner,mine,hU,hS,hOs,hOi,hOm,hsl,hil,hml,hss,i0,i1⟩
  dsimp only
  refine ⟨fun hc=>?_,fun hc=>?_⟩
  · simp only [bls] at hc
    have hlt:i < b.steps.length:=by omega
    obtain ⟨f,g,e1,e2,e3,e4,e5,q1,q2,q3,hf,hg⟩:=((hxs.mono hU).src hS.sub).ofStepD i0 hlt
    obtain ⟨d2,hd2,hA,hK⟩:=hP.1.at i0 hlt
    rw [←hil] at hA hK
    have hmem:=nth_mem i0 hlt
    generalize hcc:nth b.steps i=c at *
    have hin:Read w x13 inner:=hOi.read hS
    have hinn:=hin.n
    refine ⟨hxs.ix i0 hlt,_,_,_,f,g,⟨e1,e2,e3,e4,e5⟩,?_⟩
    refine Fz.usew (c_stepTypeW (c:=c) ⟨(hx.mono hU).mono hS.sub,ht,(hy.mono hU).mono hS.sub,hin⟩ (hf.mono hS.sub) (hg.mono hS.sub) hK (by omega) q2 q3) ?_
    rintro _ w3 hs3 ⟨t,rfl,htI⟩
    have hS:=hS.sub_w hs3
    refine ⟨t,rfl,?_⟩
    refine go_wr (by omega) (by omega) ?_
    refine go_wr (by omega) (by omega) ?_
    refine st_bld (α:=Int) (l:=[]) hS VsOf.nil rfl (by decide) fun x29 w4 u4 hu4 hs4 hS hx29=>?_
    refine (c_addUses b u4 xs x29 [] ((x13.n:Int)+1) (i+1) ((hxs.mono hU).mono hu4) hx29 Asc.nil (by omega) (by omega) (by omega)).use hS ?_
    rintro _ w5 u5 hu5 hs5 hS ⟨x32,l0,rfl,hx32,hA0⟩
    refine ⟨x32,rfl,?_⟩
    have hU5:=hU.trans (hu4.trans hu5)
    have h15:=hu4.trans hu5
    have hlr:Read w5 xl after:=(hl.mono hU5).here (I:=Js++(Ji++Jm)) (by simpa [List.append_assoc] using hS)
    refine Mk.usew (c_unionM (hx32.mono hS.sub) hlr hA0 (hla.mono (by omega)) (by omega) (by omega)) hS ?_
    rintro _ w6 J6 ⟨x35,later,rfl,hO6,hla6⟩ hS hs6
    obtain ⟨u6,hu6,hS,hJ6⟩:=hS.freeze J6
    have hx35:Read u6 x35 later:=(hO6.ofInts (u':=u5)).read1 hJ6
    refine ⟨x35,rfl,?_⟩
    have hU6:=hU5.trans hu6
    have h16:=h15.trans hu6
    have hOi6:=hOi.mono h16
    have hOm6:=hOm.mono h16
    have hCt:∀ {w:World} {u':World} {K:Items},Sub u6 u'→St u' w (K++(Ji++(Jm++R)))→CtE w x y x13 f ds rs inner c:=fun hs hS=>⟨⟨((hx.mono hU6).mono hs).mono hS.sub,ht,((hy.mono hU6).mono hs).mono hS.sub,(hOi6.mono hs).read hS⟩,((hf.mono h16).mono hs).mono hS.sub,hA⟩
    
    refine Mk.usew (c_dupsBefore (xk:=g) (hCt (.refl _) hS) (hOm6.read hS) (hx35.mono hS.sub)) hS ?_
    rintro _ w7 J7 ⟨x38,dups,rfl,hO7,hdl⟩ hS hs7
    obtain ⟨u7,hu7,hS,hJ7⟩:=hS.freeze J7
    have hx38:Read u7 x38 dups:=(hO7.ofInts (u':=u6)).read1 hJ7
    refine ⟨x38,rfl,?_⟩
    refine (c_countings (in64_in rfl) hx38).use hS ?_
    rintro _ w8 u8 J8 hu8 hs8 hS ⟨x41,rfl,hO8⟩
    refine ⟨x41,rfl,?_⟩
    have h68:=hu7.trans hu8
    have h18:=h16.trans h68
    have ha5:=hA.1
    refine Own.append (hOs.mono h18) hS (Own.src hO8 hS) (by rw [ctg_len];omega) (by decide) fun x44 w9 J9 hO9 hS=>⟨x44,rfl,?_⟩
    have hS:St u8 w9 (J9++(Ji++(Jm++R))):=hS.to
    have hU8:=hU6.trans h68
    
    refine (c_countStepH (c:=c) (d:=d2) (H c (by rw [←hcc];exact nth_mem i0 hlt)) hS (hx.mono hU8) ht (hy.mono hU8) hA hK (by omega) (by omega) q2 (hf.mono h18) (hg.mono h18) (fun u' w' I' hs' hS'=>((hOi.mono h18).mono hs').src hS') (fun u' w' I' hs' hS'=>((hOm.mono h18).mono hs').src hS') hml (.of (hx35.mono h68)) (by rw [show ((inner.length+1:Nat):Int)=(x13.n:Int)+1 by omega];exact hla6)).mono' ?_
    rintro _ w10 ⟨u10,ya,yk,ks,rfl,hu10,hS,hya,hyk,hkl,hks⟩
    refine ⟨_,_,_,ya,yk,rfl,?_⟩
    refine st_push (α:=StepD) hS (hO9.mono hu10) (vofS q1 q2 (in64_in rfl) hya hyk) (by rw [List.length_append,ctg_len];omega) (by decide) (by decide) fun x57 w11 J11 hS hO11=>?_
    have h1a:=h18.trans hu10
    have h6a:=h68.trans hu10
    
    refine Mk.usew (c_leftAfter (xk:=g) (hCt h6a hS) ((hOm.mono h1a).read hS) ((hx35.mono h6a).mono hS.sub)) hS ?_
    rintro _ w12 J12 ⟨x60,left,rfl,hO12,hll⟩ hS hs12
    refine ⟨x60,rfl,?_⟩
    have hO12:Own u10 x60 left J12:=hO12.ofInts
    have hS2:St u10 w12 ((J12++J11)++(Ji++(Jm++R))):=by rw [List.append_assoc];exact hS
    refine Mk.usew (c_lentDrops (xk:=g) (hCt h6a hS2) (hO12.read hS) ((hx35.mono h6a).mono hS.sub)) hS ?_
    rintro _ w13 J13 ⟨x63,drops,rfl,hO13,hdr⟩ hS hs13
    obtain ⟨u13,hu13,hS,hJ13⟩:=hS.freeze J13
    have hx63:Read u13 x63 drops:=(hO13.ofInts (u':=u10)).read1 hJ13
    refine ⟨x63,rfl,?_⟩
    refine (c_countings (in64_in rfl) hx63).use hS ?_
    rintro _ w14 u14 J14 hu14 hs14 hS ⟨x66,rfl,hO14⟩
    refine ⟨x66,rfl,?_⟩
    have hae:=hu13.trans hu14
    refine Own.append (hO11.mono hae) hS (Own.src hO14 hS) (by simp only [List.length_append,List.length_singleton,ctg_len];omega) (by decide) fun x69 w15 J15 hO15 hS=>⟨x69,rfl,?_⟩
    have hx63':=hx63.mono hu14
    have hdn:=hx63'.n
    have h1e:=h1a.trans hae
    have hS:St u14 w15 (J12++(J15++(Ji++(Jm++R)))):=hS.to
    have hlen15:((sts++ctgS 14 dups++[(⟨c.op,c.num,0,c.args,ks⟩:StepD)]++ctgS 15 drops).length:Int)≤10004 * i+10001:=by simp only [List.length_append,List.length_singleton,ctg_len];omega
    have hsh15:∀ s∈sts++ctgS 14 dups++[(⟨c.op,c.num,0,c.args,ks⟩:StepD)]++ctgS 15 drops,ShS ds NC d s:=by
      intro s hs
      rcases List.mem_append.1 hs with hs|hs
      · rcases List.mem_append.1 hs with hs|hs
        · rcases List.mem_append.1 hs with hs|hs
          · exact hss s hs
          · exact sh_ctg (by decide) hs
        · rw [List.mem_singleton.1 hs]
          have hs0:=hA.sh
          refine ⟨⟨hs0.1,by show ks.length≤5000;have:=hs0.2.1;omega,hs0.2.2.1,fun h8=>⟨(hs0.2.2.2 h8).1,by have:=(hs0.2.2.2 h8).2;show ks.length≤(consL ds c.num).length;omega⟩⟩,fun k hk=>(hks k hk).le (Nat.le_refl _) (by omega)⟩
      · exact sh_ctg (by decide) hs
    generalize hgen:sts++ctgS 14 dups++[(⟨c.op,c.num,0,c.args,ks⟩:StepD)]++ctgS 15 drops=sts2 at hO15 hlen15 hsh15
    refine ⟨fun x72 j w=>∃ (J:Items) (l:List Int),St u14 w (J++(J15++(Ji++(Jm++R))))∧Own u14 x72 l J∧l.length≤mine.length∧0≤j∧j≤drops.length,fun _ j _=>(drops.length - j).toNat,⟨J12,left,hS,hO12.mono hae,hll,by omega,by omega⟩,?_⟩
    clear hS
    rintro x72 j w16 ⟨J16,l16,hS,hO16,hl16,j0,j1⟩
    dsimp only
    refine ⟨fun hc2=>?_,fun hc2=>?_⟩
    · simp only [bls] at hc2
      have hjl:j < drops.length:=by omega
      refine ⟨hx63'.ix j0 hjl,_,((hx63'.src hS.sub).int j0 hjl).1,?_⟩
      refine Mk.usew (c_without (hO16.read hS)) hS ?_
      rintro _ w17 J17 ⟨x78,rfl,hO17⟩ hS hs17
      refine ⟨x78,rfl,?_⟩
      refine go_wr (by omega) (by omega) ?_
      have hf17:=List.length_filter_le (fun q=>decide (q≠nth drops j)) l16
      exact ⟨rfl,rfl,rfl,rfl,rfl,rfl,rfl,rfl,rfl,rfl,rfl,⟨J17,_,hS.to,hO17.ofInts,by omega,by omega,by omega⟩,by omega⟩
    · have hS:St u14 w16 (Ji++(J16++(J15++(Jm++R)))):=hS.to
      refine st_push (α:=Int) hS (hOi.mono h1e) (VOf.int htI) (by omega) (by decide) (by decide) fun x85 w17 J17 hS hO17=>?_
      have hrl:=((hx35.mono h6a).mono hae).mono hS.sub
      refine ⟨_,fun _=>c_specIsIn hrl,fun hc3=>?_,fun hc3=>⟨fun hc4=>?_,fun hc4=>?_⟩⟩
      · refine st_push (α:=Int) (R:=J17++(J15++(Jm++R))) hS.to hO16 (VOf.int ⟨by omega,by omega⟩) (by omega) (by decide) (by decide) fun x94 w18 J18 hS hO18=>?_
        refine go_wr (by omega) (by omega) ?_
        exact ⟨rfl,rfl,rfl,rfl,rfl,rfl,⟨u14,J15,J17,J18,sts2,_,_,hU.trans h1e,hS.to,hO15,hO17,hO18,by omega,by simp;omega,by simp;omega,hsh15,by omega,by omega⟩,by omega⟩
      · refine (c_counting (n:=(x13.n:Int)) ⟨by omega,by omega⟩).use hS ?_
        rintro _ w18 u18 hu18 hs18 hS ⟨xc,xd,rfl,hxc,hxd⟩
        refine ⟨_,_,_,xc,xd,rfl,?_⟩
        refine st_push (α:=StepD) (R:=J17++(J16++(Jm++R))) hS.to (hO15.mono hu18) (vofS (in64_in rfl) (in64_in rfl) (in64_in rfl) hxc hxd) (by omega) (by decide) (by decide) fun x108 w19 J19 hS hO19=>?_
        refine go_wr (by omega) (by omega) ?_
        refine ⟨rfl,rfl,rfl,rfl,rfl,rfl,⟨u18,J19,J17,J16,_,_,l16,hU.trans (h1e.trans hu18),hS.to,hO19,hO17.mono hu18,hO16.mono hu18,by simp;omega,by simp;omega,by simp;omega,?_,by omega,by omega⟩,by omega⟩
        intro s hs
        rcases List.mem_append.1 hs with hs|hs
        · exact hsh15 s hs
        · rw [List.mem_singleton.1 hs]
          exact ⟨ShA.ctg (by decide),fun k hk=>by cases hk⟩
      · refine go_wr (by omega) (by omega) ?_
        exact ⟨rfl,rfl,rfl,rfl,rfl,rfl,⟨u14,J15,J17,J16,sts2,_,l16,hU.trans h1e,hS.to,hO15,hO17,hO16,by omega,by simp;omega,by simp;omega,hsh15,by omega,by omega⟩,by omega⟩
  · simp only [bls] at hc
    have hin:Read w x13 inner:=hOi.read hS
    have hmr:Read w x14 mine:=hOm.read hS
    have hr0:=hP.2.1
    have hr1:=hP.2.2
    have hri:b.result < inner.length:=by omega
    obtain ⟨c1,c2⟩:=(hin.src (.refl w)).int hr0 hri
    have hlr:Read w xl after:=(hl.mono hU).here (I:=Js++(Ji++Jm)) (by simpa [List.append_assoc] using hS)
    refine ⟨hin.ix hr0 hri,_,c1,_,fun _=>c_specIsIn hlr,_,fun _ _=>c_specIsIn hmr,fun hc2=>?_,fun hc2=>?_⟩
    · refine (c_counting (n:=b.result) ⟨by omega,by omega⟩).use hS ?_
      rintro _ w18 u18 hu18 hs18 hS ⟨xc,xd,rfl,hxc,hxd⟩
      refine ⟨_,_,_,xc,xd,rfl,?_⟩
      refine st_push (α:=StepD) hS (hOs.mono hu18) (vofS (in64_in rfl) (in64_in rfl) (in64_in rfl) hxc hxd) (by omega) (by decide) (by decide) fun x108 w19 J19 hS hO19=>?_
      obtain ⟨u20,hu20,hS,hJ⟩:=hS.freeze J19
      refine ⟨u20,x108,_,rfl,hU.trans (hu18.trans hu20),hS.to,hO19.read1 hJ,by simp;omega,?_⟩
      intro s hs
      rcases List.mem_append.1 hs with hs|hs
      · exact hss s hs
      · rw [List.mem_singleton.1 hs]
        exact ⟨ShA.ctg (by decide),fun k hk=>by cases hk⟩
    · obtain ⟨u20,hu20,hS,hJ⟩:=hS.freeze Js
      exact ⟨u20,x12,sts,rfl,hU.trans hu20,hS.to,hOs.read1 hJ,by omega,hss⟩
end
end Go.Vc
