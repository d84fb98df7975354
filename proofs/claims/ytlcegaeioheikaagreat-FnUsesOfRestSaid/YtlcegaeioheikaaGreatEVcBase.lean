/- Part of the proofs about the heaps and memories: a law is joined in the text whose name ends in W and the law. -/
import Derived.Test.YtlcegaeioheikaaGreatEVcDefs
set_option linter.all false
namespace Go.Vc
open Go
theorem Sub.refl (v:World):Sub v v:=⟨Nat.le_refl _,fun _ _ h _=>h⟩
theorem Sub.trans {u v w:World} (h:Sub u v) (k:Sub v w):Sub u w:=
 ⟨Nat.le_trans h.size k.size,fun b o hb ho=>k.at_ b o (h.at_ b o hb ho) ho⟩
theorem Sub.out {v w:World} (h:Sub v w) {b:Nat} (k:Out w b):Out v b:=by
 intro o ho
 rcases Classical.em (o=absent) with e|e
 ·exact e
 ·exact k o (h.at_ b o ho e)
theorem Fr.refl {v w:World} (h:Sub v w):Fr v w v w:=⟨h,Nat.le_refl _,rfl,rfl,rfl,fun _ _ k=>⟨k,rfl⟩⟩
theorem Fr.trans {v w v1 w1 v2 w2:World} (h:Fr v w v1 w1) (k:Fr v1 w1 v2 w2):Fr v w v2 w2:=by
 refine ⟨k.sub,Nat.le_trans h.size k.size,k.os.trans h.os,k.tape.trans h.tape,k.output.trans h.output,fun b hb ho=>?_⟩
 obtain ⟨h1,h2⟩:=h.out b hb ho
 obtain ⟨k1,k2⟩:=k.out b (Nat.lt_of_lt_of_le hb h.size) h1
 exact ⟨k1,k2.trans h2⟩
theorem Fr.weaken {v w v1 w1:World} (h:Fr v w v1 w1) (k:Sub v v1):Fr v w v w1:=
 ⟨k.trans h.sub,h.size,h.os,h.tape,h.output,fun b hb ho=>⟨ho,(h.out b hb ho).2⟩⟩
theorem Fr.shrink {v w v1 w1 v2:World} (h:Fr v w v1 w1) (k:Sub v2 v1):Fr v w v2 w1:=
 ⟨k.trans h.sub,h.size,h.os,h.tape,h.output,fun b hb ho=>⟨k.out (h.out b hb ho).1,(h.out b hb ho).2⟩⟩
def BK (β:List Nat) (v v':World):Prop:=∀ b,b∈β→∀ o,v.heap[b]?=some o→o≠absent→v'.heap[b]?=some o
theorem BK.refl (β:List Nat) (v:World):BK β v v:=fun _ _ _ h _=>h
theorem BK.trans {β:List Nat} {u v w:World} (h:BK β u v) (k:BK β v w):BK β u w:=fun b hb o ho hn=>k b hb o (h b hb o ho hn) hn
theorem Sub.bk {v w:World} (h:Sub v w) (β:List Nat):BK β v w:=fun b _ o ho hn=>h.at_ b o ho hn
def CodeB (P:Program) (c:Code) (Q:Exit→Act→World→Prop) (a:Act) (v:World):Prop:=
 ∀ w:World,Sub v w→Code.wp P c (fun e a' w'=>∃ v',Fr v w v' w'∧Q e a' v') a w
section
variable {P:Program} {Q:Exit→Act→World→Prop} {a:Act} {v:World}
theorem codeB_mono {c:Code} {Q':Exit→Act→World→Prop} (h:CodeB P c Q a v) (hq:∀ e a v,Q e a v→Q' e a v):CodeB P c Q' a v:=
 fun w hs=>wp_mono (h w hs) fun e a' _ ⟨v',fr,q⟩=>⟨v',fr,hq e a' v' q⟩
theorem codeB_shrink {c:Code} {Q':Exit→Act→World→Prop} (h:CodeB P c Q a v) (hq:∀ e a v,Q e a v→∃ v2,Sub v2 v∧Q' e a v2):CodeB P c Q' a v:=
 fun w hs=>wp_mono (h w hs) fun e a' _ ⟨v',fr,q⟩=>let ⟨v2,h2,q2⟩:=hq e a' v' q;⟨v2,fr.shrink h2,q2⟩
theorem codeB_skip (h:Q .normal a v):CodeB P .skip Q a v:=fun w hs=>wp_skip ⟨v,.refl hs,h⟩
theorem codeB_label {l:Nat} (h:Q .normal a v):CodeB P (.label l) Q a v:=fun w hs=>wp_label ⟨v,.refl hs,h⟩
theorem codeB_ret (h:Q .ret a v):CodeB P .ret Q a v:=fun w hs=>wp_ret ⟨v,.refl hs,h⟩
theorem codeB_exit {id:Nat} (h:Q (.exit id) a v):CodeB P (.exit id) Q a v:=fun w hs=>wp_exit ⟨v,.refl hs,h⟩
theorem codeB_seq {x y:Code} (h:CodeB P x (Exit.then (fun a v=>CodeB P y Q a v) Q) a v):CodeB P (.seq x y) Q a v:=by
 intro w hs
 refine wp_seq (wp_mono (h w hs) fun e a' w' ⟨v',fr,q⟩=>?_)
 cases e
 case normal=>exact wp_mono (q w' fr.sub) fun e2 a2 w2 ⟨v2,fr2,q2⟩=>⟨v2,fr.trans fr2,q2⟩
 all_goals exact ⟨v',fr,q⟩
theorem codeB_cond {c:Operand} {x y:Code} {t:Bool} (hc:a.eval c=.bool t) (ht:t=true→CodeB P x Q a v) (hf:t=false→CodeB P y Q a v):
  CodeB P (.cond c x y) Q a v:=fun w hs=>wp_cond_split hc (fun e=>ht e w hs) (fun e=>hf e w hs)
theorem codeB_block {id:Nat} {c:Code} (h:CodeB P c (Exit.inBlock id Q) a v):CodeB P (.block id c) Q a v:=by
 intro w hs
 refine wp_block (wp_mono (h w hs) fun e a' w' ⟨v',fr,q⟩=>?_)
 cases e
 case exit j=>
  simp only [Exit.inBlock] at q ⊢
  split
  ·rename_i e;rw [if_pos e] at q;exact ⟨v',fr,q⟩
  ·rename_i e;rw [if_neg e] at q;exact ⟨v',fr,q⟩
 all_goals exact ⟨v',fr,q⟩
theorem exists_least (p:Nat→Prop) (h:∃ n,p n):∃ n,p n∧∀ k,p k→n≤k:=by
 obtain ⟨n,hn⟩:=h
 induction n using Nat.strongRecOn with
 | _ n ih=>
  rcases Classical.em (∃ k,p k∧k < n) with ⟨k,hk,hlt⟩|hno
  ·exact ih k hlt hk
  ·exact ⟨n,hn,fun k hk=>Nat.le_of_not_lt fun hlt=>hno ⟨k,hk,hlt⟩⟩
open Classical in
theorem codeB_loop {c:Code} (I:Nat→Act→World→Prop) (h0:∃ n,I n a v)
  (round:∀ n a v,I n a v→CodeB P c (Exit.then (fun a' v'=>∃ k,k < n∧I k a' v') Q) a v):CodeB P (.loop c) Q a v:=by
 intro w hs
 let p:Act→World→Nat→Prop:=fun a' w' n=>∃ v',Fr v w v' w'∧I n a' v'
 let μ:Act→World→Nat:=fun a' w'=>if h:∃ n,p a' w' n then Classical.choose (exists_least (p a' w') h) else 0
 have hμ:∀ a' w' n,p a' w' n→p a' w' (μ a' w')∧μ a' w'≤n:=by
  intro a' w' n hn
  have hex:∃ n,p a' w' n:=⟨n,hn⟩
  have hs:=Classical.choose_spec (exists_least (p a' w') hex)
  have e:μ a' w'=Classical.choose (exists_least (p a' w') hex):=dif_pos hex
  rw [e]
  exact ⟨hs.1,hs.2 n hn⟩
 obtain ⟨n0,h0⟩:=h0
 refine wp_loop (fun a' w'=>∃ n,p a' w' n) μ ⟨n0,v,.refl hs,h0⟩ fun a1 w1 ⟨n,hn⟩=>?_
 obtain ⟨⟨v1,fr1,hI⟩,_⟩:=hμ a1 w1 n hn
 refine wp_mono (round _ a1 v1 hI w1 fr1.sub) fun e a2 w2 ⟨v2,fr2,q⟩=>?_
 cases e
 case normal=>
  obtain ⟨k,hk,hI2⟩:=q
  have hp:p a2 w2 k:=⟨v2,fr1.trans fr2,hI2⟩
  exact ⟨⟨_,hp⟩,Nat.lt_of_le_of_lt (hμ a2 w2 _ hp).2 hk⟩
 all_goals exact ⟨v2,fr1.trans fr2,q⟩
def UponB (P:Program) (o:Oper) (K:Act→World→Prop) (a:Act) (v w:World):Result Next→Prop
 | .ok (.value u) w'=>∃ v',Fr v w v' w'∧K (a.put o.dst u) v'
 | .ok .skip w'=>∃ v',Fr v w v' w'∧K (a.put o.dst undef) v'
 | .ok (.enter f args) w'=>w'=w∧Calls P f args w fun e w''=>∃ u v',e=.returned u∧Fr v w v' w''∧K (a.put o.dst u) v'
 | _=>False
def StepB (P:Program) (o:Oper) (K:Act→World→Prop) (a:Act) (v:World):Prop:=
 ∀ w:World,Sub v w→UponB P o K a v w ((execOp a.eval o).run P w)
def OneB (P:Program) (ops:Array Oper) (o:Oper) (K:Act→World→Prop) (a:Act) (v:World):Prop:=
 if Region.wanted o (yielded ops a.tmps) then StepB P o K a v else K (a.put o.dst undef) v
def AB (P:Program) (ops:Array Oper):List Oper→(Act→World→Prop)→Act→World→Prop
 | [],K,a,v=>K a v
 | o ::r,K,a,v=>OneB P ops o (AB P ops r K) a v
theorem StepB.mono {o:Oper} {K K':Act→World→Prop} (hk:∀ a v,K a v→K' a v) (h:StepB P o K a v):StepB P o K' a v:=by
 intro w hs
 have h1:=h w hs
 generalize (execOp a.eval o).run P w=r at h1 ⊢
 cases r with
 | ok x w'=>
  cases x<;>simp only [UponB] at h1 ⊢
  case value=>obtain ⟨v',fr,k⟩:=h1;exact ⟨v',fr,hk _ _ k⟩
  case skip=>obtain ⟨v',fr,k⟩:=h1;exact ⟨v',fr,hk _ _ k⟩
  case enter=>exact ⟨h1.1,h1.2.mono fun e w'' ⟨u,v',he,fr,k⟩=>⟨u,v',he,fr,hk _ _ k⟩⟩
 | halt x w'=>simp only [UponB] at h1
theorem OneB.mono {ops:Array Oper} {o:Oper} {K K':Act→World→Prop} (hk:∀ a v,K a v→K' a v) (h:OneB P ops o K a v):OneB P ops o K' a v:=by
 unfold OneB at *
 split
 ·rename_i hw;rw [if_pos hw] at h;exact h.mono hk
 ·rename_i hw;rw [if_neg hw] at h;exact hk _ _ h
theorem wp_of_stepB {o:Oper} {K:Act→World→Prop} {v0 w0 w:World} {N:Act→World→Prop} {Q':Exit→Act→World→Prop} (hfr:Fr v0 w0 v w)
  (hN:∀ a' v' w',Fr v0 w0 v' w'→K a' v'→N a' w') (h:StepB P o K a v):o.wp P a w N Q':=by
 have h1:=h w hfr.sub
 unfold Oper.wp
 generalize (execOp a.eval o).run P w=r at h1 ⊢
 cases r with
 | ok x w'=>
  cases x<;>simp only [UponB,Oper.upon] at h1 ⊢
  case value=>obtain ⟨v',fr,k⟩:=h1;exact hN _ _ _ (hfr.trans fr) k
  case skip=>obtain ⟨v',fr,k⟩:=h1;exact hN _ _ _ (hfr.trans fr) k
  case enter=>
   obtain ⟨e,hc⟩:=h1
   rw [e]
   exact hc.mono fun e w'' ⟨u,v',he,fr,k⟩=>by subst he;exact hN _ _ _ (hfr.trans fr) k
 | halt x w'=>simp only [UponB] at h1
theorem wpList_of_AB {ops:Array Oper} {v0 w0:World} {Q':Exit→Act→World→Prop} {K:Act→World→Prop}
  (hN:∀ a' v' w',Fr v0 w0 v' w'→K a' v'→Q' .normal a' w'):∀ (l:List Oper) (a:Act) (v w:World),Fr v0 w0 v w→AB P ops l K a v→wpList P ops Q' l a w
 | [],a,v,w,hfr,h=>hN a v w hfr h
 | o ::l,a,v,w,hfr,h=>by
  simp only [AB,OneB] at h
  unfold wpList
  split
  ·rename_i hw
   rw [if_pos hw] at h
   exact .inl (wp_of_stepB hfr (fun a' v' w' fr k=>wpList_of_AB hN l a' v' w' fr k) h)
  ·rename_i hw
   rw [if_neg hw] at h
   exact wpList_of_AB hN l _ v w hfr h
theorem codeB_region {id:Nat} {ops:Array Oper} (h:AB P ops ops.toList (Q .normal) a v):CodeB P (.region id ops false) Q a v:=
 fun w hs=>wp_region_list (wpList_of_AB (fun a' v' w' fr k=>⟨v',fr,k⟩) ops.toList a v w (.refl hs) h)
def QUpon (P:Program) (v w:World) (u:Value):Result Next→Prop
 | .ok (.value x) w'=>w'=w∧x=u
 | .ok .skip w'=>w'=w∧u=undef
 | .ok (.enter f args) w'=>w'=w∧Calls P f args w fun e w''=>e=.returned u∧Fr v w v w''
 | _=>False
def QuietB (P:Program) (o:Oper) (K:Act→Prop) (a:Act) (v:World):Prop:=
 ∃ u,(∀ w:World,Sub v w→QUpon P v w u ((execOp a.eval o).run P w))∧K (a.put o.dst u)
def QOne (P:Program) (ops:Array Oper) (o:Oper) (K:Act→Prop) (a:Act) (v:World):Prop:=
 if Region.wanted o (yielded ops a.tmps) then QuietB P o K a v else K (a.put o.dst undef)
theorem stepB_of_quiet {o:Oper} {K:Act→World→Prop} (h:QuietB P o (fun a'=>K a' v) a v):StepB P o K a v:=by
 obtain ⟨u,h1,h2⟩:=h
 intro w hs
 have h3:=h1 w hs
 generalize (execOp a.eval o).run P w=r at h3 ⊢
 cases r with
 | ok x w'=>
  cases x<;>simp only [QUpon,UponB] at h3 ⊢
  case value=>obtain ⟨rfl,rfl⟩:=h3;exact ⟨v,.refl hs,h2⟩
  case skip=>obtain ⟨rfl,rfl⟩:=h3;exact ⟨v,.refl hs,h2⟩
  case enter=>
   refine ⟨h3.1,h3.2.mono fun e w'' ⟨he,fr⟩=>⟨u,v,he,fr,h2⟩⟩
 | halt x w'=>simp only [QUpon] at h3
theorem oneB_of_quiet {ops:Array Oper} {o:Oper} {K:Act→World→Prop} (h:QOne P ops o (fun a'=>K a' v) a v):OneB P ops o K a v:=by
 unfold OneB QOne at *
 split
 ·rename_i hw;rw [if_pos hw] at h;exact stepB_of_quiet h
 ·rename_i hw;rw [if_neg hw] at h;exact h
def QB (P:Program) (ops:Array Oper) (v:World):List Oper→(Act→Prop)→Act→Prop
 | [],K,a=>K a
 | o ::r,K,a=>QOne P ops o (QB P ops v r K) a v
theorem wpQuiet_of_QB {ops:Array Oper} {w0:World} {K:Act→Prop}:∀ (l:List Oper) (a:Act),QB P ops v l K a→
  wpQuiet P ops (fun w'=>Fr v w0 v w') K l a
 | [],_,h=>h
 | o ::l,a,h=>by
  simp only [QB,QOne] at h
  unfold wpQuiet
  split
  ·rename_i hw
   rw [if_pos hw] at h
   obtain ⟨u,h1,h2⟩:=h
   refine ⟨u,fun w hfr=>?_,wpQuiet_of_QB l _ h2⟩
   have h3:=h1 w hfr.sub
   unfold Oper.quietAt
   generalize (execOp a.eval o).run P w=r at h3 ⊢
   cases r with
   | ok x w'=>
    cases x<;>simp only [QUpon,Oper.quietUpon] at h3 ⊢
    case value=>exact h3
    case skip=>exact h3
    case enter=>exact ⟨h3.1,h3.2.mono fun e w'' ⟨he,fr⟩=>⟨he,hfr.trans fr⟩⟩
   | halt x w'=>simp only [QUpon] at h3
  ·rename_i hw
   rw [if_neg hw] at h
   exact wpQuiet_of_QB l _ h
theorem codeB_region_draw {id:Nat} {ops:Array Oper} (hm:P.follows .mixedOrders=true) (hB:Region.lexB .any ops=true)
  (h:QB P ops v ops.toList (fun a'=>Q .normal a' v) a):CodeB P (.region id ops true) Q a v:=by
 intro w hs
 have hd:Sub v { w with drawn:=w.drawn+1 }:=⟨hs.size,hs.at_⟩
 have h0:Fr v w v { w with drawn:=w.drawn+1 }:=⟨hd,Nat.le_refl _,rfl,rfl,rfl,fun _ _ k=>⟨k,rfl⟩⟩
 refine wp_region_quiet (C:=fun w'=>Fr v w v w') hm hB h0 ?_
 have:=wpQuiet_of_QB (w0:=w) ops.toList a h
 refine (?_:∀ (l:List Oper) (a:Act),wpQuiet P ops (fun w'=>Fr v w v w') (fun a'=>Q .normal a' v) l a→
  wpQuiet P ops (fun w'=>Fr v w v w') (fun a'=>∀ w',Fr v w v w'→∃ v',Fr v w v' w'∧Q .normal a' v') l a) ops.toList a this
 intro l
 induction l with
 | nil=>intro a h w' hw';exact ⟨v,hw',h⟩
 | cons o l ih=>
  intro a h
  unfold wpQuiet at h ⊢
  split
  ·rename_i hw;rw [if_pos hw] at h;obtain ⟨u,h1,h2⟩:=h;exact ⟨u,h1,ih _ h2⟩
  ·rename_i hw;rw [if_neg hw] at h;exact ih _ h
end
end Go.Vc
