/- Part of the proofs about the heaps and memories: a law is joined in the text whose name ends in W and the law. -/
import Derived.Test.YtlcegaeioheikaaGreatEVcBase
set_option linter.all false
namespace Go.Vc
open Go
section
variable {P:Program} {ops:Array Oper} {q ext:Nat→Bool} {K:Act→World→Prop} {a:Act} {v:World} {β:List Nat}
def MOne (P:Program) (ops:Array Oper) (qu ex kb:Bool) (o:Oper) (K:List Nat→Act→World→Prop) (β:List Nat) (a:Act) (v:World):Prop:=
  match qu with
  | true=>QOne P ops o (fun a'=>K β a' v) a v
  | false=>OneB P ops o (fun a' v'=>((ex=true→Sub v v')∧(kb=true→BK β v v'))∧∃ γ,K (β++γ) a' v') a v
def mAt (P:Program) (ops:Array Oper) (q ext:Nat→Bool) (i:Nat) (K:List Nat→Act→World→Prop) (β:List Nat) (a:Act) (v:World):Prop:=
  match ops[i]? with
  | none=>K β a v
  | some o=>MOne P ops (q i) (ext i) (kbAt ops i) o K β a v
def wpAnyM (P:Program) (ops:Array Oper) (q ext:Nat→Bool) (K:Act→World→Prop):Nat→Array Bool→List Nat→Act→World→Prop
  | 0,listed,_,a,v=>Region.ready .any ops listed=[]∧K a v
  | fuel+1,listed,β,a,v=>(Region.ready .any ops listed=[]→K a v)∧
    ∀ i,i∈Region.ready .any ops listed→mAt P ops q ext i (wpAnyM P ops q ext K fuel (listed.setIfInBounds i true)) β a v
theorem QOne.mono {o:Oper} {K K':Act→Prop} (hk:∀ a,K a→K' a) (h:QOne P ops o K a v):QOne P ops o K' a v:=by
  unfold QOne at *
  split
  · rename_i hw;rw [if_pos hw] at h;obtain ⟨u,h1,h2⟩:=h;exact ⟨u,h1,hk _ h2⟩
  · rename_i hw;rw [if_neg hw] at h;exact hk _ h
theorem wpAny_of_M {v0 w0:World} {Q':Exit→Act→World→Prop} (hN:∀ a' v' w',Fr v0 w0 v' w'→K a' v'→Q' .normal a' w'):
    ∀ (fuel:Nat) (listed:Array Bool) (β:List Nat) (a:Act) (v w:World),Fr v0 w0 v w→wpAnyM P ops q ext K fuel listed β a v→wpAny P .any ops Q' fuel listed a w
  | 0,_,_,_,_,_,hf,h=>⟨h.1,hN _ _ _ hf h.2⟩
  | fuel+1,listed,β,a,v,w,hf,h=>by
    refine ⟨fun h0=>hN _ _ _ hf (h.1 h0),fun i hi=>?_⟩
    have h1:=h.2 i hi
    unfold mAt at h1
    unfold wpOp
    split at h1
    · rename_i ho;simp only [ho];exact wpAny_of_M hN fuel _ _ a v w hf h1
    · rename_i o ho
      simp only [ho]
      have h2:OneB P ops o (fun a' v'=>∃ γ,wpAnyM P ops q ext K fuel (listed.setIfInBounds i true) (β++γ) a' v') a v:=by
        unfold MOne at h1
        split at h1
        · exact OneB.mono (fun _ _ h=>⟨[],by simpa using h⟩) (oneB_of_quiet h1)
        · exact OneB.mono (fun _ _ h=>h.2) h1
      unfold OneB at h2
      split
      · rename_i hw
        rw [if_pos hw] at h2
        exact .inl (wp_of_stepB hf (fun a' v' w' fr k=>k.elim fun _ k=>wpAny_of_M hN fuel _ _ a' v' w' fr k) h2)
      · rename_i hw
        rw [if_neg hw] at h2
        exact h2.elim fun _ h2=>wpAny_of_M hN fuel _ _ _ v w hf h2
def YieldsB (P:Program) (ops:Array Oper) (v:World) (o:Oper) (u:Value) (a:Act):Prop:=
  (Region.wanted o (yielded ops a.tmps)=true∧∀ w:World,Sub v w→QUpon P v w u ((execOp a.eval o).run P w))∨
  (Region.wanted o (yielded ops a.tmps)=false∧u=undef)
theorem YieldsB.of_q {o:Oper} {K:Act→Prop} (h:QOne P ops o K a v):∃ u,YieldsB P ops v o u a∧K (a.put o.dst u):=by
  unfold QOne at h
  split at h
  · rename_i hw;obtain ⟨u,h1,h2⟩:=h;exact ⟨u,.inl ⟨hw,h1⟩,h2⟩
  · rename_i hw;exact ⟨undef,.inr ⟨by simpa using hw,rfl⟩,h⟩
theorem YieldsB.to_q {o:Oper} {u:Value} {K:Act→Prop} (h:YieldsB P ops v o u a) (hk:K (a.put o.dst u)):QOne P ops o K a v:=by
  unfold QOne
  rcases h with ⟨hw,h1⟩|⟨hw,rfl⟩
  · rw [if_pos hw];exact ⟨u,h1,hk⟩
  · rw [if_neg (by simp [hw])];exact hk
theorem fr_grow {v v' w w'':World} (hs:Sub v v') (hw:Sub v' w) (h:Fr v w v w''):Fr v' w v' w'':=by
  refine ⟨⟨Nat.le_trans hw.size h.size,fun b o hb ho=>?_⟩,h.size,h.os,h.tape,h.output,fun b hb ho=>⟨ho,(h.out b hb (hs.out ho)).2⟩⟩
  have hwb:=hw.at_ b o hb ho
  have hlt:b < w.heap.size:=by
    rcases Nat.lt_or_ge b w.heap.size with hl|hg
    · exact hl
    · rw [Array.getElem?_eq_none hg] at hwb;cases hwb
  rcases Classical.em (Out v b) with hov|hov
  · rw [(h.out b hlt hov).2];exact hwb
  · have:∃ o',v.heap[b]?=some o'∧o'≠absent:=
      Classical.byContradiction fun hne=>hov fun q' hq'=>Classical.byContradiction fun hne'=>hne ⟨q',hq',hne'⟩
    obtain ⟨o',h1,h2⟩:=this
    have e:=hs.at_ b o' h1 h2
    rw [hb] at e
    cases e
    exact h.sub.at_ b o h1 h2
theorem YieldsB.grow {o:Oper} {u:Value} {v':World} (hs:Sub v v') (h:YieldsB P ops v o u a):YieldsB P ops v' o u a:=by
  rcases h with ⟨hw,h1⟩|h
  · refine .inl ⟨hw,fun w hv=>?_⟩
    have h2:=h1 w (hs.trans hv)
    generalize (execOp a.eval o).run P w=r at h2 ⊢
    cases r with
    | ok x w'=>
      cases x<;>simp only [QUpon] at h2 ⊢
      case value=>exact h2
      case skip=>exact h2
      case enter=>exact ⟨h2.1,h2.2.mono fun e w'' ⟨he,fr⟩=>⟨he,fr_grow hs hv fr⟩⟩
    | halt x w'=>simp only [QUpon] at h2
  · exact .inr h
theorem YieldsB.put {i j:Oper} {u:Value} (hsi:∀ cs b,i.op≠.select cs b) (h3:∀ d,j.dst=some d→d∉i.looksAt ops) (h:YieldsB P ops v i u a) (z:Value):YieldsB P ops v i u (a.put j.dst z):=by
  unfold YieldsB at *
  rw [wanted_put i a j.dst z h3,execOp_put i hsi a j.dst z h3]
  exact h
theorem q_put {i j:Oper} {u:Value} {K:Act→Prop} (hap:i.apart ops j=true) (hsi:∀ cs b,i.op≠.select cs b) (hsj:∀ cs b,j.op≠.select cs b) (hy:YieldsB P ops v i u a)
    (h:QOne P ops j K (a.put i.dst u) v):QOne P ops j (fun a'=>YieldsB P ops v i u a'∧K (a'.put i.dst u)) a v:=by
  obtain ⟨h1,h2,h3⟩:=Oper.apart_spec hap
  unfold QOne at *
  rw [wanted_put j a i.dst u h1] at h
  split
  · rename_i hw
    rw [if_pos hw] at h
    obtain ⟨z,hz,hk⟩:=h
    refine ⟨z,fun w hs=>?_,hy.put hsi h3 z,by rw [←Act.put_comm a u z h2];exact hk⟩
    have:=hz w hs
    rw [execOp_put j hsj a i.dst u h1] at this
    exact this
  · rename_i hw
    rw [if_neg hw] at h
    exact ⟨hy.put hsi h3 undef,by rw [←Act.put_comm a u undef h2];exact h⟩
theorem one_put {i j:Oper} {u:Value} {K:Act→World→Prop} (hap:i.apart ops j=true) (hsi:∀ cs b,i.op≠.select cs b) (hsj:∀ cs b,j.op≠.select cs b) (hy:YieldsB P ops v i u a)
    (h:OneB P ops j (fun a' v'=>Sub v v'∧K a' v') (a.put i.dst u) v):OneB P ops j (fun a' v'=>Sub v v'∧YieldsB P ops v' i u a'∧K (a'.put i.dst u) v') a v:=by
  obtain ⟨h1,h2,h3⟩:=Oper.apart_spec hap
  unfold OneB at *
  rw [wanted_put j a i.dst u h1] at h
  split
  · rename_i hw
    rw [if_pos hw] at h
    intro w hs
    have hh:=h w hs
    rw [execOp_put j hsj a i.dst u h1] at hh
    generalize (execOp a.eval j).run P w=r at hh ⊢
    have put:∀ z v',Sub v v'∧K ((a.put i.dst u).put j.dst z) v'→Sub v v'∧YieldsB P ops v' i u (a.put j.dst z)∧K ((a.put j.dst z).put i.dst u) v':=
      fun z v' ⟨k1,k2⟩=>⟨k1,(hy.put hsi h3 z).grow k1,by rw [←Act.put_comm a u z h2];exact k2⟩
    cases r with
    | ok x w'=>
      cases x<;>simp only [UponB] at hh ⊢
      case value=>obtain ⟨v',fr,k⟩:=hh;exact ⟨v',fr,put _ _ k⟩
      case skip=>obtain ⟨v',fr,k⟩:=hh;exact ⟨v',fr,put _ _ k⟩
      case enter=>exact ⟨hh.1,hh.2.mono fun e w'' ⟨z,v',he,fr,k⟩=>⟨z,v',he,fr,put _ _ k⟩⟩
    | halt x w'=>simp only [UponB] at hh
  · rename_i hw
    rw [if_neg hw] at h
    exact ⟨h.1,hy.put hsi h3 undef,by rw [←Act.put_comm a u undef h2];exact h.2⟩
theorem YieldsB.free {o:Oper} {u:Value} {v':World} (hf:freeOp o=true) (h:YieldsB P ops v o u a):YieldsB P ops v' o u a:=by
  unfold YieldsB at *
  rcases h with ⟨h1,h2⟩|h
  · refine .inl ⟨h1,fun w _=>?_⟩
    have h3:=h2 v (.refl v)
    unfold freeOp at hf
    split at hf
    case h_4=>cases hf
    all_goals
      rename_i ho
      simp only [execOp,ho] at h3 ⊢
      first
        | (simp only [Sem.run_pure] at h3 ⊢;exact ⟨rfl,h3.2⟩)
        | (unfold Instr.extract at h3 ⊢
           split at h3
           · split at h3
             · exact ⟨rfl,h3.2⟩
             · exact h3.elim
           · exact h3.elim)
  · exact .inr h
theorem one_put_free {i j:Oper} {u:Value} {K:Act→World→Prop} (hf:freeOp i=true) (hap:i.apart ops j=true) (hsi:∀ cs b,i.op≠.select cs b) (hsj:∀ cs b,j.op≠.select cs b) (hy:YieldsB P ops v i u a)
    (h:OneB P ops j K (a.put i.dst u) v):OneB P ops j (fun a' v'=>YieldsB P ops v' i u a'∧K (a'.put i.dst u) v') a v:=by
  obtain ⟨h1,h2,h3⟩:=Oper.apart_spec hap
  unfold OneB at *
  rw [wanted_put j a i.dst u h1] at h
  split
  · rename_i hw
    rw [if_pos hw] at h
    intro w hs
    have hh:=h w hs
    rw [execOp_put j hsj a i.dst u h1] at hh
    generalize (execOp a.eval j).run P w=r at hh ⊢
    have put:∀ z v',K ((a.put i.dst u).put j.dst z) v'→YieldsB P ops v' i u (a.put j.dst z)∧K ((a.put j.dst z).put i.dst u) v':=
      fun z v' k2=>⟨(hy.put hsi h3 z).free hf,by rw [←Act.put_comm a u z h2];exact k2⟩
    cases r with
    | ok x w'=>
      cases x<;>simp only [UponB] at hh ⊢
      case value=>obtain ⟨v',fr,k⟩:=hh;exact ⟨v',fr,put _ _ k⟩
      case skip=>obtain ⟨v',fr,k⟩:=hh;exact ⟨v',fr,put _ _ k⟩
      case enter=>exact ⟨hh.1,hh.2.mono fun e w'' ⟨z,v',he,fr,k⟩=>⟨z,v',he,fr,put _ _ k⟩⟩
    | halt x w'=>simp only [UponB] at hh
  · rename_i hw
    rw [if_neg hw] at h
    exact ⟨hy.put hsi h3 undef,by rw [←Act.put_comm a u undef h2];exact h⟩
theorem getD_set (S:Array Bool) (i j:Nat):(S.setIfInBounds i true).getD j false=(S.getD j false || (Nat.beq i j && Nat.blt i S.size)):=by
  rcases Classical.em (i=j) with e|e
  · subst e
    rcases Nat.lt_or_ge i S.size with h|h
    · simp [Array.getD,h,Nat.blt]
      exact .inr h
    · simp [Array.getD,Nat.not_lt.2 h,Nat.blt]
      cases hb:Nat.ble (i+1) S.size
      · rfl
      · have:=Nat.le_of_ble_eq_true hb;omega
  · have hb:Nat.beq i j=false:=by cases h:Nat.beq i j;rfl;exact absurd (Nat.eq_of_beq_eq_true h) e
    rw [hb]
    simp [Array.getD_eq_getD_getElem?,Array.getElem?_setIfInBounds_ne e]
theorem first_mixed {i:Nat} {oi:Oper} {u:Value} {S:Array Bool} (hi:ops[i]?=some oi) (hqi:q i=true) (hsel:∀ (j:Nat) (o:Oper) cs b,ops[j]?=some o→o.op≠.select cs b) (hcl:closedB ops i S=true):
    ∀ (fuel:Nat) (listed:Array Bool) (β:List Nat) (a:Act) (v:World),listed.size=ops.size→within listed S ops.size=true→okWhile ops q ext i listed S=true→
      i∈Region.ready .any ops listed→YieldsB P ops v oi u a→wpAnyM P ops q ext K fuel (listed.setIfInBounds i true) β (a.put oi.dst u) v→wpAnyM P ops q ext K (fuel+1) listed β a v:=by
  intro fuel
  induction fuel with
  | zero=>
    intro listed β a v _ _ _ hr hy H
    refine ⟨fun h=>(by rw [h] at hr;cases hr),fun j hj=>?_⟩
    by_cases hji:j=i
    · subst hji
      unfold mAt MOne
      simp only [hi,hqi]
      exact hy.to_q H
    · have:=ready_mono hj hji
      rw [H.1] at this
      cases this
  | succ fuel ih=>
    intro listed β a v hsz hw hok hr hy H
    refine ⟨fun h=>(by rw [h] at hr;cases hr),fun j hj=>?_⟩
    by_cases hji:j=i
    · subst hji
      unfold mAt MOne
      simp only [hi,hqi]
      exact hy.to_q H
    · have h1:=H.2 j (ready_mono hj hji)
      obtain ⟨hjun,oj,hoj,hall⟩:=mem_ready.1 hj
      have hjlt:j < ops.size:=by
        rcases Nat.lt_or_ge j ops.size with h|h
        · exact h
        · rw [Array.getElem?_eq_none h] at hoj;cases hoj
      have hw':∀ k,k < ops.size→listed.getD k false=true→S.getD k false=true:=by
        intro k hk hl
        have:=List.all_eq_true.1 hw k (List.mem_range.2 hk)
        simpa [hl] using this
      
      have hjS:S.getD j false=true:=by
        have h2:=List.all_eq_true.1 hcl j (List.mem_range.2 hjlt)
        simp only [hoj] at h2
        have h3:(oj.after.all fun e=>!Region.binds .any e || S.getD e.on false)=true:=by
          rw [Array.all_eq_true']
          intro e he
          cases hb:Region.binds .any e
          · rfl
          · have hl:=hall e he hb
            have hlt:e.on < ops.size:=by
              rcases Nat.lt_or_ge e.on listed.size with h|h
              · omega
              · simp [Array.getElem?_eq_none h] at hl
            simpa using hw' e.on hlt hl
        rw [h3] at h2
        have hb:Nat.beq j i=false:=by cases h:Nat.beq j i;rfl;exact absurd (Nat.eq_of_beq_eq_true h) hji
        simpa [hb] using h2
      have hjl:listed.getD j false=false:=by
        rw [Array.getD_eq_getD_getElem?] at hjun ⊢
        cases h:listed[j]? with
        | none=>rfl
        | some x=>rw [h] at hjun;simpa using hjun
      have hjok:=List.all_eq_true.1 hok j (List.mem_range.2 hjlt)
      have hb:Nat.beq j i=false:=by cases h:Nat.beq j i;rfl;exact absurd (Nat.eq_of_beq_eq_true h) hji
      simp only [hb,hjl,hjS,hi,hoj,Bool.not_true,Bool.false_or,Bool.and_eq_true,Bool.or_eq_true] at hjok
      obtain ⟨hap,hqe⟩:=hjok
      have hsz':(listed.setIfInBounds j true).size=ops.size:=by simpa using hsz
      have hw2:within (listed.setIfInBounds j true) S ops.size=true:=by
        refine List.all_eq_true.2 fun k hk=>?_
        rw [getD_set]
        have h2:=List.all_eq_true.1 hw k hk
        cases hk2:Nat.beq j k
        · simpa using h2
        · have:=Nat.eq_of_beq_eq_true hk2;subst this;rw [hjS];simp
      have hok2:okWhile ops q ext i (listed.setIfInBounds j true) S=true:=by
        refine List.all_eq_true.2 fun k hk=>?_
        have h2:=List.all_eq_true.1 hok k hk
        simp only [Bool.or_eq_true] at h2 ⊢
        rcases h2 with ((h2|h2)|h2)|h2
        · exact .inl (.inl (.inl h2))
        · exact .inl (.inl (.inr (by rw [getD_set,h2];rfl)))
        · exact .inl (.inr h2)
        · exact .inr h2
      have hr2:=ready_mono hr (Ne.symm hji)
      have hcomm:(listed.setIfInBounds i true).setIfInBounds j true=(listed.setIfInBounds j true).setIfInBounds i true:=Array.setIfInBounds_comm _ _ (Ne.symm hji)
      unfold mAt at h1 ⊢
      simp only [hoj] at h1 ⊢
      unfold MOne at h1 ⊢
      cases hq:q j with
      | true=>
        rw [hq] at h1
        simp only at h1 ⊢
        refine (q_put hap (fun cs b=>hsel i oi cs b hi) (fun cs b=>hsel j oj cs b hoj) hy h1).mono fun a' ⟨hy',k⟩=>?_
        rw [hcomm] at k
        exact ih _ β a' v hsz' hw2 hok2 hr2 hy' k
      | false=>
        rw [hq] at h1
        have hcase:ext j=true∨(ext j=false∧freeOp oi=true):=by
          cases he:ext j with
          | true=>exact .inl rfl
          | false=>
            rcases hqe with (h|h)|h
            · rw [hq] at h;cases h
            · rw [he] at h;cases h
            · exact .inr ⟨rfl,h⟩
        rcases hcase with hext|⟨hext,hfree⟩
        case inr=>
          simp only [hext] at h1 ⊢
          refine (one_put_free hfree hap (fun cs b=>hsel i oi cs b hi) (fun cs b=>hsel j oj cs b hoj) hy h1).mono fun a' v' ⟨hy',k⟩=>⟨k.1,?_⟩
          obtain ⟨γ,k⟩:=k.2
          rw [hcomm] at k
          exact ⟨γ,ih _ _ a' v' hsz' hw2 hok2 hr2 hy' k⟩
        simp only [hext] at h1 ⊢
        have h4:OneB P ops oj (fun a' v'=>Sub v v'∧((True→Sub v v')∧(kbAt ops j=true→BK β v v'))∧∃ γ,wpAnyM P ops q ext K fuel ((listed.setIfInBounds i true).setIfInBounds j true) (β++γ) a' v') (a.put oi.dst u) v:=
          h1.mono fun _ _ ⟨k1,k2⟩=>⟨k1.1 trivial,k1,k2⟩
        refine (one_put hap (fun cs b=>hsel i oi cs b hi) (fun cs b=>hsel j oj cs b hoj) hy h4).mono fun a' v' ⟨k1,hy',k⟩=>⟨k.1,?_⟩
        obtain ⟨γ,k⟩:=k.2
        rw [hcomm] at k
        exact ⟨γ,ih _ _ a' v' hsz' hw2 hok2 hr2 hy' k⟩
def YieldsS (P:Program) (ops:Array Oper) (β:List Nat) (v:World) (o:Oper) (u:Value) (a:Act):Prop:=∀ v',BK β v v'→YieldsB P ops v' o u a
theorem YieldsS.now {o:Oper} {u:Value} (h:YieldsS P ops β v o u a):YieldsB P ops v o u a:=h v (.refl β v)
theorem YieldsS.next {o:Oper} {u:Value} {v':World} (h:YieldsS P ops β v o u a) (k:BK β v v'):YieldsS P ops β v' o u a:=fun v2 h2=>h v2 (k.trans h2)
theorem YieldsS.more {o:Oper} {u:Value} (h:YieldsS P ops β v o u a) (γ:List Nat):YieldsS P ops (β++γ) v o u a:=fun v' k=>h v' fun b hb o ho hn=>k b (List.mem_append_left _ hb) o ho hn
theorem YieldsS.put {i j:Oper} {u:Value} (hsi:∀ cs b,i.op≠.select cs b) (h3:∀ d,j.dst=some d→d∉i.looksAt ops) (h:YieldsS P ops β v i u a) (z:Value):YieldsS P ops β v i u (a.put j.dst z):=
  fun v' hv=>(h v' hv).put hsi h3 z
theorem q_putS {i j:Oper} {u:Value} {K:Act→Prop} (hap:i.apart ops j=true) (hsi:∀ cs b,i.op≠.select cs b) (hsj:∀ cs b,j.op≠.select cs b) (hy:YieldsS P ops β v i u a)
    (h:QOne P ops j K (a.put i.dst u) v):QOne P ops j (fun a'=>YieldsS P ops β v i u a'∧K (a'.put i.dst u)) a v:=by
  obtain ⟨h1,h2,h3⟩:=Oper.apart_spec hap
  unfold QOne at *
  rw [wanted_put j a i.dst u h1] at h
  split
  · rename_i hw
    rw [if_pos hw] at h
    obtain ⟨z,hz,hk⟩:=h
    refine ⟨z,fun w hs=>?_,hy.put hsi h3 z,by rw [←Act.put_comm a u z h2];exact hk⟩
    have:=hz w hs
    rw [execOp_put j hsj a i.dst u h1] at this
    exact this
  · rename_i hw
    rw [if_neg hw] at h
    exact ⟨hy.put hsi h3 undef,by rw [←Act.put_comm a u undef h2];exact h⟩
theorem one_putS {i j:Oper} {u:Value} {K:Act→World→Prop} (hap:i.apart ops j=true) (hsi:∀ cs b,i.op≠.select cs b) (hsj:∀ cs b,j.op≠.select cs b) (hy:YieldsS P ops β v i u a)
    (h:OneB P ops j (fun a' v'=>BK β v v'∧K a' v') (a.put i.dst u) v):OneB P ops j (fun a' v'=>YieldsS P ops β v' i u a'∧K (a'.put i.dst u) v') a v:=by
  obtain ⟨h1,h2,h3⟩:=Oper.apart_spec hap
  unfold OneB at *
  rw [wanted_put j a i.dst u h1] at h
  split
  · rename_i hw
    rw [if_pos hw] at h
    intro w hs
    have hh:=h w hs
    rw [execOp_put j hsj a i.dst u h1] at hh
    generalize (execOp a.eval j).run P w=r at hh ⊢
    have put:∀ z v',BK β v v'∧K ((a.put i.dst u).put j.dst z) v'→YieldsS P ops β v' i u (a.put j.dst z)∧K ((a.put j.dst z).put i.dst u) v':=
      fun z v' ⟨k1,k2⟩=>⟨(hy.put hsi h3 z).next k1,by rw [←Act.put_comm a u z h2];exact k2⟩
    cases r with
    | ok x w'=>
      cases x<;>simp only [UponB] at hh ⊢
      case value=>obtain ⟨v',fr,k⟩:=hh;exact ⟨v',fr,put _ _ k⟩
      case skip=>obtain ⟨v',fr,k⟩:=hh;exact ⟨v',fr,put _ _ k⟩
      case enter=>exact ⟨hh.1,hh.2.mono fun e w'' ⟨z,v',he,fr,k⟩=>⟨z,v',he,fr,put _ _ k⟩⟩
    | halt x w'=>simp only [UponB] at hh
  · rename_i hw
    rw [if_neg hw] at h
    exact ⟨hy.put hsi h3 undef,by rw [←Act.put_comm a u undef h2];exact h.2⟩
theorem first_boxed {i:Nat} {oi:Oper} {u:Value} {S:Array Bool} (hi:ops[i]?=some oi) (hqi:q i=true) (hsel:∀ (j:Nat) (o:Oper) cs b,ops[j]?=some o→o.op≠.select cs b) (hcl:closedB ops i S=true):
    ∀ (fuel:Nat) (listed:Array Bool) (β:List Nat) (a:Act) (v:World),listed.size=ops.size→within listed S ops.size=true→okWhileB ops q i listed S=true→
      i∈Region.ready .any ops listed→YieldsS P ops β v oi u a→wpAnyM P ops q ext K fuel (listed.setIfInBounds i true) β (a.put oi.dst u) v→wpAnyM P ops q ext K (fuel+1) listed β a v:=by
  intro fuel
  induction fuel with
  | zero=>
    intro listed β a v _ _ _ hr hy H
    refine ⟨fun h=>(by rw [h] at hr;cases hr),fun j hj=>?_⟩
    by_cases hji:j=i
    · subst hji
      unfold mAt MOne
      simp only [hi,hqi]
      exact hy.now.to_q H
    · have:=ready_mono hj hji
      rw [H.1] at this
      cases this
  | succ fuel ih=>
    intro listed β a v hsz hw hok hr hy H
    refine ⟨fun h=>(by rw [h] at hr;cases hr),fun j hj=>?_⟩
    by_cases hji:j=i
    · subst hji
      unfold mAt MOne
      simp only [hi,hqi]
      exact hy.now.to_q H
    · have h1:=H.2 j (ready_mono hj hji)
      obtain ⟨hjun,oj,hoj,hall⟩:=mem_ready.1 hj
      have hjlt:j < ops.size:=by
        rcases Nat.lt_or_ge j ops.size with h|h
        · exact h
        · rw [Array.getElem?_eq_none h] at hoj;cases hoj
      have hw':∀ k,k < ops.size→listed.getD k false=true→S.getD k false=true:=by
        intro k hk hl
        have:=List.all_eq_true.1 hw k (List.mem_range.2 hk)
        simpa [hl] using this
      
      have hjS:S.getD j false=true:=by
        have h2:=List.all_eq_true.1 hcl j (List.mem_range.2 hjlt)
        simp only [hoj] at h2
        have h3:(oj.after.all fun e=>!Region.binds .any e || S.getD e.on false)=true:=by
          rw [Array.all_eq_true']
          intro e he
          cases hb:Region.binds .any e
          · rfl
          · have hl:=hall e he hb
            have hlt:e.on < ops.size:=by
              rcases Nat.lt_or_ge e.on listed.size with h|h
              · omega
              · simp [Array.getElem?_eq_none h] at hl
            simpa using hw' e.on hlt hl
        rw [h3] at h2
        have hb:Nat.beq j i=false:=by cases h:Nat.beq j i;rfl;exact absurd (Nat.eq_of_beq_eq_true h) hji
        simpa [hb] using h2
      have hjl:listed.getD j false=false:=by
        rw [Array.getD_eq_getD_getElem?] at hjun ⊢
        cases h:listed[j]? with
        | none=>rfl
        | some x=>rw [h] at hjun;simpa using hjun
      have hjok:=List.all_eq_true.1 hok j (List.mem_range.2 hjlt)
      have hb:Nat.beq j i=false:=by cases h:Nat.beq j i;rfl;exact absurd (Nat.eq_of_beq_eq_true h) hji
      simp only [hb,hjl,hjS,hi,hoj,Bool.not_true,Bool.false_or,Bool.and_eq_true,Bool.or_eq_true] at hjok
      obtain ⟨hap,hqe⟩:=hjok
      have hsz':(listed.setIfInBounds j true).size=ops.size:=by simpa using hsz
      have hw2:within (listed.setIfInBounds j true) S ops.size=true:=by
        refine List.all_eq_true.2 fun k hk=>?_
        rw [getD_set]
        have h2:=List.all_eq_true.1 hw k hk
        cases hk2:Nat.beq j k
        · simpa using h2
        · have:=Nat.eq_of_beq_eq_true hk2;subst this;rw [hjS];simp
      have hok2:okWhileB ops q i (listed.setIfInBounds j true) S=true:=by
        refine List.all_eq_true.2 fun k hk=>?_
        have h2:=List.all_eq_true.1 hok k hk
        simp only [Bool.or_eq_true] at h2 ⊢
        rcases h2 with ((h2|h2)|h2)|h2
        · exact .inl (.inl (.inl h2))
        · exact .inl (.inl (.inr (by rw [getD_set,h2];rfl)))
        · exact .inl (.inr h2)
        · exact .inr h2
      have hr2:=ready_mono hr (Ne.symm hji)
      have hcomm:(listed.setIfInBounds i true).setIfInBounds j true=(listed.setIfInBounds j true).setIfInBounds i true:=Array.setIfInBounds_comm _ _ (Ne.symm hji)
      unfold mAt at h1 ⊢
      simp only [hoj] at h1 ⊢
      unfold MOne at h1 ⊢
      cases hq:q j with
      | true=>
        rw [hq] at h1
        simp only at h1 ⊢
        refine (q_putS hap (fun cs b=>hsel i oi cs b hi) (fun cs b=>hsel j oj cs b hoj) hy h1).mono fun a' ⟨hy',k⟩=>?_
        rw [hcomm] at k
        exact ih _ β a' v hsz' hw2 hok2 hr2 hy' k
      | false=>
        rw [hq] at h1
        have hkb:kbAt ops j=true:=by
          rcases hqe with h|h
          · rw [hq] at h;cases h
          · exact h
        simp only [hkb] at h1 ⊢
        have h4:OneB P ops oj (fun a' v'=>BK β v v'∧((ext j=true→Sub v v')∧(True→BK β v v'))∧∃ γ,wpAnyM P ops q ext K fuel ((listed.setIfInBounds i true).setIfInBounds j true) (β++γ) a' v') (a.put oi.dst u) v:=
          h1.mono fun _ _ ⟨k1,k2⟩=>⟨k1.2 trivial,k1,k2⟩
        refine (one_putS hap (fun cs b=>hsel i oi cs b hi) (fun cs b=>hsel j oj cs b hoj) hy h4).mono fun a' v' ⟨hy',k⟩=>⟨k.1,?_⟩
        obtain ⟨γ,k⟩:=k.2
        rw [hcomm] at k
        exact ⟨γ,ih _ _ a' v' hsz' hw2 hok2 hr2 (hy'.more γ) k⟩
theorem allC_mem:∀ {l:List Nat} {f:Nat→Prop},allC l f→∀ i,i∈l→f i
  | [],_,_,i,hi=>by cases hi
  | [j],f,h,i,hi=>by rw [List.mem_singleton] at hi;subst hi;exact h
  | j ::k ::r,f,h,i,hi=>by
    simp only [allC] at h
    rcases List.mem_cons.1 hi with rfl|hi
    · exact h.1
    · exact allC_mem h.2 i hi
def AutoB (P:Program) (ops:Array Oper) (q ext:Nat→Bool) (K:Act→World→Prop):Nat→Array Bool→List Nat→Act→World→Prop
  | 0,listed,_,a,v=>Region.ready .any ops listed=[]∧K a v
  | fuel+1,listed,β,a,v=>match Region.ready .any ops listed with
    | []=>K a v
    | l=>(∃ i,i∈l∧q i=true∧firstOk ops q ext i listed=true∧mAt P ops q ext i (AutoB P ops q ext K fuel (listed.setIfInBounds i true)) β a v)∨
      (∃ i oi u,i∈l∧ops[i]?=some oi∧q i=true∧firstOkB ops q i listed=true∧YieldsS P ops β v oi u a∧AutoB P ops q ext K fuel (listed.setIfInBounds i true) β (a.put oi.dst u) v)∨
      ∀ i,i∈l→mAt P ops q ext i (AutoB P ops q ext K fuel (listed.setIfInBounds i true)) β a v
theorem mAt_mono {K K':List Nat→Act→World→Prop} {i:Nat} (hk:∀ β a v,K β a v→K' β a v) (h:mAt P ops q ext i K β a v):mAt P ops q ext i K' β a v:=by
  unfold mAt at h ⊢
  split at h
  · exact hk _ _ _ h
  · unfold MOne at h ⊢
    split at h
    · exact h.mono fun _ h'=>hk _ _ _ h'
    · exact h.mono fun _ _ h'=>⟨h'.1,h'.2.elim fun γ h'=>⟨γ,hk _ _ _ h'⟩⟩
theorem AutoB_mono {K K':Act→World→Prop} (hk:∀ a v,K a v→K' a v):∀ (fuel:Nat) (listed:Array Bool) {β:List Nat} {a:Act} {v:World},AutoB P ops q ext K fuel listed β a v→AutoB P ops q ext K' fuel listed β a v
  | 0,_,_,_,_,h=>⟨h.1,hk _ _ h.2⟩
  | fuel+1,listed,β,a,v,h=>by
    have ih:=fun i β a v h=>AutoB_mono hk fuel (listed.setIfInBounds i true) (β:=β) (a:=a) (v:=v) h
    unfold AutoB at h ⊢
    split
    · rename_i hr;simp only [hr] at h;exact hk _ _ h
    · rename_i hr
      split at h
      · rename_i hr2;exact absurd hr2 (by simpa using hr)
      rcases h with ⟨i,h1,h2,h3,h4⟩|⟨i,oi,u,h1,h2,h3,h4,h5,h6⟩|h
      · exact .inl ⟨i,h1,h2,h3,mAt_mono (ih i) h4⟩
      · exact .inr (.inl ⟨i,oi,u,h1,h2,h3,h4,h5,ih i _ _ _ h6⟩)
      · exact .inr (.inr fun i hi=>mAt_mono (ih i) (h i hi))
theorem tb_eq (m j:Nat):tb m j=m.testBit j:=by
  have e:Nat.land (Nat.shiftRight m j) 1=m / 2 ^ j % 2:=by
    show (m >>> j) &&& 1=_
    rw [Nat.shiftRight_eq_div_pow,Nat.and_one_is_mod]
  unfold tb
  rw [e,Nat.testBit_eq_decide_div_mod_eq,Bool.eq_iff_iff]
  simp [Nat.beq_eq]
theorem mskL_bit:∀ (l:List Bool) (j:Nat),(mskL l).testBit j=l.getD j false
  | [],j=>by simp [mskL]
  | b ::r,0=>by
    have e:mskL (b ::r)=2 * mskL r+(bif b then 1 else 0):=rfl
    rw [e,Nat.testBit_zero]
    cases b<;>simp
  | b ::r,j+1=>by
    have e:mskL (b ::r)=2 * mskL r+(bif b then 1 else 0):=rfl
    rw [e,Nat.testBit_succ,show (2 * mskL r+(bif b then 1 else 0)) / 2=mskL r from by cases b<;>simp<;>omega,mskL_bit r j]
    simp
theorem subM_iff {a m:Nat}:subM a m=true↔∀ k,a.testBit k=true→m.testBit k=true:=by
  have e:subM a m=true↔a &&& m=a:=by unfold subM;rw [Nat.beq_eq];rfl
  rw [e]
  constructor
  · intro h k hk
    rw [←h,Nat.testBit_and,Bool.and_eq_true] at hk
    exact hk.2
  · intro h
    apply Nat.eq_of_testBit_eq
    intro k
    rw [Nat.testBit_and]
    cases ha:a.testBit k
    · rfl
    · rw [h k ha];rfl
theorem aftL_bit:∀ (l:List Edge) (k:Nat),(aftL l).testBit k=true→∃ e∈l,Region.binds .any e=true∧e.on=k
  | [],k,h=>by simp [aftL] at h
  | e ::r,k,h=>by
    unfold aftL at h
    cases hb:Region.binds .any e with
    | false=>
      rw [hb] at h
      obtain ⟨e',h1,h2⟩:=aftL_bit r k h
      exact ⟨e',List.mem_cons_of_mem _ h1,h2⟩
    | true=>
      rw [hb] at h
      have h:((1 <<< e.on) ||| aftL r).testBit k=true:=h
      rw [Nat.testBit_or,Bool.or_eq_true,Nat.shiftLeft_eq,Nat.one_mul,Nat.testBit_two_pow] at h
      rcases h with h|h
      · exact ⟨e,List.mem_cons_self,hb,of_decide_eq_true h⟩
      · obtain ⟨e',h1,h2⟩:=aftL_bit r k h
        exact ⟨e',List.mem_cons_of_mem _ h1,h2⟩
theorem closedL_at {i m:Nat}:∀ (l:List Oper) (s k:Nat) (o:Oper),closedL i m l s=true→l[k]?=some o→(tb m (s+k) || Nat.beq (s+k) i || !(subM (aftL o.after.toList) m))=true
  | [],s,k,o,_,h=>by simp at h
  | o' ::r,s,0,o,h,h2=>by
    unfold closedL at h
    rw [Bool.and_eq_true] at h
    cases h2
    exact h.1
  | o' ::r,s,k+1,o,h,h2=>by
    unfold closedL at h
    rw [Bool.and_eq_true] at h
    have:=closedL_at r (s+1) k o h.2 (by simpa using h2)
    rwa [show s+1+k=s+(k+1) from by omega] at this
def setM (n m:Nat):Array Bool:=((List.range n).map (tb m)).toArray
theorem setM_get (n m j:Nat):(setM n m).getD j false=(decide (j < n) && tb m j):=by
  unfold setM
  simp only [Array.getD_eq_getD_getElem?,List.getElem?_toArray,List.getElem?_map]
  by_cases h:j < n
  · rw [List.getElem?_range h];simp [h]
  · rw [List.getElem?_eq_none (by simp;omega)];simp [h]
theorem listed_bit (listed:Array Bool) (j:Nat):tb (mskL listed.toList) j=listed.getD j false:=by
  rw [tb_eq,mskL_bit,Array.getD_eq_getD_getElem?,List.getD_eq_getElem?_getD,Array.getElem?_toList]
theorem closed_of {ops:Array Oper} {i m:Nat} (h:closedL i m ops.toList 0=true):closedB ops i (setM ops.size m)=true:=by
  unfold closedB
  rw [List.all_eq_true]
  intro j hj
  rw [List.mem_range] at hj
  have hjl:ops[j]?=some ops[j]:=Array.getElem?_eq_getElem hj
  rw [hjl]
  have h1:=closedL_at ops.toList 0 j ops[j] h (by rw [Array.getElem?_toList,hjl])
  rw [Nat.zero_add] at h1
  simp only [Bool.or_eq_true,Bool.not_eq_true'] at h1 ⊢
  rcases h1 with (h1|h1)|h1
  · right;rw [setM_get,h1];simp [hj]
  · left;right;exact h1
  · left;left
    cases hall:(ops[j].after.all fun e=>!Region.binds .any e || (setM ops.size m).getD e.on false) with
    | false=>rfl
    | true=>
      exfalso
      have:subM (aftL ops[j].after.toList) m=true:=by
        rw [subM_iff]
        intro k hk
        obtain ⟨e,he,hb,rfl⟩:=aftL_bit _ k hk
        rw [Array.all_eq_true'] at hall
        have h2:=hall e (by simpa using he)
        rw [hb,setM_get] at h2
        simp at h2
        rw [←tb_eq]
        exact h2.2
      rw [this] at h1
      cases h1
theorem within_of {ops:Array Oper} {listed:Array Bool} {m:Nat} (h:subM (mskL listed.toList) m=true):within listed (setM ops.size m) ops.size=true:=by
  unfold within
  rw [List.all_eq_true]
  intro j hj
  rw [List.mem_range] at hj
  rw [subM_iff] at h
  rw [setM_get,←listed_bit]
  cases hl:tb (mskL listed.toList) j with
  | false=>rfl
  | true=>
    rw [tb_eq] at hl
    rw [tb_eq,h j hl]
    simp [hj]
theorem firstOk_spec {q ext:Nat→Bool} {ops:Array Oper} {i:Nat} {listed:Array Bool} (h:firstOk ops q ext i listed=true):∃ S,closedB ops i S=true∧within listed S ops.size=true∧okWhile ops q ext i listed S=true:=by
  unfold firstOk at h
  dsimp only at h
  rw [Bool.and_eq_true,Bool.and_eq_true] at h
  obtain ⟨⟨h1,h2⟩,h3⟩:=h
  refine ⟨setM ops.size (growL i ops.toList 0 (growL i ops.toList 0 (mskL listed.toList))),closed_of h1,within_of h2,?_⟩
  unfold okWhile
  rw [List.all_eq_true] at h3 ⊢
  intro j hj
  have h4:=h3 j hj
  rw [List.mem_range] at hj
  rw [setM_get,←listed_bit,decide_eq_true hj,Bool.true_and]
  exact h4
theorem firstOkB_spec {q:Nat→Bool} {ops:Array Oper} {i:Nat} {listed:Array Bool} (h:firstOkB ops q i listed=true):∃ S,closedB ops i S=true∧within listed S ops.size=true∧okWhileB ops q i listed S=true:=by
  unfold firstOkB at h
  dsimp only at h
  rw [Bool.and_eq_true,Bool.and_eq_true] at h
  obtain ⟨⟨h1,h2⟩,h3⟩:=h
  refine ⟨setM ops.size (growL i ops.toList 0 (growL i ops.toList 0 (mskL listed.toList))),closed_of h1,within_of h2,?_⟩
  unfold okWhileB
  rw [List.all_eq_true] at h3 ⊢
  intro j hj
  have h4:=h3 j hj
  rw [List.mem_range] at hj
  rw [setM_get,←listed_bit,decide_eq_true hj,Bool.true_and]
  exact h4
theorem wpAnyM_of_auto (hs:Region.noSelect ops=true):∀ (fuel:Nat) (listed:Array Bool) (β:List Nat) (a:Act) (v:World),listed.size=ops.size→
    AutoB P ops q ext K fuel listed β a v→wpAnyM P ops q ext K fuel listed β a v
  | 0,_,_,_,_,_,h=>h
  | fuel+1,listed,β,a,v,hsz,h=>by
    have ih:=fun i β a v hm=>wpAnyM_of_auto hs fuel (listed.setIfInBounds i true) β a v (by simpa using hsz) hm
    unfold AutoB at h
    split at h
    · rename_i hr
      exact ⟨fun _=>h,fun i hi=>(by rw [hr] at hi;cases hi)⟩
    · rename_i l hne
      rcases h with ⟨i,hmem,hq,hok,hm⟩|⟨i,oi,u,hmem,hoi,hq,hok,hy,hk⟩|h
      · obtain ⟨S,hcl,hwi,hok⟩:=firstOk_spec hok
        obtain ⟨_,oi,hoi,_⟩:=mem_ready.1 hmem
        unfold mAt at hm
        simp only [hoi] at hm
        unfold MOne at hm
        rw [hq] at hm
        simp only at hm
        obtain ⟨u,hy,hk⟩:=YieldsB.of_q hm
        exact first_mixed hoi hq (Region.noSelect_spec hs) hcl fuel listed β a v hsz hwi hok hmem hy (ih i _ _ v hk)
      · obtain ⟨S,hcl,hwi,hok⟩:=firstOkB_spec hok
        exact first_boxed hoi hq (Region.noSelect_spec hs) hcl fuel listed β a v hsz hwi hok hmem hy (ih i _ _ v hk)
      · refine ⟨fun h0=>absurd h0 (by simpa using hne),fun i hi=>mAt_mono (fun β a v hm=>ih i β a v hm) (h i hi)⟩
theorem codeB_region_auto {id:Nat} {Q:Exit→Act→World→Prop} (β:List Nat) (hm:P.follows .mixedOrders=true) (hs:Region.noSelect ops=true)
    (h:AutoB P ops q ext (Q .normal) ops.size (Array.replicate ops.size false) β a v):CodeB P (.region id ops true) Q a v:=by
  intro w hsub
  have hd:Sub v { w with drawn:=w.drawn+1 }:=⟨hsub.size,hsub.at_⟩
  have h0:Fr v w v { w with drawn:=w.drawn+1 }:=⟨hd,Nat.le_refl _,rfl,rfl,rfl,fun _ _ k=>⟨k,rfl⟩⟩
  refine wp_region_any hm ?_
  have:=wpAnyM_of_auto hs ops.size _ β a v (by simp) h
  exact wpAny_of_M (v0:=v) (w0:=w) (fun a' v' w' fr k=>⟨v',fr,k⟩) _ _ β a v _ h0 this
end
end Go.Vc
