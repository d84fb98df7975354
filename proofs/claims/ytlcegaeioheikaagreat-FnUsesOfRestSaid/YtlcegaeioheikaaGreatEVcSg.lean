/- Part of the proofs about the heaps and memories: a law is joined in the text whose name ends in W and the law. -/
import Derived.Test.YtlcegaeioheikaaGreatEVcSf
import Derived.Test.YtlcegaeioheikaaGreatEVcMix
set_option linter.all false
namespace Go.Vc
open Go
section
variable {P:Program} {A:Ann} {n:Nat} {s:Sy} {β:List Nat} {a:Act} {v u:World} {C:List (Nat×Bool)} {o:Oper} {ops:Array Oper}
def Keep (m:Nat) (e e':List (Nat×SV)) (ws:List Nat):Prop:=∀ p,p∈e→p.1∉ws→wf2 m p.2=true→p∈e'
theorem Keep.refl (m:Nat) (e:List (Nat×SV)) (ws:List Nat):Keep m e e ws:=fun _ h _ _=>h
theorem Keep.trans {m m':Nat} {e e' e'':List (Nat×SV)} {ws ws' ws'':List Nat} (hm:m≤m') (h:Keep m e e' ws) (k:Keep m' e' e'' ws') (h1:∀ x,x∈ws→x∈ws'') (h2:∀ x,x∈ws'→x∈ws''):
    Keep m e e'' ws'':=fun p hp hn hw=>k p (h p hp (fun hx=>hn (h1 _ hx)) hw) (fun hx=>hn (h2 _ hx)) (wf2_mono hm hw)
theorem Keep.more {m:Nat} {e e':List (Nat×SV)} {ws ws':List Nat} (h:Keep m e e' ws) (h1:∀ x,x∈ws→x∈ws'):Keep m e e' ws':=
  fun p hp hn hw=>h p hp (fun hx=>hn (h1 _ hx)) hw
theorem put_step (h:Rel n s β a v u) {dst:Option Nat} {C:List (Nat×Bool)} {x:SV} {z:Value} {Kt:Sy→Prop} (hp:put n dst (gdSV C x) s Kt) (hw:wf2 s.box.length x=true)
    (h1:dst≠none→holdsC a.tmps C→z=den β x) (h2:dst≠none→¬ holdsC a.tmps C→z=undef):
    ∃ s',Kt s'∧Rel n s' β (a.put dst z) v u∧∀ m,Keep m s.env s'.env dst.toList:=by
  unfold put at hp
  split at hp
  · exact ⟨s,hp,h.noDst z,fun m=>.refl _ _ _⟩
  · rename_i d
    split at hp<;>first|exact hp.elim|skip
    rename_i hb
    simp only [Bool.and_eq_true,Bool.not_eq_true'] at hb
    refine ⟨_,hp,h.put_gd (Nat.le_of_ble_eq_true hb.1) hb.2 hw (h1 (by simp)) (h2 (by simp)),fun m p hp hn hw'=>?_⟩
    simp only [setE,List.mem_cons,List.mem_filter,Bool.and_eq_true,Bool.not_eq_true']
    refine .inr ⟨hp,?_,?_⟩
    · cases hb2:Nat.beq p.1 d
      · rfl
      · exact absurd (Nat.eq_of_beq_eq_true hb2) (fun e=>hn (by simp [e]))
    · cases hq:p.2<;>first|rfl|(rw [hq] at hw';simp [wf2] at hw')
theorem yielded_of {j t:Nat} (hj:(ops[j]?).bind (·.dst)=some t) (tmps:Array Value) (q:Bool):yielded ops tmps j=some q↔tmps[t]?=some (.bool q):=by
  unfold yielded
  rw [hj]
  simp only [Option.bind_some]
  cases ht:tmps[t]? with
  | none=>simp
  | some x=>cases x<;>simp
theorem guard_spec (h:Rel n s β a v u) {g:Option (Nat×Bool)} (hg:guardOf ops s g=some C) (ho:o.guard=g):
    Region.wanted o (yielded ops a.tmps)=true↔holdsC a.tmps C:=by
  unfold guardOf at hg
  unfold Region.wanted
  rw [ho]
  split at hg
  · simp only [Option.some.injEq] at hg
    subst hg
    exact ⟨fun _ p hp=>by (cases hp),fun _=>rfl⟩
  · rename_i j want
    split at hg<;>first|cases hg;done|skip
    rename_i t hj
    have hy:=yielded_of hj a.tmps want
    have one:(yielded ops a.tmps j == some want)=true↔holdsC a.tmps [(t,want)]:=by
      rw [beq_iff_eq,hy]
      exact ⟨fun e p hp=>by rw [List.mem_singleton] at hp;subst hp;exact e,fun e=>e (t,want) (List.mem_singleton.2 rfl)⟩
    split at hg<;>first|cases hg;done|skip
    · simp only [Option.some.injEq] at hg;subst hg;exact one
    · simp only [Option.some.injEq] at hg;subst hg;exact one
    · simp only [Option.some.injEq] at hg;subst hg;exact one
    all_goals
      rename_i hl
      simp only [Option.some.injEq] at hg
      subst hg
      have hm:=(h.env _ (lookN_mem hl)).1
      simp only [AgE] at hm
      show (yielded ops a.tmps j == some want)=true↔_
      rw [beq_iff_eq,hy]
      refine ⟨fun e p hp=>?_,fun e=>e (t,want) List.mem_cons_self⟩
      rcases List.mem_cons.1 hp with rfl|hp
      · exact e
      · rcases Classical.em (holdsC a.tmps _) with hh|hh
        · exact hh p hp
        · have:=hm.2 hh
          rw [e] at this
          exact absurd (Option.some.inj this).symm undef_ne_bool
theorem Rel.relit_ (h:Rel n s β a v u) {t:Nat} {q:Bool} (ht:a.tmps[t]?=some (.bool q)):Rel n (relit s t q) β a v u:=by
  refine ⟨h.size,h.defers,fun p hp=>?_,h.sub,h.len,h.nodup,h.box,h.rest⟩
  obtain ⟨p',hp',rfl⟩:=List.mem_map.1 hp
  cases hb:Nat.beq p'.1 t
  · exact h.env p' hp'
  · simp only [cond_true]
    cases q
    · exact ⟨ht,rfl⟩
    · exact ⟨ht,rfl⟩
theorem keep_relit (m:Nat) (s:Sy) (t:Nat) (q:Bool):Keep m s.env (relit s t q).env [t]:=by
  intro p hp hn _
  refine List.mem_map.2 ⟨p,hp,?_⟩
  cases hb:Nat.beq p.1 t
  · rfl
  · exact absurd (Nat.eq_of_beq_eq_true hb) (fun e=>hn (by simp [e]))
theorem skips_spec (h:Rel n s β a v u):∀ {C:List (Nat×Bool)},skips s C=true→¬ holdsC a.tmps C
  | [],hsk=>by cases hsk
  | (t,want) ::r,hsk=>by
    intro hC
    have e:=hC (t,want) List.mem_cons_self
    have hr:skips s r=true→False:=fun hs=>skips_spec h hs fun p hp=>hC p (List.mem_cons_of_mem _ hp)
    have lit:∀ q:Bool,(lookN t s.env=some (bif q then .tt else .ff)∨∃ c,lookN t s.env=some (.gd c (bif q then .tt else .ff)))→want=q:=by
      intro q hl
      rcases hl with hl|⟨c,hl⟩
      · have hm:=(h.env _ (lookN_mem hl)).1
        cases q<;>(simp only [cond_true,cond_false,AgE,den,den1,den0] at hm;rw [hm] at e;injection e with e;injection e with e;exact e.symm)
      · have hm:=(h.env _ (lookN_mem hl)).1
        rcases Classical.em (holdsC a.tmps c) with hh|hh
        · have:=hm.1 hh
          rw [e] at this
          cases q<;>(simp only [cond_true,cond_false,den,den1,den0] at this;injection this with this;injection this)
        · have:=hm.2 hh
          rw [e] at this
          exact absurd (Option.some.inj this).symm undef_ne_bool
    simp only [skips] at hsk
    split at hsk
    · rename_i hl
      have:=lit true (.inl hl)
      subst this
      exact hr (by simpa using hsk)
    · rename_i c hl
      have:=lit true (.inr ⟨c,hl⟩)
      subst this
      exact hr (by simpa using hsk)
    · rename_i hl
      have:=lit false (.inl hl)
      subst this
      exact hr (by simpa using hsk)
    · rename_i c hl
      have:=lit false (.inr ⟨c,hl⟩)
      subst this
      exact hr (by simpa using hsk)
    · exact hr hsk
def guardSlot (ops:Array Oper) (o:Oper):List Nat:=match o.guard with
  | some (j,_)=>((ops[j]?).bind (·.dst)).toList
  | none=>[]
theorem guardOf_slot {g:Option (Nat×Bool)} {t:Nat} {want:Bool} {r:List (Nat×Bool)} (hg:guardOf ops s g=some ((t,want) ::r)) (ho:o.guard=g):t∈guardSlot ops o:=by
  unfold guardOf at hg
  unfold guardSlot
  rw [ho]
  split at hg
  · cases hg
  · rename_i j w
    split at hg<;>first|(cases hg;done)|skip
    rename_i t' hj
    simp only [hj]
    split at hg<;>first|(cases hg;done)|skip
    all_goals
      simp only [Option.some.injEq,List.cons.injEq,Prod.mk.injEq] at hg
      simp [hg.1.1]
def Behind (n:Nat) (e:List (Nat×SV)) (ws:List Nat) (v u:World) (st:Bool) (β:List Nat) (Kt:Sy→World→Prop) (a':Act) (u':World):Prop:=
  ∃ s' γ v',(st=false→(Sub v v'→Sub u u')∧BK β u u')∧Kt s' v'∧Rel n s' (β++γ) a' v' u'∧Keep β.length e s'.env ws
theorem value_quiet {z:SV} {K:Act→Prop} (hrun:∀ w:World,Sub u w→(execOp a.eval o).run P w=.ok (.value (den β z)) w) (hk:K (a.put o.dst (den β z))):QuietB P o K a u:=
  ⟨den β z,fun w hs=>by rw [hrun w hs];exact ⟨rfl,rfl⟩,hk⟩
theorem pureCall_sound (h:Rel n s β a v u) {Kt:SV→Prop} (hp:pureCall P C o s v Kt):∃ z,Kt z∧wf2 s.box.length z=true∧
    (holdsC a.tmps C→∀ K:Act→Prop,K (a.put o.dst (den β z))→QuietB P o K a u):=by
  unfold pureCall at hp
  split at hp<;>first|exact hp.elim|skip
  rename_i c ho
  split at hp<;>first|exact hp.elim|skip
  rename_i f l hc
  split at hp<;>first|exact hp.elim|skip
  rename_i hl
  obtain ⟨r,hr,hp⟩:=partK_mem hp
  have go:∀ z:SV,clean z=true→Kt z→imp s C (Trip P f (l.map (den [])).toArray v fun x w'=>x=den [] z∧Sub v w')→∃ z,Kt z∧wf2 s.box.length z=true∧
      (holdsC a.tmps C→∀ K:Act→Prop,K (a.put o.dst (den β z))→QuietB P o K a u):=by
    intro z hz hk hi
    refine ⟨z,hk,wf2_clean hz,fun hC K hK=>⟨den β z,fun w hs=>?_,hK⟩⟩
    have ht:=imp_of h hC hi
    rw [call_run h hC ho hc hl ht w]
    simp only [QUpon]
    refine ⟨trivial,(ht.2 w (h.sub.trans hs)).mono fun e w'' ⟨r,v',he,fr,hr,hsub⟩=>?_⟩
    rw [he,hr,den_clean β hz]
    refine ⟨rfl,?_⟩
    have fr2:=fr.weaken hsub
    
    obtain ⟨u',hrel,hfr,_⟩:=h.rebase hs fr2
    refine ⟨⟨Nat.le_trans hs.size fr.size,fun b q hb hq=>?_⟩,fr.size,fr.os,fr.tape,fr.output,fun b hb ho=>⟨ho,(hfr.out b hb ho).2⟩⟩
    have hw:=hs.at_ b q hb hq
    rcases Classical.em (Out v b) with hov|hov
    · rw [(fr.out b (getElem?_lt hw) hov).2];exact hw
    · have:∃ q',v.heap[b]?=some q'∧q'≠absent:=by
        refine Classical.byContradiction fun hne=>hov fun q' hq'=>Classical.byContradiction fun hne'=>hne ⟨q',hq',hne'⟩
      obtain ⟨q',h1,h2⟩:=this
      have e1:=h.sub.at_ b q' h1 h2
      rw [hb] at e1
      cases e1
      exact (fr2.sub).at_ b q h1 h2
  split at hp
  · exact go (.tp _) (by simpa [clean] using hr) hp.2 hp.1
  · rename_i y hu
    have hy:clean1 y=true:=by simpa using hr
    refine go y (clean_of_clean1 hy) hp.2 ?_
    rw [den_of_clean1 [] hy];exact hp.1
  · exact hp.elim
theorem quiet_sound (h:Rel n s β a v u) {Kt:Sy→World→Prop} (he:isEff A o=false) (hp:oneOp P A n ops o s v Kt):
    QOne P ops o (fun a'=>∃ s',Kt s' v∧Rel n s' β a' v u∧Keep β.length s.env s'.env (o.dst.toList++guardSlot ops o)) a u:=by
  unfold oneOp at hp
  split at hp<;>first|exact hp.elim|skip
  rename_i C hg
  have hgs:=guard_spec h hg rfl
  have more:∀ {e e':List (Nat×SV)},(∀ m,Keep m e e' o.dst.toList)→Keep β.length e e' (o.dst.toList++guardSlot ops o):=fun hk=>(hk _).more fun x hx=>List.mem_append_left _ hx
  unfold QOne
  split at hp
  · rename_i hsk
    have hC:=skips_spec h hsk
    rw [if_neg (fun hw=>hC (hgs.1 hw))]
    obtain ⟨s',hk',hrel,hkp⟩:=put_step h (z:=undef) hp rfl (fun _ hc=>absurd hc hC) (fun _ _=>rfl)
    exact ⟨s',hk',hrel,more hkp⟩
  · split at hp
    · obtain ⟨z,hk,hw,hrun⟩:=pure_sound h hp
      split
      · rename_i hwant
        have hC:=hgs.1 hwant
        obtain ⟨s',hk',hrel,hkp⟩:=put_step h (z:=den β z) hk hw (fun _ _=>rfl) (fun _ hn=>absurd hC hn)
        exact value_quiet (hrun hC) ⟨s',hk',hrel,more hkp⟩
      · rename_i hwant
        have hC:¬ holdsC a.tmps C:=fun hc=>hwant (hgs.2 hc)
        obtain ⟨s',hk',hrel,hkp⟩:=put_step h (z:=undef) hk hw (fun _ hc=>absurd hc hC) (fun _ _=>rfl)
        exact ⟨s',hk',hrel,more hkp⟩
    · obtain ⟨z,hk,hw,hrun⟩:=pureCall_sound h hp
      split
      · rename_i hwant
        have hC:=hgs.1 hwant
        obtain ⟨s',hk',hrel,hkp⟩:=put_step h (z:=den β z) hk hw (fun _ _=>rfl) (fun _ hn=>absurd hC hn)
        exact hrun hC _ ⟨s',hk',hrel,more hkp⟩
      · rename_i hwant
        have hC:¬ holdsC a.tmps C:=fun hc=>hwant (hgs.2 hc)
        obtain ⟨s',hk',hrel,hkp⟩:=put_step h (z:=undef) hk hw (fun _ hc=>absurd hc hC) (fun _ _=>rfl)
        exact ⟨s',hk',hrel,more hkp⟩
    · rename_i heq
      rw [he] at heq;cases heq
theorem oneOp_sound (h:Rel n s β a v u) {Kt:Sy→World→Prop} (hp:oneOp P A n ops o s v Kt):OneB P ops o (Behind n s.env (o.dst.toList++guardSlot ops o) v u (isStore o) β Kt) a u:=by
  cases he:isEff A o with
  | false=>
    have hq:=quiet_sound h he hp
    refine oneB_of_quiet ?_
    unfold QOne at hq ⊢
    split
    · rename_i hw
      rw [if_pos hw] at hq
      obtain ⟨z,h1,s',h2,h3,h4⟩:=hq
      exact ⟨z,h1,s',[],v,fun _=>⟨fun _=>.refl u,.refl β u⟩,h2,by simpa using h3,h4⟩
    · rename_i hw
      rw [if_neg hw] at hq
      obtain ⟨s',h2,h3,h4⟩:=hq
      exact ⟨s',[],v,fun _=>⟨fun _=>.refl u,.refl β u⟩,h2,by simpa using h3,h4⟩
  | true=>
    unfold oneOp at hp
    split at hp<;>first|exact hp.elim|skip
    rename_i C hg
    have hgs:=guard_spec h hg rfl
    unfold OneB
    split at hp
    · rename_i hsk
      have hC:=skips_spec h hsk
      rw [if_neg (fun hw=>hC (hgs.1 hw))]
      obtain ⟨s',hk',hrel,hkp⟩:=put_step h (z:=undef) hp rfl (fun _ hc=>absurd hc hC) (fun _ _=>rfl)
      exact ⟨s',[],v,fun _=>⟨fun _=>.refl u,.refl β u⟩,hk',by simpa using hrel,(hkp _).more fun x hx=>List.mem_append_left _ hx⟩
    rename_i hsk0
    rw [he] at hp
    simp only at hp
    split at hp
    · have hC:holdsC a.tmps []:=fun p hp=>by cases hp
      rw [if_pos (hgs.2 hC)]
      refine (eff_sound h hC hp).mono fun a' u' ⟨x,s',γ,v',hgr,hk,hrel,hw,hse,z,ha,hz⟩=>?_
      obtain ⟨s'',hk',hrel',hkp⟩:=put_step (C:=[]) hrel (z:=z) hk hw (fun hd _=>hz hd) (fun _ hn=>absurd (fun p hp=>by cases hp) hn)
      exact ⟨s'',γ,v',hgr,hk',by rw [ha];exact hrel',by rw [←hse];exact (hkp _).more fun x hx=>List.mem_append_left _ hx⟩
    · rename_i t want
      have hslot:t∈guardSlot ops o:=guardOf_slot hg rfl
      have run:∀ {s1:Sy},Rel n s1 β a v u→holdsC a.tmps [(t,want)]→Keep β.length s.env s1.env [t]→
          (effOp P A [(t,want)] o s1 v fun x s' w'=>put n o.dst (.gd [(t,want)] x) s' fun s''=>Kt s'' w')→
          StepB P o (Behind n s.env (o.dst.toList++guardSlot ops o) v u (isStore o) β Kt) a u:=by
        intro s1 hr hC hk1 hp1
        refine (eff_sound hr hC hp1).mono fun a' u' ⟨x,s',γ,v',hgr,hk,hrel,hw,hse,z,ha,hz⟩=>?_
        obtain ⟨s'',hk',hrel',hkp⟩:=put_step (C:=[(t,want)]) hrel (z:=z) hk hw (fun hd _=>hz hd) (fun _ hn=>absurd hC hn)
        refine ⟨s'',γ,v',hgr,hk',by rw [ha];exact hrel',?_⟩
        have hkp':=hkp β.length
        rw [hse] at hkp'
        exact hk1.trans (Nat.le_refl _) hkp' (fun x hx=>by rw [List.mem_singleton] at hx;subst hx;exact List.mem_append_right _ hslot) (fun x hx=>List.mem_append_left _ hx)
      split at hp<;>first|exact hp.elim|skip
      · rename_i q hl
        have hm:=(h.env _ (lookN_mem hl)).1
        simp only [AgE,den,den1,den0] at hm
        split
        · rename_i hwant
          have hC:=hgs.1 hwant
          have e:=hC (t,want) (List.mem_singleton.2 rfl)
          have e2:=e
          rw [hm] at e
          have hq:q=want:=by injection e with e;injection e
          exact run (h.relit_ e2) hC (keep_relit _ s t want) (hp.1 hq)
        · rename_i hwant
          have hC:¬ holdsC a.tmps [(t,want)]:=fun hc=>hwant (hgs.2 hc)
          have hq:q=!want:=by
            rcases Classical.em (q=want) with e|e
            · refine absurd (fun p hp=>?_) hC
              rw [List.mem_singleton] at hp
              subst hp
              rw [hm,e]
            · cases q<;>cases want<;>simp_all
          obtain ⟨s',hk',hrel,hkp⟩:=put_step (C:=[(t,want)]) (h.relit_ (q:=!want) (by rw [hm,hq])) (z:=undef) (hp.2 hq) rfl (fun _ hc=>absurd hc hC) (fun _ _=>rfl)
          refine ⟨s',[],v,fun _=>⟨fun _=>.refl u,.refl β u⟩,hk',by simpa using hrel,?_⟩
          exact (keep_relit _ s t (!want)).trans (Nat.le_refl _) (hkp β.length) (fun x hx=>by rw [List.mem_singleton] at hx;subst hx;exact List.mem_append_right _ hslot) (fun x hx=>List.mem_append_left _ hx)
      all_goals
        rename_i hl
        have hm:=(h.env _ (lookN_mem hl)).1
        simp only [AgE,den,den1,den0] at hm
        have hC:holdsC a.tmps [(t,want)]:=by
          intro p hp'
          rw [List.mem_singleton] at hp'
          subst hp'
          simp only [skips,hl] at hsk0
          rw [hm]
          cases want<;>simp_all
        rw [if_pos (hgs.2 hC)]
        exact run h hC (.refl _ _ _) hp
    · rename_i t want t1 want1
      split at hp<;>first|exact hp.elim|skip
      · rename_i t2 want2 q q1 hl hl1
        split at hp<;>first|exact hp.elim|skip
        rename_i hb
        simp only [Bool.and_eq_true,beq_iff_eq] at hb
        obtain ⟨hb1,rfl⟩:=hb
        have hb1:=Nat.eq_of_beq_eq_true hb1
        subst hb1
        have hm1:=(h.env _ (lookN_mem hl1)).1
        have hm:=(h.env _ (lookN_mem hl)).1
        simp only [AgE,den,den1,den0] at hm1 hm
        split
        · rename_i hwant
          have hC:=hgs.1 hwant
          have e1:=hC (t2,want2) (by simp)
          have hC1:holdsC a.tmps [(t2,want2)]:=fun p hp=>by rw [List.mem_singleton] at hp;subst hp;exact e1
          have e:=hC (t,want) (by simp)
          rw [hm1] at e1
          rw [hm.1 hC1] at e
          have hq1:q1=want2:=by injection e1 with e1;injection e1
          have hq:q=want:=by injection e with e;injection e
          refine (eff_sound h hC (hp.1 hq1 hq)).mono fun a' u' ⟨x,s',γ,v',hgr,hk,hrel,hw,hse,z,ha,hz⟩=>?_
          obtain ⟨s'',hk',hrel',hkp⟩:=put_step (C:=[(t,want),(t2,want2)]) hrel (z:=z) hk hw (fun hd _=>hz hd) (fun _ hn=>absurd hC hn)
          refine ⟨s'',γ,v',hgr,hk',by rw [ha];exact hrel',?_⟩
          have hkp':=hkp β.length
          rw [hse] at hkp'
          exact hkp'.more fun x hx=>List.mem_append_left _ hx
        · rename_i hwant
          have hC:¬ holdsC a.tmps [(t,want),(t2,want2)]:=fun hc=>hwant (hgs.2 hc)
          have hno:¬(q1=want2∧q=want):=by
            rintro ⟨rfl,rfl⟩
            refine hC fun p hp=>?_
            have hC1:holdsC a.tmps [(t2,q1)]:=fun p hp=>by rw [List.mem_singleton] at hp;subst hp;exact hm1
            rcases List.mem_cons.1 hp with rfl|hp
            · exact hm.1 hC1
            · rw [List.mem_singleton] at hp;subst hp;exact hm1
          obtain ⟨s',hk',hrel,hkp⟩:=put_step (C:=[(t,want),(t2,want2)]) h (z:=undef) (hp.2 hno) rfl (fun _ hc=>absurd hc hC) (fun _ _=>rfl)
          exact ⟨s',[],v,fun _=>⟨fun _=>.refl u,.refl β u⟩,hk',by simpa using hrel,(hkp _).more fun x hx=>List.mem_append_left _ hx⟩
      · rename_i t2 want2 q hl hl1
        split at hp<;>first|exact hp.elim|skip
        rename_i hb
        simp only [Bool.and_eq_true,beq_iff_eq] at hb
        obtain ⟨⟨hb1,rfl⟩,hb3⟩:=hb
        subst hb3
        have hb1:=Nat.eq_of_beq_eq_true hb1
        subst hb1
        have hm1:=(h.env _ (lookN_mem hl1)).1
        have hm:=(h.env _ (lookN_mem hl)).1
        simp only [AgE,den,den1,den0] at hm1 hm
        split
        · rename_i hwant
          have hC:=hgs.1 hwant
          have e1:=hC (t2,true) (by simp)
          have hC1:holdsC a.tmps [(t2,true)]:=fun p hp=>by rw [List.mem_singleton] at hp;subst hp;exact e1
          have e:=hC (t,want) (by simp)
          rw [hm1] at e1
          rw [hm.1 hC1] at e
          have hq:q=want:=by injection e with e;injection e
          refine (eff_sound h hC (hp.1 hq)).mono fun a' u' ⟨x,s',γ,v',hgr,hk,hrel,hw,hse,z,ha,hz⟩=>?_
          obtain ⟨s'',hk',hrel',hkp⟩:=put_step (C:=[(t,want),(t2,true)]) hrel (z:=z) hk hw (fun hd _=>hz hd) (fun _ hn=>absurd hC hn)
          refine ⟨s'',γ,v',hgr,hk',by rw [ha];exact hrel',?_⟩
          have hkp':=hkp β.length
          rw [hse] at hkp'
          exact hkp'.more fun x hx=>List.mem_append_left _ hx
        · rename_i hwant
          have hC:¬ holdsC a.tmps [(t,want),(t2,true)]:=fun hc=>hwant (hgs.2 hc)
          have hC1:holdsC a.tmps [(t2,true)]:=fun p hp=>by rw [List.mem_singleton] at hp;subst hp;exact hm1
          have hno:q=!want:=by
            rcases Classical.em (q=want) with e|e
            · refine absurd (fun p hp=>?_) hC
              rcases List.mem_cons.1 hp with rfl|hp
              · subst e;exact hm.1 hC1
              · rw [List.mem_singleton] at hp;subst hp;exact hm1
            · cases q<;>cases want<;>simp_all
          obtain ⟨s',hk',hrel,hkp⟩:=put_step (C:=[(t,want),(t2,true)]) h (z:=undef) (hp.2 hno) rfl (fun _ hc=>absurd hc hC) (fun _ _=>rfl)
          exact ⟨s',[],v,fun _=>⟨fun _=>.refl u,.refl β u⟩,hk',by simpa using hrel,(hkp _).more fun x hx=>List.mem_append_left _ hx⟩
    · exact hp.elim
theorem Rel.sub_env (h:Rel n s β a v u) {e:List (Nat×SV)} (he:∀ p,p∈e→p∈s.env):Rel n { s with env:=e } β a v u:=
  ⟨h.size,h.defers,fun p hp=>h.env p (he p hp),h.sub,h.len,h.nodup,h.box,h.rest⟩
theorem Rel.noGd (h:Rel n s β a v u):Rel n (noGd s) β a v u:=h.sub_env fun _ hp=>(List.mem_filter.1 hp).1
theorem keep_noGd (m:Nat) (s:Sy):Keep m s.env (noGd s).env []:=fun p hp _ hw=>by
  refine List.mem_filter.2 ⟨hp,?_⟩
  cases hq:p.2<;>first|rfl|(rw [hq] at hw;simp [wf2] at hw)
def BehindL (n:Nat) (e:List (Nat×SV)) (ws:List Nat) (β:List Nat) (Kt:Sy→World→Prop) (a':Act) (u':World):Prop:=
  ∃ s' γ v',Kt s' v'∧Rel n s' (β++γ) a' v' u'∧Keep β.length e s'.env ws
theorem AB_mono {K K':Act→World→Prop} (hk:∀ a v,K a v→K' a v):∀ (l:List Oper) {a:Act} {v:World},AB P ops l K a v→AB P ops l K' a v
    | [],_,_,h=>hk _ _ h
    | _ ::l,_,_,h=>OneB.mono (fun _ _ h'=>AB_mono hk l h') h
def dsts (ops:Array Oper):List Nat:=ops.toList.filterMap (·.dst)
theorem guardSlot_mem {x:Nat} (hx:x∈guardSlot ops o):x∈dsts ops:=by
  unfold guardSlot at hx
  split at hx
  · rename_i j _ _
    cases hj:ops[j]? with
    | none=>rw [hj] at hx;simp at hx
    | some o'=>
      rw [hj] at hx
      simp only [Option.bind_some,Option.mem_toList] at hx
      exact List.mem_filterMap.2 ⟨o',List.mem_of_getElem? (by simpa using hj),hx⟩
  · cases hx
theorem slots_mem (ho:o∈ops.toList) {x:Nat} (hx:x∈o.dst.toList++guardSlot ops o):x∈dsts ops:=by
  rcases List.mem_append.1 hx with hx|hx
  · simp only [Option.mem_toList] at hx
    exact List.mem_filterMap.2 ⟨o,ho,hx⟩
  · exact guardSlot_mem hx
theorem opsVc_sound {Kt:Sy→World→Prop}:∀ (l:List Oper) {s:Sy} {β:List Nat} {a:Act} {v u:World},(∀ o,o∈l→o∈ops.toList)→Rel n s β a v u→opsVc P A n ops l s v Kt→AB P ops l (BehindL n s.env (dsts ops) β Kt) a u
  | [],s,β,a,v,u,_,h,hp=>⟨s,[],v,hp,by simpa using h,.refl _ _ _⟩
  | o ::l,s,β,a,v,u,hl,h,hp=>by
    refine (oneOp_sound h hp).mono fun a' u' ⟨s',γ,v',_,hk,hrel,hkp⟩=>?_
    refine AB_mono (fun a2 u2 ⟨s2,γ2,v2,hk2,hrel2,hkp2⟩=>⟨s2,γ++γ2,v2,hk2,by rw [←List.append_assoc];exact hrel2,
      hkp.trans (m':=(β++γ).length) (by simp) hkp2 (fun x hx=>slots_mem (hl o List.mem_cons_self) hx) (fun x hx=>hx)⟩) l (opsVc_sound l (fun o' ho'=>hl o' (List.mem_cons_of_mem _ ho')) hrel hk)
theorem QB_mono {K K':Act→Prop} (hk:∀ a,K a→K' a):∀ (l:List Oper) {a:Act},QB P ops u l K a→QB P ops u l K' a
    | [],_,h=>hk _ h
    | _ ::l,_,h=>by
      unfold QB at h ⊢
      exact QOne.mono (fun _ h'=>QB_mono hk l h') h
theorem opsVc_quiet {Kt:Sy→World→Prop}:∀ (l:List Oper) {s:Sy} {a:Act},(∀ o,o∈l→o∈ops.toList)→(l.all fun o=>!(isEff A o))=true→Rel n s β a v u→opsVc P A n ops l s v Kt→
    QB P ops u l (fun a'=>∃ s',Kt s' v∧Rel n s' β a' v u∧Keep β.length s.env s'.env (dsts ops)) a
  | [],s,a,_,_,h,hp=>⟨s,hp,h,.refl _ _ _⟩
  | o ::l,s,a,hl,ha,h,hp=>by
    simp only [List.all_cons,Bool.and_eq_true,Bool.not_eq_true'] at ha
    have hq:=quiet_sound h ha.1 hp
    unfold QB
    refine hq.mono fun a' ⟨s',h2,h3,h4⟩=>?_
    exact QB_mono (fun a2 ⟨s2,k1,k2,k3⟩=>⟨s2,k1,k2,h4.trans (Nat.le_refl _) k3 (fun x hx=>slots_mem (hl o List.mem_cons_self) hx) (fun x hx=>hx)⟩) l
      (opsVc_quiet l (fun o' ho'=>hl o' (List.mem_cons_of_mem _ ho')) ha.2 h3 h2)
theorem pureOp_det {Kt:SV→Prop} (hn:noLook s o=true) (hp:pureOp P [] o s v Kt):∃ z,Kt z∧∀ v0:World,pureOp P [] o s v0 (fun x=>x=z):=by
  unfold noLook at hn
  split at hn
  case h_1 x ho=>
    unfold pureOp at hp ⊢
    simp only [ho] at hp ⊢
    split at hp<;>first|exact hp.elim|skip
    rename_i y hy
    exact ⟨y,hp,fun _=>by simp only [hy]⟩
  case h_2 x ho=>
    unfold pureOp at hp ⊢
    simp only [ho] at hp ⊢
    split at hp<;>first|exact hp.elim|skip
    rename_i y hy
    exact ⟨y,hp,fun _=>by simp only [hy]⟩
  case h_3 ho=>
    unfold pureOp at hp ⊢
    simp only [ho] at hp ⊢
    split at hp<;>first|exact hp.elim|skip
    rename_i l hl
    split at hp<;>first|exact hp.elim|skip
    rename_i y hy
    exact ⟨y,hp,fun _=>by simp only [hl,hy]⟩
  case h_4 ho=>
    unfold pureOp at hp ⊢
    simp only [ho] at hp ⊢
    split at hp<;>first|exact hp.elim|skip
    case h_3=>
      rename_i y hl
      obtain ⟨p,h3,h4⟩:=hp
      refine ⟨_,h4,fun _=>?_⟩
      exact ⟨p,h3,rfl⟩
    all_goals
      rename_i hl
      exact ⟨_,hp,fun _=>by simp only [hl]⟩
  case h_5 ho=>
    unfold pureOp at hp ⊢
    simp only [ho] at hp ⊢
    repeat' (first|exact hp.elim|(split at hp))
    all_goals
      exact ⟨_,hp,fun _=>by simp only [*]⟩
  case h_6 ho=>
    unfold pureOp at hp ⊢
    simp only [ho] at hp ⊢
    split at hn<;>first|(cases hn;done)|skip
    rename_i hb
    simp only [hb] at hp ⊢
    repeat' (first|exact hp.elim|(split at hp))
    all_goals
      exact ⟨_,hp,fun _=>by simp only [*]⟩
  case h_7 op _ _ _ _ ho=>
    unfold pureOp at hp ⊢
    simp only [ho] at hp ⊢
    split at hn<;>first|(cases hn;done)|skip
    rename_i h1 h2
    simp only [h1,h2] at hp ⊢
    have hb:isBit op=false:=by simpa using hn
    simp only [hb] at hp ⊢
    split at hp<;>first|exact hp.elim|skip
    rename_i hk
    subst hk
    simp only [↓reduceIte]
    unfold intBin at hp ⊢
    split at hp<;>first|exact hp.elim|skip
    · obtain ⟨r,h3,h4⟩:=hp;exact ⟨_,h4,fun _=>⟨r,h3,rfl⟩⟩
    · obtain ⟨r,h3,h4⟩:=hp;exact ⟨_,h4,fun _=>⟨r,h3,rfl⟩⟩
    · obtain ⟨r,h3,h4⟩:=hp;exact ⟨_,h4,fun _=>⟨r,h3,rfl⟩⟩
    · obtain ⟨r,h3,h4⟩:=hp;exact ⟨_,h4,fun _=>⟨r,h3,rfl⟩⟩
    · exact ⟨_,hp.2,fun _=>⟨hp.1,rfl⟩⟩
    · split at hp<;>first|exact hp.elim|skip
      rename_i q hq
      exact ⟨_,hp,fun _=>by simp only [hq]⟩
  case h_8 ho=>
    split at hn<;>first|(cases hn;done)|skip
    rename_i hc
    unfold pureOp at hp ⊢
    simp only [ho,hc] at hp ⊢
    split at hp<;>first|exact hp.elim|skip
    all_goals
      rename_i h1 h2
      exact ⟨_,hp,fun _=>by simp only [h1,h2]⟩
  all_goals cases hn
theorem box_sound (h:Rel n s β a v u) {i:Nat} {Kt:Sy→World→Prop} (ho:ops[i]?=some o) (hb:boxAt A ops s i=true) (hp:oneOp P A n ops o s v Kt):
    ∃ x,YieldsS P ops β u o x a∧∃ s',Kt s' v∧Rel n s' β (a.put o.dst x) v u∧Keep β.length s.env s'.env (o.dst.toList++guardSlot ops o):=by
  unfold boxAt at hb
  rw [ho] at hb
  simp only [Bool.and_eq_true,Bool.not_eq_true',Option.isNone_iff_eq_none] at hb
  obtain ⟨⟨⟨he,hpc⟩,hg⟩,hn⟩:=hb
  unfold oneOp at hp
  simp only [hg,guardOf,skips,he,hpc] at hp
  have hC:holdsC a.tmps []:=fun p hp=>by cases hp
  obtain ⟨z,hk,hdet⟩:=pureOp_det hn hp
  obtain ⟨s',hk',hrel,hkp⟩:=put_step (C:=[]) h (z:=den β z) hk (by
    obtain ⟨z0,e,hw,_⟩:=pure_sound h (hdet v)
    rw [←e];exact hw) (fun _ _=>rfl) (fun _ hn=>absurd hC hn)
  refine ⟨den β z,fun u' hbk=>.inl ⟨by unfold Region.wanted;rw [hg],?_⟩,s',hk',hrel,(hkp _).more fun x hx=>List.mem_append_left _ hx⟩
  have hbx:∀ g,g∈β→∃ j t cs,s.box[j]?=some (t,cs)∧β.getD j 0=g:=by
    intro g hg
    obtain ⟨j,hj,e⟩:=List.getElem_of_mem hg
    have hlt:j < s.box.length:=by rw [←h.len];exact hj
    exact ⟨j,_,_,List.getElem?_eq_getElem hlt,by rw [List.getD_eq_getElem?_getD,List.getElem?_eq_getElem hj];exact e⟩
  have hcell:∀ j t cs,s.box[j]?=some (t,cs)→u'.heap[β.getD j 0]?=some (.cells (cs.map (den0 β)).toArray t (0,0)):=by
    intro j t cs hj
    have hlt:j < β.length:=by rw [h.len];rcases Nat.lt_or_ge j s.box.length with hl|hg;exact hl;rw [List.getElem?_eq_none hg] at hj;cases hj
    refine hbk _ ?_ _ (h.box j t cs hj).1 (by simp [absent])
    rw [List.getD_eq_getElem?_getD,List.getElem?_eq_getElem hlt];exact List.getElem_mem hlt
  have hs0:Sub { u' with heap:=#[] } u':=⟨Nat.zero_le _,fun b o hb _=>by simp at hb⟩
  obtain ⟨j1,j2,j3,j4⟩:=join_spec (v:={ u' with heap:=#[] }) (w:=u') (β:=β) hs0 (fun g hg=>by
    obtain ⟨j,t,cs,hj,e⟩:=hbx g hg
    refine ⟨fun o ho=>by simp at ho,?_⟩
    rw [←e];exact getElem?_lt (hcell j t cs hj))
  have hrel0:Rel n s β a { u' with heap:=#[] } (joinW { u' with heap:=#[] } u' β):=by
    refine ⟨h.size,h.defers,h.env,j1,h.len,h.nodup,fun j t cs hj=>⟨?_,fun o ho=>by simp at ho,(h.box j t cs hj).2.2⟩,j4⟩
    have hlt:j < β.length:=by rw [h.len];rcases Nat.lt_or_ge j s.box.length with hl|hg;exact hl;rw [List.getElem?_eq_none hg] at hj;cases hj
    rw [j3 _ (by rw [List.getD_eq_getElem?_getD,List.getElem?_eq_getElem hlt];exact List.getElem_mem hlt)]
    exact hcell j t cs hj
  obtain ⟨z0,e,_,hrun⟩:=pure_sound hrel0 (hdet _)
  subst e
  intro w hs
  rw [hrun hC w (j2.trans hs)]
  exact ⟨rfl,rfl⟩
theorem autoVc_sound {Kt:Sy→World→Prop} {ext:List Nat}:∀ (fuel:Nat) (listed:Array Bool) {s:Sy} {β:List Nat} {a:Act} {v u:World},Rel n s β a v u→autoVc P A n ops ext fuel listed s v Kt→
    AutoB P ops (quietAt A ops) (extAt ops ext) (BehindL n s.env (dsts ops) β Kt) fuel listed β a u
  | 0,listed,s,β,a,v,u,h,hp=>by
    simp only [autoVc] at hp
    split at hp<;>first|exact hp.elim|skip
    rename_i he
    exact ⟨by simpa using he,s,[],v,hp,by simpa using h,.refl _ _ _⟩
  | fuel+1,listed,s,β,a,v,u,h,hp=>by
    have go:∀ {i:Nat} {o:Oper},o∈ops.toList→∀ {s':Sy} {γ:List Nat} {v' u':World} {a':Act},Rel n s' (β++γ) a' v' u'→Keep β.length s.env s'.env (o.dst.toList++guardSlot ops o)→
        autoVc P A n ops ext fuel (listed.setIfInBounds i true) s' v' Kt→
        AutoB P ops (quietAt A ops) (extAt ops ext) (BehindL n s.env (dsts ops) β Kt) fuel (listed.setIfInBounds i true) (β++γ) a' u':=by
      intro i o hmem s' γ v' u' a' hrel hkp hk
      refine AutoB_mono (fun a2 u2 ⟨s2,γ2,v2,hk2,hrel2,hkp2⟩=>⟨s2,γ++γ2,v2,hk2,by rw [←List.append_assoc];exact hrel2,
        hkp.trans (m':=(β++γ).length) (by simp) hkp2 (fun x hx=>slots_mem hmem hx) (fun x hx=>hx)⟩) _ _ (autoVc_sound fuel _ hrel hk)
    have go0:∀ {i:Nat} {o:Oper},o∈ops.toList→∀ {s':Sy} {v' u':World} {a':Act},Rel n s' β a' v' u'→Keep β.length s.env s'.env (o.dst.toList++guardSlot ops o)→
        autoVc P A n ops ext fuel (listed.setIfInBounds i true) s' v' Kt→
        AutoB P ops (quietAt A ops) (extAt ops ext) (BehindL n s.env (dsts ops) β Kt) fuel (listed.setIfInBounds i true) β a' u':=by
      intro i o hmem s' v' u' a' hrel hkp hk
      have:=go hmem (γ:=[]) (by simpa using hrel) hkp hk
      simpa using this
    unfold AutoB
    simp only [autoVc] at hp
    split at hp
    · rename_i hr
      simp only [hr]
      exact ⟨s,[],v,hp,by simpa using h,.refl _ _ _⟩
    · rename_i l hne
      have hl:Region.ready .any ops listed≠[]:=by simpa using hne
      split
      · rename_i hr;exact absurd hr hl
      · split at hp
        · rename_i i hf
          split at hp<;>first|exact hp.elim|skip
          rename_i o ho
          have hmem:o∈ops.toList:=List.mem_of_getElem? (by simpa using ho)
          have hqf:=List.find?_some hf
          simp only [Bool.and_eq_true] at hqf
          have hqa:quietAt A ops i=true:=hqf.1
          have he:isEff A o=false:=by simpa [quietAt,ho] using hqa
          refine .inl ⟨i,List.mem_of_find?_eq_some hf,hqa,hqf.2,?_⟩
          unfold mAt
          simp only [ho]
          unfold MOne
          rw [hqa]
          refine (quiet_sound h he hp).mono fun a' ⟨s',h2,h3,h4⟩=>?_
          exact go0 hmem h3 h4 h2
        · split at hp
          · rename_i i hf
            split at hp<;>first|exact hp.elim|skip
            rename_i o ho
            have hmem:o∈ops.toList:=List.mem_of_getElem? (by simpa using ho)
            have hqf:=List.find?_some hf
            simp only [Bool.and_eq_true] at hqf
            obtain ⟨x,hy,s',h2,h3,h4⟩:=box_sound h ho hqf.1 hp
            have hqa:quietAt A ops i=true:=by
              have:=hqf.1
              unfold boxAt at this
              rw [ho] at this
              simp only [Bool.and_eq_true] at this
              simpa [quietAt,ho] using this.1.1.1
            exact .inr (.inl ⟨i,o,x,List.mem_of_find?_eq_some hf,ho,hqa,hqf.2,hy,go0 hmem h3 h4 h2⟩)
          refine .inr (.inr ?_)
          intro i hi
          have hpi:=allC_mem hp i hi
          split at hpi<;>first|exact hpi.elim|skip
          rename_i o ho
          have hmem:o∈ops.toList:=List.mem_of_getElem? (by simpa using ho)
          have hkb:kbAt ops i=true→isStore o=false:=by
            unfold kbAt isStore
            rw [ho]
            intro hk
            simp only at hk
            split at hk
            · cases hk
            · rfl
          cases hqa:quietAt A ops i with
          | true=>
            have he:isEff A o=false:=by simpa [quietAt,ho] using hqa
            unfold mAt
            simp only [ho]
            unfold MOne
            rw [hqa]
            cases hx:extAt ops ext i with
            | true=>
              rw [hx] at hpi
              refine (quiet_sound h he hpi).mono fun a' ⟨s',h2,h3,h4⟩=>?_
              exact go0 hmem h3 h4 h2.2
            | false=>
              rw [hx] at hpi
              refine (quiet_sound h he hpi).mono fun a' ⟨s',h2,h3,h4⟩=>?_
              exact go0 hmem h3 h4 h2
          | false=>
          unfold mAt
          simp only [ho]
          unfold MOne
          rw [hqa]
          cases hx:extAt ops ext i with
          | true=>
            rw [hx] at hpi
            have hst:isStore o=false:=by
              unfold extAt at hx
              rw [ho] at hx
              simp only [Bool.and_eq_true,Bool.not_eq_true'] at hx
              exact hx.2
            exact (oneOp_sound h hpi).mono fun a' u' ⟨s',γ,v',hgr,⟨hs,hk⟩,hrel,hkp⟩=>⟨⟨fun _=>(hgr hst).1 hs,fun _=>(hgr hst).2⟩,γ,go hmem hrel hkp hk⟩
          | false=>
            rw [hx] at hpi
            exact (oneOp_sound h hpi).mono fun a' u' ⟨s',γ,v',hgr,hk,hrel,hkp⟩=>⟨⟨fun h=>(by cases h),fun hk=>(hgr (hkb hk)).2⟩,γ,go hmem hrel hkp hk⟩
def X.ex:X→Exit
  | .normal=>.normal
  | .exit id=>.exit id
  | .ret=>.ret
def Post (n:Nat) (e0:List (Nat×SV)) (ws:List Nat) (β:List Nat) (Kt:X→Sy→World→Prop) (e:Exit) (a':Act) (u':World):Prop:=
  ∃ x s' γ v',e=X.ex x∧Kt x s' v'∧Rel n s' (β++γ) a' v' u'∧Keep β.length e0 s'.env ws
def okK:List K→List SV→Prop
  | [],[]=>True
  | k ::ks,x ::l=>conv k x=some x∧okK ks l
  | _,_=>False
theorem allK_app {ks:List K} {f:List SV→Prop} (h:allK ks f):∀ l:List SV,okK ks l→f l:=by
  induction ks generalizing f with
  | nil=>
    intro l hl
    cases l with
    | nil=>exact h
    | cons x l=>exact hl.elim
  | cons k ks ih=>
    intro l hl
    cases l with
    | nil=>exact hl.elim
    | cons x l=>
      obtain ⟨h1,h2⟩:=hl
      cases k<;>cases x<;>simp only [conv] at h1<;>first|(cases h1;done)|skip
      all_goals simp only [allK] at h
      all_goals first
        | (split at h1<;>first|(cases h1;done)|skip
           rename_i e;subst e
           exact ih (h _) _ h2)
        | (simp only [Option.some.injEq,SV.pt.injEq] at h1
           obtain ⟨h1,h3⟩:=h1
           subst h3
           exact ih (h _) _ h2)
        | exact ih (h _) _ h2
        | (simp only [Option.some.injEq,reduceCtorEq] at h1)
theorem conv_spec {k:K} {x y:SV} (h:conv k x=some y) (β:List Nat) (m:Nat):den β x=den β y∧den0 β x=den0 β y∧clean0 y=true∧wf2 m y=true∧wf0 m y=true∧conv k y=some y:=by
  cases k<;>cases x<;>simp only [conv] at h<;>first|(cases h;done)|skip
  all_goals first
    | (split at h<;>first|(cases h;done)|skip
       rename_i e;subst e
       simp only [Option.some.injEq] at h;subst h
       exact ⟨rfl,rfl,rfl,rfl,rfl,by simp [conv]⟩)
    | (simp only [Option.some.injEq] at h;subst h;exact ⟨rfl,rfl,rfl,rfl,rfl,rfl⟩)
    | (simp only [Option.some.injEq] at h;subst h;refine ⟨?_,?_,rfl,rfl,rfl,?_⟩<;>simp [den,den1,den0,conv,Addr.add])
theorem valsE_spec (h:Rel n s β a v u):∀ {sl:List (Nat×K)} {l:List SV},valsE s sl=some l→okK (sl.map (·.2)) l∧l.length=sl.length∧
    ∀ p,p∈putE sl l []→∃ x,lookN p.1 s.env=some x∧den β x=den β p.2∧clean0 p.2=true∧a.tmps[p.1]?=some (den β p.2)∧p.1∈sl.map (·.1)
  | [],l,he=>by simp only [valsE,Option.some.injEq] at he;subst he;exact ⟨trivial,rfl,fun p hp=>by cases hp⟩
  | (t,k) ::r,l,he=>by
    simp only [valsE] at he
    split at he<;>first|(cases he;done)|skip
    rename_i x l' hx hl
    simp only [Option.some.injEq] at he
    subst he
    obtain ⟨y,hy,hc⟩:=Option.bind_eq_some_iff.1 hx
    obtain ⟨c1,_,c3,_,_,c6⟩:=conv_spec hc β s.box.length
    obtain ⟨i1,i2,i3⟩:=valsE_spec h hl
    refine ⟨⟨c6,i1⟩,by simp [i2],fun p hp=>?_⟩
    simp only [putE,List.mem_cons] at hp
    rcases hp with rfl|hp
    · have hm:=(h.env _ (lookN_mem hy)).1
      refine ⟨y,hy,c1,c3,?_,by simp⟩
      have:∀ q:SV,conv k q≠none→AgE β a.tmps t q→a.tmps[t]?=some (den β q):=by
        intro q hq hag;cases q<;>first|exact hag|(exact absurd (by cases k<;>rfl) hq)
      rw [←c1];exact this y (by rw [hc];simp) hm
    · obtain ⟨x',q1,q2,q3,q4,q5⟩:=i3 p hp
      exact ⟨x',q1,q2,q3,q4,by simp at q5 ⊢;exact .inr q5⟩
end
end Go.Vc
