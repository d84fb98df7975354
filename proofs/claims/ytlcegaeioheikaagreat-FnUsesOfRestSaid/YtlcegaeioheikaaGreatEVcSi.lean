/- Part of the proofs about the heaps and memories: a law is joined in the text whose name ends in W and the law. -/
import Derived.Test.YtlcegaeioheikaaGreatEVcSh
set_option linter.all false
namespace Go.Vc
open Go
section
variable {P:Program} {A:Ann} {n:Nat}
theorem then_post {s:Sy} {ws ws' ws'':List Nat} {β:List Nat} {Kt Kt':X→Sy→World→Prop} {y:Code} {e:Exit} {a:Act} {u:World} (h1:∀ x,x∈ws→x∈ws'') (h2:∀ x,x∈ws'→x∈ws'')
  (h:Post n s.env ws β Kt' e a u)
  (hn:∀ {s':Sy} {γ:List Nat} {v':World},Kt' .normal s' v'→Rel n s' (β++γ) a v' u→Keep β.length s.env s'.env ws→∃ u2,Sub u2 u∧∃ (γ2:List Nat) (s2:Sy),CodeB P y (Post n s2.env ws' (β++γ2) Kt) a u2∧Keep β.length s.env s2.env ws)
  (hx:∀ {x:X} {s':Sy} {v':World},x≠.normal→Kt' x s' v'→Kt x s' v'):
  ∃ u2,Sub u2 u∧Exit.then (fun a u=>CodeB P y (Post n s.env ws'' β Kt) a u) (Post n s.env ws'' β Kt) e a u2:=by
 obtain ⟨x,s',γ,v',rfl,hk,hrel,hkp⟩:=h
 cases x with
 | normal=>
  obtain ⟨u2,hs2,γ2,s2,hc,hk2⟩:=hn hk hrel hkp
  refine ⟨u2,hs2,codeB_mono hc fun e a v ⟨x,s3,γ3,v3,e1,e2,e3,e4⟩=>⟨x,s3,γ2++γ3,v3,e1,e2,by rw [←List.append_assoc];exact e3,?_⟩⟩
  exact hk2.trans (m':=(β++γ2).length) (by simp) e4 h1 h2
 | exit id=>exact ⟨u,.refl u,.exit id,s',γ,v',rfl,hx (by simp) hk,hrel,hkp.more h1⟩
 | ret=>exact ⟨u,.refl u,.ret,s',γ,v',rfl,hx (by simp) hk,hrel,hkp.more h1⟩
theorem keep_head {s:Sy} {ws:List Nat} {sl:List (Nat×K)} {bl:List (Nat×Nat×K)} {l:List SV}:Keep s.box.length s.env (headOf s ws sl bl l).env ws:=by
 intro p hp hn hw
 simp only [headOf]
 have:∀ {sl:List (Nat×K)} {l:List SV} {e:List (Nat×SV)},p∈e→p∈putE sl l e:=by
  intro sl
  induction sl with
  | nil=>intro l e h;exact h
  | cons q r ih=>intro l e h;cases l with
   | nil=>exact h
   | cons x l=>exact List.mem_cons_of_mem _ (ih h)
 refine this (List.mem_filter.2 ⟨hp,?_⟩)
 simp only [Bool.and_eq_true,Bool.not_eq_true']
 refine ⟨?_,hw⟩
 cases h:memN p.1 ws
 ·rfl
 ·exact absurd (memN_iff.1 h) hn
theorem post_more {s:Sy} {ws ws' β:List Nat} {Kt:X→Sy→World→Prop} {e:Exit} {a:Act} {u:World} (h1:∀ x,x∈ws→x∈ws') (h:Post n s.env ws β Kt e a u):Post n s.env ws' β Kt e a u:=
 let ⟨x,s',γ,v',e1,e2,e3,e4⟩:=h
 ⟨x,s',γ,v',e1,e2,e3,e4.more h1⟩
theorem post_pre {s s2:Sy} {ws β:List Nat} {Kt:X→Sy→World→Prop} {e:Exit} {a:Act} {u:World} (hk:Keep β.length s.env s2.env []) (h:Post n s2.env ws β Kt e a u):Post n s.env ws β Kt e a u:=
 let ⟨x,s',γ,v',e1,e2,e3,e4⟩:=h
 ⟨x,s',γ,v',e1,e2,e3,hk.trans (Nat.le_refl _) e4 (fun x hx=>by cases hx) (fun x hx=>hx)⟩
theorem lit_rel {s:Sy} {β:List Nat} {a:Act} {v u:World} {c:Operand} {q q':Bool} (h:Rel n s β a v u) (hc:testOf s c=some (.b q)) (hq:q=q'):Rel n (lit A s c q') β a v u∧Keep β.length s.env (lit A s c q').env []:=by
 subst hq
 unfold lit
 split
 ·rename_i t _
  split
  ·rename_i p hl
   have hpq:p=q:=by
    simp only [testOf,ev] at hc
    rw [hl] at hc
    simpa using hc
   subst hpq
   have hm:=h.env (t,.b p) (lookN_mem hl)
   refine ⟨⟨h.size,h.defers,fun r hr=>?_,h.sub,h.len,h.nodup,h.box,h.rest⟩,fun r hr _ _=>List.mem_cons_of_mem _ hr⟩
   rcases List.mem_cons.1 hr with rfl|hr
   ·cases p
    ·exact hm
    ·exact hm
   ·exact h.env r hr
  ·exact ⟨h,.refl _ _ _⟩
 ·exact ⟨h,.refl _ _ _⟩
theorem vc_sound:∀ (c:Code) {s:Sy} {β:List Nat} {a:Act} {v u:World} {Kt:X→Sy→World→Prop},Rel n s β a v u→vc P A n c s v Kt→
  CodeB P c (Post n s.env (writes c) β Kt) a u
 | .skip,s,β,a,v,u,Kt,h,hp=>codeB_skip ⟨.normal,s,[],v,rfl,hp,by simpa using h,.refl _ _ _⟩
 | .label _,s,β,a,v,u,Kt,h,hp=>codeB_label ⟨.normal,s,[],v,rfl,hp,by simpa using h,.refl _ _ _⟩
 | .ret,s,β,a,v,u,Kt,h,hp=>codeB_ret ⟨.ret,s,[],v,rfl,hp,by simpa using h,.refl _ _ _⟩
 | .exit id,s,β,a,v,u,Kt,h,hp=>codeB_exit ⟨.exit id,s,[],v,rfl,hp,by simpa using h,.refl _ _ _⟩
 | .seq x y,s,β,a,v,u,Kt,h,hp=>by
  simp only [vc] at hp
  split at hp
  ·refine codeB_seq (codeB_shrink (vc_sound x h hp) fun e a' u' hpost=>?_)
   refine then_post (fun z hz=>List.mem_append_left _ hz) (fun z hz=>List.mem_append_right _ hz) hpost (fun hk hrel hkp=>?_) (fun hne hk=>?_)
   ·exact ⟨u',.refl u',_,_,vc_sound y hrel hk,hkp⟩
   ·rename_i x' s' v'
    cases x'<;>first|exact hk|exact absurd rfl hne
  ·rename_i sl bl _
   split at hp<;>first|exact hp.elim|skip
   obtain ⟨J,hp1,hp2⟩:=hp
   refine codeB_seq (codeB_shrink (vc_sound x h hp1) fun e a' u' hpost=>?_)
   refine then_post (fun z hz=>List.mem_append_left _ hz) (fun z hz=>List.mem_append_right _ hz) hpost (fun {s' γ v'} hk hrel hkp=>?_) (fun hne hk=>?_)
   ·simp only at hk
    split at hk<;>first|exact hk.elim|skip
    rename_i l hl
    obtain ⟨hJ,hok,u2,hs2,hrel2⟩:=hrel.head h.len (fun i t cs hi=>(h.box i t cs hi).2.2) hkp hl hk
    have:=vc_sound y hrel2 (allK_app hp2 l hok v' hJ)
    refine ⟨u2,hs2,[],headOf s (writes x) sl bl l,by simpa using this,?_⟩
    rw [h.len];exact keep_head
   ·rename_i x' s' v'
    cases x'<;>first|exact hk|exact absurd rfl hne
 | .cond c x y,s,β,a,v,u,Kt,h,hp=>by
  have hC:holdsC a.tmps []:=fun p hp=>by cases hp
  simp only [vc] at hp
  have ht:∀ {r:SV},testOf s c=some r→a.eval c=den β r:=by
   intro r hr
   unfold testOf at hr
   split at hr<;>first|(cases hr;done)|skip
   all_goals
    simp only [Option.some.injEq] at hr
    subst hr
    rename_i he
    exact (h.ev_ hC he).1
  split at hp
  ·rename_i hc
   exact codeB_cond (t:=true) (ht hc) (fun _=>codeB_mono (vc_sound x h hp) fun _ _ _=>post_more fun z hz=>List.mem_append_left _ hz) (fun e=>by cases e)
  ·rename_i hc
   exact codeB_cond (t:=false) (ht hc) (fun e=>by cases e) (fun _=>codeB_mono (vc_sound y h hp) fun _ _ _=>post_more fun z hz=>List.mem_append_right _ hz)
  ·rename_i q hc
   exact codeB_cond (t:=q) (ht hc) (fun e=>codeB_mono (vc_sound x (lit_rel h hc e).1 (hp.1 e)) fun _ _ _ k=>post_more (fun z hz=>List.mem_append_left _ hz) (post_pre (lit_rel h hc e).2 k))
    (fun e=>codeB_mono (vc_sound y (lit_rel h hc e).1 (hp.2 e)) fun _ _ _ k=>post_more (fun z hz=>List.mem_append_right _ hz) (post_pre (lit_rel h hc e).2 k))
  ·exact hp.elim
 | .block id x,s,β,a,v,u,Kt,h,hp=>by
  simp only [vc] at hp
  refine codeB_block (codeB_mono (vc_sound x h hp) fun e a' u' ⟨z,s',γ,v',he,hk,hrel,hkp⟩=>?_)
  subst he
  cases z with
  | normal=>exact ⟨.normal,s',γ,v',rfl,hk,hrel,hkp⟩
  | ret=>exact ⟨.ret,s',γ,v',rfl,hk,hrel,hkp⟩
  | exit j=>
   simp only at hk
   split at hk
   ·rename_i hj
    have:=Nat.eq_of_beq_eq_true hj
    simp only [X.ex,Exit.inBlock,if_pos this]
    exact ⟨.normal,s',γ,v',rfl,hk,hrel,hkp⟩
   ·rename_i hj
    have hne:¬ j=id:=fun e=>by subst e;rw [Nat.beq_refl] at hj;cases hj
    simp only [X.ex,Exit.inBlock,if_neg hne]
    exact ⟨.exit j,s',γ,v',rfl,hk,hrel,hkp⟩
 | .loop x,s,β,a,v,u,Kt,h,hp=>by
  simp only [vc] at hp
  split at hp<;>first|exact hp.elim|skip
  rename_i sl bl _
  split at hp<;>first|exact hp.elim|skip
  obtain ⟨I,m,hp1,hp2⟩:=hp
  have hwb:∀ (i t:Nat) (cs:List SV),s.box[i]?=some (t,cs)→cs.all (wf0 s.box.length)=true:=fun i t cs hi=>(h.box i t cs hi).2.2
  have hrefl:∀ (b:List (Nat×List SV)) (i:Nat) {Q:Prop},Q→sameB bl i b b Q:=by
   intro b
   induction b with
   | nil=>intro i Q hq;exact hq
   | cons p b ih=>
    intro i Q hq
    obtain ⟨t,cs⟩:=p
    simp only [sameB,Nat.beq_refl]
    have key:∀ (cs:List SV) (j:Nat) {Q:Prop},Q→sameC bl i j cs cs Q:=by
     intro cs
     induction cs with
     | nil=>intro j Q hq;exact hq
     | cons y cs ih2=>
      intro j Q hq
      simp only [sameC]
      split
      ·exact ih2 _ hq
      ·exact ⟨trivial,ih2 _ hq⟩
    exact key cs 0 (ih _ hq)
  split at hp1<;>first|exact hp1.elim|skip
  rename_i l0 hl0
  obtain ⟨hI0,hok0,u0,hs0,hrel0⟩:=Rel.head (s:=s) (s':=s) (γ:=[]) (ws:=writes x) (by simpa using h) h.len hwb (.refl _ _ _) hl0 (hrefl s.box 0 hp1)
  
  have hloop:CodeB P (.loop x) (Post n s.env (writes x) β Kt) a u0:=by
   refine codeB_loop (fun k a' u'=>∃ l v',okK (kindsOf sl bl) l∧app False _ I l v'∧app 0 _ m l v'=k∧Rel n (headOf s (writes x) sl bl l) β a' v' u') ⟨_,l0,v,hok0,hI0,rfl,hrel0⟩ fun k a' u' ⟨l,v',hok,hI,hm,hrel⟩=>?_
   have hbody:=vc_sound x hrel (allK_app hp2 l hok v' hI)
   refine codeB_shrink hbody fun e a2 u2 ⟨z,s2,γ2,v2,he,hk2,hrel2,hkp2⟩=>?_
   subst he
   have hkp3:Keep β.length s.env s2.env (writes x):=by
    have k1:Keep s.box.length s.env (headOf s (writes x) sl bl l).env (writes x):=keep_head
    rw [h.len]
    rw [h.len] at hkp2
    exact k1.trans (Nat.le_refl _) hkp2 (fun _ h=>h) (fun _ h=>h)
   cases z with
   | normal=>
    simp only at hk2
    split at hk2<;>first|exact hk2.elim|skip
    rename_i l2 hl2
    obtain ⟨hI2,hok2,u3,hs3,hrel3⟩:=hrel2.head h.len hwb hkp3 hl2 hk2
    exact ⟨u3,hs3,_,by rw [←hm];exact hI2.2,l2,v2,hok2,hI2.1,rfl,hrel3⟩
   | ret=>exact ⟨u2,.refl u2,.ret,s2,γ2,v2,rfl,hk2,hrel2,hkp3⟩
   | exit id=>exact ⟨u2,.refl u2,.exit id,s2,γ2,v2,rfl,hk2,hrel2,hkp3⟩
  intro w hs
  have:=hloop w (hs0.trans hs)
  refine wp_mono this fun e a' w' ⟨u',fr,hq⟩=>⟨u',?_,hq⟩
  exact ⟨fr.sub,fr.size,fr.os,fr.tape,fr.output,fun b hb ho=>fr.out b hb (hs0.out ho)⟩
 | .region id ops draw,s,β,a,v,u,Kt,h,hp=>by
  simp only [vc] at hp
  split at hp
  ·refine codeB_region ?_
   refine AB_mono (fun a' u' ⟨s',γ,v',hk,hrel,hkp⟩=>⟨.normal,_,γ,v',rfl,hk,hrel.noGd,?_⟩) _ (opsVc_sound _ (fun _ h=>h) h hp)
   exact hkp.trans (Nat.le_refl _) (keep_noGd _ s') (fun _ h=>h) (fun _ h=>by cases h)
  ·split at hp
   ·split at hp<;>first|exact hp.elim|skip
    rename_i hb
    simp only [Bool.and_eq_true] at hb
    refine codeB_region_draw hb.2 hb.1.2 ?_
    refine QB_mono (fun a' ⟨s',hk,hrel,hkp⟩=>⟨.normal,_,[],v,rfl,hk,by simpa using hrel.noGd,?_⟩) _ (opsVc_quiet _ (fun _ h=>h) hb.1.1 h hp)
    exact hkp.trans (Nat.le_refl _) (keep_noGd _ s') (fun _ h=>h) (fun _ h=>by cases h)
   ·split at hp<;>first|exact hp.elim|skip
    rename_i ext hb0 _ hb
    simp only [Bool.and_eq_true] at hb
    refine codeB_region_auto (q:=quietAt A ops) (ext:=extAt ops ext) β hb.1 hb.2 ?_
    refine AutoB_mono (fun a' u' ⟨s',γ,v',hk,hrel,hkp⟩=>⟨.normal,_,γ,v',rfl,hk,hrel.noGd,?_⟩) _ _ (autoVc_sound _ _ h hp)
    exact hkp.trans (Nat.le_refl _) (keep_noGd _ s') (fun _ h=>h) (fun _ h=>by cases h)
 | .goto _,_,_,_,_,_,_,_,hp=>by simp only [vc] at hp
 | .scope _,_,_,_,_,_,_,_,hp=>by simp only [vc] at hp
 | .refuse _,_,_,_,_,_,_,_,hp=>by simp only [vc] at hp
 | .rangeFunc ..,_,_,_,_,_,_,_,hp=>by simp only [vc] at hp
end
end Go.Vc
