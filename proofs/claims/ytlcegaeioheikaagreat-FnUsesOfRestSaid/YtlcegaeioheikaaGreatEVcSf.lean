/- Part of the proofs about the heaps and memories: a law is joined in the text whose name ends in W and the law. -/
import Derived.Test.YtlcegaeioheikaaGreatEVcSe
set_option linter.all false
namespace Go.Vc
open Go
section
variable {P:Program} {A:Ann} {n:Nat} {s:Sy} {β:List Nat} {a:Act} {v u:World} {C:List (Nat×Bool)} {o:Oper}
def After (n:Nat) (e:List (Nat×SV)) (v u:World) (β:List Nat) (a:Act) (o:Oper) (Kt:SV→Sy→World→Prop) (a':Act) (u':World):Prop:=
 ∃ x s' γ v',(isStore o=false→(Sub v v'→Sub u u')∧BK β u u')∧Kt x s' v'∧Rel n s' (β++γ) a v' u'∧wf2 s'.box.length x=true∧s'.env=e∧∃ z,a'=a.put o.dst z∧(o.dst≠none→z=den (β++γ) x)
theorem partK_mem {nv:Bool}:∀ {ts:List TypeId} {f:List SV→Prop},partK P nv ts f→∃ l,l.all clean1=true∧f l
 | [],f,h=>⟨[],rfl,h⟩
 | t ::ts,f,h=>by
  simp only [partK] at h
  split at h
  ·obtain ⟨l,_,h2,h3⟩:=exK_mem h
   obtain ⟨m,m1,m2⟩:=partK_mem h3
   exact ⟨_,by simp [clean1,h2,m1],m2⟩
  ·obtain ⟨l,_,h2,h3⟩:=exK_mem h
   obtain ⟨m,m1,m2⟩:=partK_mem h3
   have:l.all clean1=true:=all_mono (fun x hx=>by cases x<;>first|exact hx|cases hx) h2
   exact ⟨_,by simp [this,m1],m2⟩
theorem clean_of_clean1 {x:SV} (h:clean1 x=true):clean x=true:=by cases x<;>first|exact h|cases h
theorem den_of_clean1 (β:List Nat) {x:SV} (h:clean1 x=true):den β x=den1 β x:=by cases x<;>first|rfl|cases h
theorem resultK_mem {nv:Bool} {t:TypeId} {Kt:SV→Prop} {r:Value} (h:resultK P nv t Kt r):∃ x,Kt x∧clean x=true∧r=den [] x:=by
 unfold resultK at h
 split at h
 ·obtain ⟨l,h1,h2,h3⟩:=partK_mem h
  exact ⟨_,h3,h1,h2⟩
 ·obtain ⟨l,h1,h2⟩:=partK_mem h
  split at h2<;>first|exact h2.elim|skip
  rename_i y
  have h1':clean1 y=true:=by simpa using h1
  exact ⟨y,h2.2,clean_of_clean1 h1',by rw [den_of_clean1 [] h1'];exact h2.1⟩
theorem step_value {nv:Bool} (h:Rel n s β a v u) {e:Sem Value} (hrun:∀ w:World,(execOp a.eval o).run P w=(e.run P w).andThen fun x w'=>.ok (.value x) w')
  {Kt:SV→Sy→World→Prop} (hp:StepT P e v fun r v'=>resultK P nv o.type (fun y=>Kt y s v') r):StepB P o (After n s.env v u β a o Kt) a u:=by
 intro w hs
 obtain ⟨r,w',v',hr,fr,hk⟩:=hp w (h.sub.trans hs)
 obtain ⟨x,hx,hc,rfl⟩:=resultK_mem hk
 obtain ⟨u',hrel,hfr,hgr⟩:=h.rebase hs fr
 rw [hrun w,hr]
 simp only [Result.andThen_ok,UponB]
 exact ⟨u',hfr,x,s,[],v',fun _=>hgr,hx,by simpa using hrel,wf2_clean hc,rfl,_,rfl,fun _=>by rw [List.append_nil,den_clean β hc]⟩
theorem semU_run (h:Rel n s β a v u) (hC:holdsC a.tmps C) {e:Sem Unit} (he:semUOf s C o=some e) (w:World):(execOp a.eval o).run P w=(e.run P w).andThen fun _ w'=>.ok .skip w':=by
 unfold semUOf at he
 split at he<;>first|cases he;done|skip
 rename_i t m k x ho
 split at he<;>first|cases he;done|skip
 rename_i m' k' x' hm hk hx
 simp only [Option.some.injEq] at he
 simp only [execOp,ho,Sem.run_bind,Sem.run_pure,evd_spec h hC hm,evd_spec h hC hk,evd_spec h hC hx,←he]
theorem call_run (h:Rel n s β a v u) (hC:holdsC a.tmps C) {c:Call} (ho:o.op=.call c) {f:FuncId} {l:List SV} (hc:callArgs s C c=some (f,l)) (hl:l.all clean=true) {Q:Value→World→Prop}
  (ht:Trip P f (l.map (den [])).toArray v Q) (w:World):(execOp a.eval o).run P w=.ok (.enter f (l.map (den [])).toArray) w:=by
 unfold callArgs at hc
 split at hc<;>first|cases hc;done|skip
 rename_i x hcal
 split at hc<;>first|cases hc;done|skip
 rename_i f' caps l' hx hargs
 simp only [Option.some.injEq,Prod.mk.injEq] at hc
 obtain ⟨rfl,rfl⟩:=hc
 rw [List.all_append,Bool.and_eq_true] at hl
 have e1:a.eval x=.func (.func f') #[] (caps.map (den0 β)).toArray:=(h.ev_ hC hx).1
 have hw:=ev_wf h hx
 have e2:caps.map (den0 β)=caps.map (den []):=by
  rw [←map_den_wf0 (β:=β) (m:=s.box.length) hw]
  exact map_congr_all (fun _ hx=>den_clean β hx) hl.2
 have e3:c.args.map a.eval=(l'.map (den [])).toArray:=by
  apply Array.ext'
  simp only [Array.toList_map]
  exact evs_clean h hC hargs hl.1
 have e4:(#[]++(l'.map (den [])).toArray++(caps.map (den [])).toArray:Array Value)=((l'++caps).map (den [])).toArray:=by simp
 simp only [execOp,ho,resolve,hcal,e1,Deferred.ofValue,Sem.run_bind,Sem.run_pure,Result.andThen_ok,invoke,e3,e2,e4,ht.1 w]
theorem callVal_run (h:Rel n s β a v u) (hC:holdsC a.tmps C) {c:Call} (ho:o.op=.call c) {y:Vl} {l:List SV} (hc:callVal s C c=some (y,l)) (hl:l.all clean=true) {f:FuncId} {caps:List Value} (hy:y.x=.func (.func f) #[] caps.toArray) {Q:Value→World→Prop}
  (ht:Trip P f (l.map (den [])++caps).toArray v Q) (w:World):(execOp a.eval o).run P w=.ok (.enter f (l.map (den [])++caps).toArray) w:=by
 unfold callVal at hc
 split at hc<;>first|cases hc;done|skip
 rename_i x hcal
 split at hc<;>first|cases hc;done|skip
 rename_i y' l' hx hargs
 simp only [Option.some.injEq,Prod.mk.injEq] at hc
 obtain ⟨rfl,rfl⟩:=hc
 have e1:a.eval x=.func (.func f) #[] caps.toArray:=by rw [←hy];exact (h.ev_ hC hx).1
 have e3:c.args.map a.eval=(l'.map (den [])).toArray:=by
  apply Array.ext'
  simp only [Array.toList_map]
  exact evs_clean h hC hargs hl
 have e4:(#[]++(l'.map (den [])).toArray++caps.toArray:Array Value)=(l'.map (den [])++caps).toArray:=by simp
 simp only [execOp,ho,resolve,hcal,e1,Deferred.ofValue,Sem.run_bind,Sem.run_pure,Result.andThen_ok,invoke,e3,e4,ht.1 w]
theorem eff_sound (h:Rel n s β a v u) (hC:holdsC a.tmps C) {Kt:SV→Sy→World→Prop} (hp:effOp P A C o s v Kt):StepB P o (After n s.env v u β a o Kt) a u:=by
 unfold effOp at hp
 split at hp
 ·
  rename_i t ho
  split at hp<;>first|exact hp.elim|skip
  rename_i cs it d hz hi hd
  unfold zeroS at hz
  rw [hi] at hz
  simp only at hz
  split at hz<;>first|cases hz;done|skip
  rename_i z hzz
  obtain ⟨z1,z2,z3⟩:=ofCells_spec hz β s.box.length
  have hcells:z.cells=(cs.map (den0 β)).toArray:=by rw [z1]
  have hrun:∀ w:World,(execOp a.eval o).run P w=.ok (.value (.pointer (some ⟨w.heap.size,0,none⟩))) (w.alloc (.cells (cs.map (den0 β)).toArray t (0,0))):=by
   intro w
   simp [execOp,ho,Instr.alloc,zeroValue,run_typeInfo w hi,hzz,newVar,newRow,hcells]
  split at hp
  ·intro w hs
   obtain ⟨u',hrel,hfr,hgr⟩:=h.newBox hs t cs z2
   rw [hrun w]
   simp only [UponB]
   refine ⟨u',hfr,_,_,[w.heap.size],v,fun _=>⟨fun _=>hgr,hgr.bk β⟩,hp,hrel,?_,rfl,_,rfl,fun _=>?_⟩
   ·simp [wf2,wf1,wf0]
   ·simp [den,den1,den0,List.getD_eq_getElem?_getD,←h.len]
  ·intro w hs
   have hm:cs.map (den0 β)=cs.map (den0 []):=map_congr_all (fun _ hx=>den0_clean β hx) z3
   obtain ⟨v',fr,hk⟩:=newAt_step (h.sub.trans hs) hp
   obtain ⟨u',hrel,hfr,hgr⟩:=h.rebase hs fr
   rw [hrun w,hm]
   simp only [UponB]
   exact ⟨u',hfr,_,_,[],v',fun _=>hgr,hk,by simpa using hrel,rfl,rfl,_,rfl,fun _=>by simp [den,den1,den0,Addr.add]⟩
 ·
  rename_i t x ho
  split at hp<;>first|exact hp.elim|skip
  rename_i y d hx hd
  split at hp<;>first|exact hp.elim|skip
  rename_i hw
  have hcells:(den β y).cells=((cellsS y).map (den0 β)).toArray:=cells_den hw
  have hrun:∀ w:World,(execOp a.eval o).run P w=.ok (.value (.pointer (some ⟨w.heap.size,0,none⟩))) (w.alloc (.cells ((cellsS y).map (den0 β)).toArray t (0,0))):=by
   intro w
   simp [execOp,ho,Instr.box,newVar,newRow,(h.ev_ hC hx).1,hcells]
  split at hp
  ·intro w hs
   obtain ⟨u',hrel,hfr,hgr⟩:=h.newBox hs t (cellsS y) hw
   rw [hrun w]
   simp only [UponB]
   refine ⟨u',hfr,_,_,[w.heap.size],v,fun _=>⟨fun _=>hgr,hgr.bk β⟩,hp,hrel,?_,rfl,_,rfl,fun _=>?_⟩
   ·simp [wf2,wf1,wf0]
   ·simp [den,den1,den0,List.getD_eq_getElem?_getD,←h.len]
  ·split at hp<;>first|exact hp.elim|skip
   rename_i hc0
   intro w hs
   have hm:(cellsS y).map (den0 β)=(cellsS y).map (den0 []):=map_congr_all (fun _ hx=>den0_clean β hx) hc0
   obtain ⟨v',fr,hk⟩:=newAt_step (h.sub.trans hs) hp
   obtain ⟨u',hrel,hfr,hgr⟩:=h.rebase hs fr
   rw [hrun w,hm]
   simp only [UponB]
   exact ⟨u',hfr,_,_,[],v',fun _=>hgr,hk,by simpa using hrel,rfl,rfl,_,rfl,fun _=>by simp [den,den1,den0,Addr.add]⟩
 ·
  rename_i t p x ho
  split at hp<;>first|exact hp.elim|skip
  rename_i hd
  split at hp<;>first|exact hp.elim|skip
  ·rename_i inf i off y hi hpp hx
   split at hp<;>first|exact hp.elim|skip
   rename_i tb cs hsz hb
   split at hp<;>first|exact hp.elim|skip
   rename_i cs' hw hu
   obtain ⟨u1,u2,u3,u4⟩:=updC_spec (β:=β) hu
   obtain ⟨b1,b2,b3⟩:=h.box i tb cs hb
   have hlen:=Nat.eq_of_beq_eq_true hsz
   intro w hs
   have hbw:=hs.at_ _ _ b1 (by simp [absent])
   generalize hg:β.getD i 0=g at *
   have e1:a.eval p=.pointer (some ((⟨g,0,none⟩:Addr).add off)):=by
    rw [(h.ev_ hC hpp).1,box_add,Nat.zero_add,←hg];rfl
   have hxc:(a.eval x).cells=((cellsS y).map (den0 β)).toArray:=by rw [(h.ev_ hC hx).1];exact cells_den hw
   have hone:∀ z,z∈(cellsS y).map (den0 β)→z.oneCell'=true:=by
    intro z hz
    obtain ⟨q,hq,rfl⟩:=List.mem_map.1 hz
    rw [List.all_eq_true] at hw
    exact oneCell_den0 β (hw q hq)
   have hoff:(cellsS y)≠[]→off+(cellsS y).length≤cs.length:=u2
   have hst:=run_storeVar (P:=P) (w:=w) hi (p:=⟨g,0,none⟩) hxc (by simpa using hlen) hone (off:=off) (fun j hj=>by
    rw [box_add]
    have hj':j < (cellsS y).length:=by simpa using hj
    have hlt:off+j < cs.length:=by have:=hoff (by intro e;rw [e] at hj';cases hj');omega
    refine ⟨⟨(den0 β (cs[off+j])),?_⟩,?_⟩
    ·simp [World.cell?,hbw,hlt]
    ·simp [World.frozen?,hbw])
   obtain ⟨k1,k2,k3⟩:=setCellsW_row (cellsS y |>.map (den0 β)) off hbw
   have hrow:(setCellsW w ⟨g,0,none⟩ off ((cellsS y).map (den0 β))).heap[g]?=some (.cells (cs'.map (den0 β)).toArray tb (0,0)):=by
    rw [k1]
    congr 2
    apply Array.ext_getElem?
    intro j
    rw [setRow_get _ _ _ (by
     rcases Classical.em (cellsS y=[]) with e|e
     ·left;simp [e]
     ·right;simpa using hoff e) j]
    have:=u3 j
    simp only [List.getElem?_toArray,List.length_map] at this ⊢
    rw [this]
   obtain ⟨u',hrel,hfr⟩:=h.setBox hs (w':=setCellsW w ⟨g,0,none⟩ off ((cellsS y).map (den0 β))) hb (u4 _ b3 hw) (by rw [hg];exact hrow) (by rw [hg];exact k2) k3.1 k3.2
   simp only [execOp,ho,Sem.run_bind,e1,hst,Result.andThen_ok,Sem.run_pure,UponB]
   exact ⟨u',hfr,_,_,[],v,fun hns=>absurd hns (by simp [isStore,ho]),hp,by simpa using hrel,rfl,rfl,_,rfl,fun hne=>absurd hd hne⟩
  ·rename_i inf p' off y hi hpp hx
   split at hp<;>first|exact hp.elim|skip
   rename_i hsz hc0
   have hlen:=Nat.eq_of_beq_eq_true hsz
   intro w hs
   have e1:a.eval p=.pointer (some (p'.add off)):=(h.ev_ hC hpp).1
   have hw:(cellsS y).all (wf0 s.box.length)=true:=all_mono (fun _=>wf0_clean) hc0
   have hm:(cellsS y).map (den0 β)=(cellsS y).map (den0 []):=map_congr_all (fun _ hx=>den0_clean β hx) hc0
   have hxc:(a.eval x).cells=((cellsS y).map (den0 [])).toArray:=by rw [(h.ev_ hC hx).1,cells_den hw,hm]
   have hone:∀ z,z∈(cellsS y).map (den0 [])→z.oneCell'=true:=by
    intro z hz
    obtain ⟨q,hq,rfl⟩:=List.mem_map.1 hz
    rw [List.all_eq_true] at hw
    exact oneCell_den0 [] (hw q hq)
   have hvw:=h.sub.trans hs
   have hcan:=canSet_get hp.1
   have hst:=run_storeVar (P:=P) (w:=w) hi (p:=p') hxc (by simpa using hlen) hone (off:=off) (fun j hj=>by
    obtain ⟨⟨z,hz⟩,hf⟩:=hcan j hj
    exact ⟨⟨z,cell_sub hvw hz⟩,frozen_sub hvw hz hf⟩)
   obtain ⟨u',hrel,hfr,hgr⟩:=h.rebase hs (setCellsW_fr _ off hvw hp.1)
   simp only [execOp,ho,Sem.run_bind,e1,hst,Result.andThen_ok,Sem.run_pure,UponB]
   exact ⟨u',hfr,_,_,[],_,fun _=>hgr,hp.2,by simpa using hrel,rfl,rfl,_,rfl,fun hne=>absurd hd hne⟩
 ·split at hp
  ·rename_i e he
   split at hp<;>first|exact hp.elim|skip
   rename_i hd
   intro w hs
   obtain ⟨w',v',hr,fr,hk⟩:=hp w (h.sub.trans hs)
   obtain ⟨u',hrel,hfr,hgr⟩:=h.rebase hs fr
   rw [semU_run h hC he w,hr]
   simp only [Result.andThen_ok,UponB]
   exact ⟨u',hfr,_,_,[],v',fun _=>hgr,hk,by simpa using hrel,rfl,rfl,_,rfl,fun hne=>absurd hd hne⟩
  ·split at hp
   ·rename_i e he
    exact step_value h (semOf_run h hC he) hp
   ·split at hp<;>first|exact hp.elim|skip
    rename_i c ho
    split at hp
    ·rename_i f l hc
     split at hp<;>first|exact hp.elim|skip
     rename_i hl
     intro w hs
     rw [call_run h hC ho hc hl hp w]
     simp only [UponB]
     refine ⟨trivial,(hp.2 w (h.sub.trans hs)).mono fun e w'' ⟨r,v',he,fr,hk⟩=>?_⟩
     obtain ⟨x,hx,hcx,rfl⟩:=resultK_mem hk
     obtain ⟨u',hrel,hfr,hgr⟩:=h.rebase hs fr
     exact ⟨_,u',he,hfr,x,s,[],v',fun _=>hgr,hx,by simpa using hrel,wf2_clean hcx,rfl,_,rfl,fun _=>by rw [List.append_nil,den_clean β hcx]⟩
    ·split at hp<;>first|exact hp.elim|skip
     rename_i y l hc
     split at hp<;>first|exact hp.elim|skip
     rename_i hl
     obtain ⟨f,caps,hy,hp⟩:=hp
     intro w hs
     rw [callVal_run h hC ho hc hl hy hp w]
     simp only [UponB]
     refine ⟨trivial,(hp.2 w (h.sub.trans hs)).mono fun e w'' ⟨r,v',he,fr,hk⟩=>?_⟩
     obtain ⟨x,hx,hcx,rfl⟩:=resultK_mem hk
     obtain ⟨u',hrel,hfr,hgr⟩:=h.rebase hs fr
     exact ⟨_,u',he,hfr,x,s,[],v',fun _=>hgr,hx,by simpa using hrel,wf2_clean hcx,rfl,_,rfl,fun _=>by rw [List.append_nil,den_clean β hcx]⟩
end
end Go.Vc
