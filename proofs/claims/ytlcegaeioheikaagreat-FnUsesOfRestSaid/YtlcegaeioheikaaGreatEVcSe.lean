/- Part of the proofs about the heaps and memories: a law is joined in the text whose name ends in W and the law. -/
import Derived.Test.YtlcegaeioheikaaGreatEVcSd
set_option linter.all false
namespace Go.Vc
open Go
theorem alloc_heap (w:World) (o:Obj):(w.alloc o).heap=w.heap.push o:=rfl
def joinW (v w:World) (β:List Nat):World:=
 { w with heap:=Array.ofFn fun b:Fin w.heap.size=>if b.val∈β then w.heap[b] else (v.heap[b.val]?).getD absent }
theorem join_get (v w:World) (β:List Nat) (b:Nat):
  (joinW v w β).heap[b]?=if b < w.heap.size then (if b∈β then w.heap[b]? else some ((v.heap[b]?).getD absent)) else none:=by
 unfold joinW
 by_cases h:b < w.heap.size
 ·rw [if_pos h]
  show (Array.ofFn _)[b]?=_
  rw [Array.getElem?_eq_getElem (by simpa using h)]
  by_cases e:b∈β
  ·simp [e,h]
  ·simp [e]
 ·rw [if_neg h]
  show (Array.ofFn _)[b]?=_
  rw [Array.getElem?_eq_none (by simpa using h)]
theorem join_size (v w:World) (β:List Nat):(joinW v w β).heap.size=w.heap.size:=by simp [joinW]
theorem getElem?_lt {w:World} {b:Nat} {o:Obj} (h:w.heap[b]?=some o):b < w.heap.size:=by
 rcases Nat.lt_or_ge b w.heap.size with hlt|hge
 ·exact hlt
 ·rw [Array.getElem?_eq_none hge] at h;cases h
theorem join_spec {v w:World} {β:List Nat} (hs:Sub v w) (hβ:∀ g,g∈β→Out v g∧g < w.heap.size):
  Sub v (joinW v w β)∧Sub (joinW v w β) w∧(∀ g,g∈β→(joinW v w β).heap[g]?=w.heap[g]?)∧(∀ b,Out v b→b∉β→Out (joinW v w β) b):=by
 refine ⟨⟨by rw [join_size];exact hs.size,fun b o hb ho=>?_⟩,⟨by rw [join_size];exact Nat.le_refl _,fun b o hb ho=>?_⟩,fun g hg=>?_,fun b hb hn o ho=>?_⟩
 ·have hw:=hs.at_ b o hb ho
  rw [join_get,if_pos (getElem?_lt hw)]
  by_cases e:b∈β
  ·exact absurd ((hβ b e).1 o hb) ho
  ·rw [if_neg e,hb];rfl
 ·rw [join_get] at hb
  split at hb
  ·split at hb
   ·exact hb
   ·cases hv:v.heap[b]? with
    | none=>rw [hv] at hb;simp only [Option.getD_none,Option.some.injEq] at hb;exact absurd hb.symm ho
    | some o'=>rw [hv] at hb;simp only [Option.getD_some,Option.some.injEq] at hb;subst hb;exact hs.at_ b _ hv ho
  ·cases hb
 ·rw [join_get,if_pos (hβ g hg).2,if_pos hg]
 ·rw [join_get] at ho
  split at ho
  ·cases hv:v.heap[b]? with
   | none=>rw [hv] at ho;simpa using ho.symm
   | some o'=>rw [hv] at ho;simp only [Option.getD_some,Option.some.injEq] at ho;subst ho;exact hb _ hv
  ·cases ho
section
variable {P:Program} {n:Nat} {s:Sy} {β:List Nat} {a:Act} {v u:World} {C:List (Nat×Bool)} {o:Oper}
theorem Rel.boxAt (h:Rel n s β a v u) {g:Nat} (hg:g∈β):∃ (i:Nat) (t:Nat) (cs:List SV),s.box[i]?=some (t,cs)∧β.getD i 0=g∧i < β.length:=by
 obtain ⟨i,hi,e⟩:=List.getElem_of_mem hg
 have hlt:i < s.box.length:=by rw [←h.len];exact hi
 exact ⟨i,_,_,List.getElem?_eq_getElem hlt,by rw [List.getD_eq_getElem?_getD,List.getElem?_eq_getElem hi];exact e,hi⟩
theorem Rel.boxOf (h:Rel n s β a v u) {g:Nat} (hg:g∈β):(∃ o,u.heap[g]?=some o∧o≠absent)∧Out v g:=by
 obtain ⟨i,t,cs,hb,e,_⟩:=h.boxAt hg
 obtain ⟨h1,h2,_⟩:=h.box i t cs hb
 rw [e] at h1 h2
 exact ⟨⟨_,h1,by simp [absent]⟩,h2⟩
theorem Rel.notBox (h:Rel n s β a v u) {b:Nat} (hb:Out u b):b∉β:=by
 intro hm
 obtain ⟨⟨o,h1,h2⟩,_⟩:=h.boxOf hm
 exact h2 (hb o h1)
theorem Rel.grow_join (h:Rel n s β a v u) {w w' v' j:World} (_hs:Sub u w) (_hz:u.heap.size≤w'.heap.size) (hvv:Sub v v') (hj:Sub v' j) (hβ:∀ g,g∈β→j.heap[g]?=u.heap[g]?) (hsz:u.heap.size≤j.heap.size):Sub u j:=by
 refine ⟨hsz,fun b o hb ho=>?_⟩
 rcases Classical.em (b∈β) with hm|hm
 ·rw [hβ b hm];exact hb
 ·rcases Classical.em (Out v b) with hov|hov
  ·exact absurd (h.rest b hov hm o hb) ho
  ·have:∃ o',v.heap[b]?=some o'∧o'≠absent:=
    Classical.byContradiction fun hne=>hov fun q' hq'=>Classical.byContradiction fun hne'=>hne ⟨q',hq',hne'⟩
   obtain ⟨o',h1,h2⟩:=this
   have e:=h.sub.at_ b o' h1 h2
   rw [hb] at e
   cases e
   exact hj.at_ b o (hvv.at_ b o h1 h2) h2
theorem Rel.rebase (h:Rel n s β a v u) {w v' w':World} (hs:Sub u w) (fr:Fr v w v' w'):∃ u',Rel n s β a v' u'∧Fr u w u' w'∧((Sub v v'→Sub u u')∧BK β u u'):=by
 have hold:∀ g,g∈β→Out v' g∧w'.heap[g]?=u.heap[g]?∧g < w'.heap.size:=by
  intro g hg
  obtain ⟨⟨o,h1,h2⟩,h3⟩:=h.boxOf hg
  have hw:=hs.at_ g o h1 h2
  obtain ⟨f1,f2⟩:=fr.out g (getElem?_lt hw) h3
  exact ⟨f1,by rw [f2,hw,h1],Nat.lt_of_lt_of_le (getElem?_lt hw) fr.size⟩
 obtain ⟨j1,j2,j3,j4⟩:=join_spec (v:=v') (w:=w') (β:=β) fr.sub (fun g hg=>⟨(hold g hg).1,(hold g hg).2.2⟩)
 refine ⟨joinW v' w' β,⟨h.size,h.defers,h.env,j1,h.len,h.nodup,?_,j4⟩,⟨j2,fr.size,fr.os,fr.tape,fr.output,?_⟩,⟨fun hvv=>h.grow_join hs (Nat.le_trans hs.size fr.size) hvv j1 (fun g hg=>by rw [j3 g hg];exact (hold g hg).2.1) (by rw [join_size];exact Nat.le_trans hs.size fr.size),fun g hg o ho _=>by rw [j3 g hg,(hold g hg).2.1];exact ho⟩⟩
 ·intro i t cs hb
  obtain ⟨b1,b2,b3⟩:=h.box i t cs hb
  have hlt:i < β.length:=by rw [h.len];rcases Nat.lt_or_ge i s.box.length with hl|hg;exact hl;rw [List.getElem?_eq_none hg] at hb;cases hb
  have hm:β.getD i 0∈β:=by rw [List.getD_eq_getElem?_getD,List.getElem?_eq_getElem hlt];exact List.getElem_mem hlt
  obtain ⟨o1,o2,_⟩:=hold _ hm
  exact ⟨by rw [j3 _ hm,o2];exact b1,o1,b3⟩
 ·intro b hb ho
  obtain ⟨f1,f2⟩:=fr.out b hb (h.sub.out ho)
  exact ⟨j4 b f1 (h.notBox ho),f2⟩
theorem Rel.newBox (h:Rel n s β a v u) {w:World} (hs:Sub u w) (t:Nat) (cs:List SV) (hcs:cs.all (wf0 s.box.length)=true):
  ∃ u',Rel n { s with box:=s.box++[(t,cs)] } (β++[w.heap.size]) a v u'∧Fr u w u' (w.alloc (.cells (cs.map (den0 β)).toArray t (0,0)))∧Sub u u':=by
 generalize hw':w.alloc (.cells (cs.map (den0 β)).toArray t (0,0))=w'
 have hsz:w'.heap.size=w.heap.size+1:=by rw [←hw',alloc_heap];simp
 have hnew:w'.heap[w.heap.size]?=some (.cells (cs.map (den0 β)).toArray t (0,0)):=by rw [←hw',alloc_heap];simp
 have hsame:∀ b,b < w.heap.size→w'.heap[b]?=w.heap[b]?:=by
  intro b hb;rw [←hw',alloc_heap,Array.getElem?_push,if_neg (by omega)]
 have hsub:Sub w w':=⟨by omega,fun b o hb _=>by rw [hsame b (getElem?_lt hb)];exact hb⟩
 have hvw:Sub v w:=h.sub.trans hs
 have hout:Out v w.heap.size:=fun o ho=>absurd (getElem?_lt ho) (by have:=hvw.size;omega)
 have hold:∀ g,g∈β→g < w.heap.size∧w.heap[g]?=u.heap[g]?:=by
  intro g hg
  obtain ⟨⟨o,h1,h2⟩,_⟩:=h.boxOf hg
  have hw:=hs.at_ g o h1 h2
  exact ⟨getElem?_lt hw,by rw [hw,h1]⟩
 obtain ⟨j1,j2,j3,j4⟩:=join_spec (v:=v) (w:=w') (β:=β++[w.heap.size]) (hvw.trans hsub) (fun g hg=>by
  rcases List.mem_append.1 hg with hg|hg
  ·exact ⟨(h.boxOf hg).2,by have:=(hold g hg).1;omega⟩
  ·rw [List.mem_singleton] at hg;subst hg;exact ⟨hout,by omega⟩)
 refine ⟨joinW v w' (β++[w.heap.size]),⟨h.size,h.defers,?_,j1,by simp [h.len],?_,?_,j4⟩,⟨j2,by omega,?_,?_,?_,?_⟩,
  h.grow_join hs (by have:=hs.size;omega) (.refl v) j1 (fun g hg=>by rw [j3 g (List.mem_append_left _ hg),hsame _ (hold g hg).1];exact (hold g hg).2) (by rw [join_size];have:=hs.size;omega)⟩
 ·intro p hp
  obtain ⟨e1,e2⟩:=h.env p hp
  exact ⟨AgE_ext (by rw [h.len];exact Nat.le_refl _) e2 e1,wfS_mono (by simp) e2⟩
 ·rw [List.nodup_append]
  refine ⟨h.nodup,by simp,fun x hx y hy=>?_⟩
  rw [List.mem_singleton] at hy
  have:=(hold x hx).1
  omega
 ·intro i t' cs' hb
  have hden:∀ l:List SV,l.all (wf0 s.box.length)=true→l.map (den0 (β++[w.heap.size]))=l.map (den0 β):=
   fun l hl=>map_congr_all (fun _ hx=>den0_ext (by rw [h.len];exact Nat.le_refl _) hx) hl
  have hmono:∀ l:List SV,l.all (wf0 s.box.length)=true→l.all (wf0 (s.box++[(t,cs)]).length)=true:=
   fun l hl=>all_mono (fun _ hx=>wf0_mono (by simp) hx) hl
  rcases Nat.lt_or_ge i s.box.length with hi|hi
  ·have hb':s.box[i]?=some (t',cs'):=by rw [List.getElem?_append_left hi] at hb;exact hb
   obtain ⟨b1,b2,b3⟩:=h.box i t' cs' hb'
   have hlt:i < β.length:=by rw [h.len];exact hi
   have hge:(β++[w.heap.size]).getD i 0=β.getD i 0:=by
    rw [List.getD_eq_getElem?_getD,List.getD_eq_getElem?_getD,List.getElem?_append_left hlt]
   have hm:β.getD i 0∈β:=by rw [List.getD_eq_getElem?_getD,List.getElem?_eq_getElem hlt];exact List.getElem_mem hlt
   obtain ⟨o1,o2⟩:=hold _ hm
   rw [hge,hden cs' b3]
   exact ⟨by rw [j3 _ (List.mem_append_left _ hm),hsame _ o1,o2];exact b1,b2,hmono _ b3⟩
  ·have hi':i=s.box.length:=by
    rcases Nat.lt_or_ge i (s.box.length+1) with h1|h1
    ·omega
    ·rw [List.getElem?_eq_none (by simp;omega)] at hb;cases hb
   subst hi'
   rw [List.getElem?_append_right (Nat.le_refl _)] at hb
   simp only [Nat.sub_self,List.getElem?_cons_zero,Option.some.injEq,Prod.mk.injEq] at hb
   obtain ⟨rfl,rfl⟩:=hb
   have hge:(β++[w.heap.size]).getD s.box.length 0=w.heap.size:=by
    rw [List.getD_eq_getElem?_getD,←h.len,List.getElem?_append_right (Nat.le_refl _)];simp
   rw [hge,hden cs hcs]
   exact ⟨by rw [j3 _ (List.mem_append_right _ (List.mem_singleton.2 rfl))];exact hnew,hout,hmono _ hcs⟩
 ·rw [←hw'];rfl
 ·rw [←hw'];rfl
 ·rw [←hw'];rfl
 ·intro b hb ho
  refine ⟨j4 b (h.sub.out ho) (fun hm=>?_),hsame b hb⟩
  rcases List.mem_append.1 hm with hm|hm
  ·exact h.notBox ho hm
  ·rw [List.mem_singleton] at hm;omega
theorem Rel.setBox (h:Rel n s β a v u) {w w':World} (hs:Sub u w) {i t:Nat} {cs cs':List SV} (hb:s.box[i]?=some (t,cs)) (hcs:cs'.all (wf0 s.box.length)=true)
  (h1:w'.heap[β.getD i 0]?=some (.cells (cs'.map (den0 β)).toArray t (0,0))) (h2:∀ b,b≠β.getD i 0→w'.heap[b]?=w.heap[b]?)
  (h3:w'.heap.size=w.heap.size) (h4:w'.os=w.os∧w'.tape=w.tape∧w'.output=w.output):
  ∃ u',Rel n { s with box:=s.box.set i (t,cs') } β a v u'∧Fr u w u' w':=by
 have hi:i < s.box.length:=by rcases Nat.lt_or_ge i s.box.length with hl|hg;exact hl;rw [List.getElem?_eq_none hg] at hb;cases hb
 have hib:i < β.length:=by rw [h.len];exact hi
 have hm:β.getD i 0∈β:=by rw [List.getD_eq_getElem?_getD,List.getElem?_eq_getElem hib];exact List.getElem_mem hib
 have hold:∀ g,g∈β→g < w.heap.size∧w.heap[g]?=u.heap[g]?:=by
  intro g hg
  obtain ⟨⟨o,h1,h2⟩,_⟩:=h.boxOf hg
  have hw:=hs.at_ g o h1 h2
  exact ⟨getElem?_lt hw,by rw [hw,h1]⟩
 have hvw:Sub v w:=h.sub.trans hs
 have hvw':Sub v w':=⟨by rw [h3];exact hvw.size,fun b o hb' ho=>by
  rw [h2 b (fun e=>ho ((h.boxOf hm).2 o (by rw [←e];exact hb')))];exact hvw.at_ b o hb' ho⟩
 obtain ⟨j1,j2,j3,j4⟩:=join_spec (v:=v) (w:=w') (β:=β) hvw' (fun g hg=>⟨(h.boxOf hg).2,by rw [h3];exact (hold g hg).1⟩)
 refine ⟨joinW v w' β,⟨h.size,h.defers,?_,j1,by simp [h.len],h.nodup,?_,j4⟩,⟨j2,by omega,h4.1,h4.2.1,h4.2.2,?_⟩⟩
 ·intro p hp;simpa using h.env p hp
 ·intro k t' c' hk
  rcases Classical.em (k=i) with e|e
  ·subst e
   rw [List.getElem?_set_self hi] at hk
   simp only [Option.some.injEq,Prod.mk.injEq] at hk
   obtain ⟨rfl,rfl⟩:=hk
   exact ⟨by rw [j3 _ hm];exact h1,(h.boxOf hm).2,by simpa using hcs⟩
  ·rw [List.getElem?_set_ne (Ne.symm e)] at hk
   obtain ⟨b1,b2,b3⟩:=h.box k t' c' hk
   have hkl:k < β.length:=by rw [h.len];rcases Nat.lt_or_ge k s.box.length with hl|hg;exact hl;rw [List.getElem?_eq_none hg] at hk;cases hk
   have hmk:β.getD k 0∈β:=by rw [List.getD_eq_getElem?_getD,List.getElem?_eq_getElem hkl];exact List.getElem_mem hkl
   have hne:β.getD k 0≠β.getD i 0:=by
    rw [List.getD_eq_getElem?_getD,List.getD_eq_getElem?_getD,List.getElem?_eq_getElem hkl,List.getElem?_eq_getElem hib]
    simp only [Option.getD_some]
    intro he
    exact e ((List.getElem?_inj hkl h.nodup).1 (by rw [List.getElem?_eq_getElem hkl,List.getElem?_eq_getElem hib,he]))
   exact ⟨by rw [j3 _ hmk,h2 _ hne,(hold _ hmk).2];exact b1,b2,by simpa using b3⟩
 ·intro b hb' ho
  have hnb:=h.notBox ho
  exact ⟨j4 b (h.sub.out ho) hnb,h2 b (fun e=>hnb (by rw [e];exact hm))⟩
end
def padPush (v:World) (m:Nat) (o:Obj):World:={ v with heap:=(v.heap++Array.replicate (m - v.heap.size) absent).push o }
theorem newAt_step {v w:World} {o:Obj} {Q:Addr→World→Prop} (hs:Sub v w) (h:NewAt v o Q):
  ∃ v',Fr v w v' (w.alloc o)∧Q ⟨w.heap.size,0,.none⟩ v':=by
 have hsz:=hs.size
 have hlen:(v.heap++Array.replicate (w.heap.size - v.heap.size) absent).size=w.heap.size:=by simp;omega
 have hget:∀ b,(padPush v w.heap.size o).heap[b]?=if b=w.heap.size then some o else if b < v.heap.size then v.heap[b]? else if b < w.heap.size then some absent else none:=by
  intro b
  simp only [padPush,Array.getElem?_push,hlen]
  by_cases e:b=w.heap.size
  ·simp [e]
  ·rw [if_neg e,if_neg e]
   by_cases e2:b < v.heap.size
   ·rw [if_pos e2,Array.getElem?_append_left e2]
   ·rw [if_neg e2,Array.getElem?_append_right (by omega),Array.getElem?_replicate]
    by_cases e3:b < w.heap.size
    ·rw [if_pos e3,if_pos (by omega)]
    ·rw [if_neg e3,if_neg (by omega)]
 have hpsz:(padPush v w.heap.size o).heap.size=w.heap.size+1:=by simp [padPush];omega
 have hal:∀ b,(w.alloc o).heap[b]?=if b=w.heap.size then some o else w.heap[b]?:=by
  intro b;rw [alloc_heap,Array.getElem?_push]
 refine ⟨padPush v w.heap.size o,⟨⟨by rw [hpsz,alloc_heap];simp,fun b o' hb ho=>?_⟩,by rw [alloc_heap];simp,rfl,rfl,rfl,fun b hb ho=>⟨fun o' ho'=>?_,?_⟩⟩,?_⟩
 ·rw [hget] at hb
  rw [hal]
  split at hb
  ·rename_i e;rw [if_pos e];exact hb
  ·rename_i e
   rw [if_neg e]
   split at hb
   ·exact hs.at_ b o' hb ho
   ·split at hb
    ·simp only [Option.some.injEq] at hb;exact absurd hb.symm ho
    ·cases hb
 ·rw [hget,if_neg (by omega)] at ho'
  split at ho'
  ·exact ho o' ho'
  ·simp only [Option.some.injEq] at ho';exact ho'.symm
 ·rw [hal,if_neg (by omega)]
 ·refine h w.heap.size _ hsz ⟨by rw [hpsz];omega,fun b o' hb _=>?_⟩ (by rw [hget,if_pos rfl])
  rw [hget,if_neg (by have:=getElem?_lt hb;omega),if_pos (getElem?_lt hb)]
  exact hb
theorem setCell_heap (w:World) (p:Addr) (x:Value) (b:Nat):(w.setCell p x).heap[b]?=if b=p.block then (w.heap[b]?).map (fun
   | .cells c elem frozen=>.cells (if p.spot.isSome then c else c.setIfInBounds p.off x) elem frozen
   | o=>o) else w.heap[b]?:=by
 unfold World.setCell
 simp only [Array.getElem?_modify]
 by_cases e:p.block=b
 ·rw [if_pos e,if_pos e.symm]
  cases hb:w.heap[b]? with
  | none=>rfl
  | some o=>cases o<;>rfl
 ·rw [if_neg e,if_neg (fun h=>e h.symm)]
theorem setCell_size (w:World) (p:Addr) (x:Value):(w.setCell p x).heap.size=w.heap.size:=by simp [World.setCell]
theorem setCell_fr {v w:World} (hs:Sub v w) {p:Addr} {y:Value} (hc:v.cell? p=some y) (x:Value):Fr v w (v.setCell p x) (w.setCell p x):=by
 have hbl:∃ c t f,v.heap[p.block]?=some (.cells c t f):=by
  unfold World.cell? at hc
  split at hc
  ·rename_i c t f hb;exact ⟨c,t,f,hb⟩
  ·cases hc
 obtain ⟨c,t,f,hbl⟩:=hbl
 have hbw:=hs.at_ _ _ hbl (by simp [absent])
 refine ⟨⟨by rw [setCell_size,setCell_size];exact hs.size,fun b o hb ho=>?_⟩,by rw [setCell_size];exact Nat.le_refl _,rfl,rfl,rfl,fun b _ ho=>?_⟩
 ·rw [setCell_heap] at hb ⊢
  by_cases e:b=p.block
  ·subst e
   rw [if_pos rfl] at hb ⊢
   rw [hbl] at hb
   rw [hbw]
   exact hb
  ·rw [if_neg e] at hb ⊢
   exact hs.at_ b o hb ho
 ·have hne:b≠p.block:=fun e=>by subst e;exact absurd (ho _ hbl) (by simp [absent])
  refine ⟨fun o' ho'=>?_,by rw [setCell_heap,if_neg hne]⟩
  rw [setCell_heap,if_neg hne] at ho'
  exact ho o' ho'
theorem setCellsW_fr:∀ (l:List Value) (off:Nat) {v w:World} {p:Addr},Sub v w→CanSet v p off l→Fr v w (setCellsW v p off l) (setCellsW w p off l)
 | [],_,_,_,_,hs,_=>.refl hs
 | [x],off,v,w,p,hs,hc=>by
  obtain ⟨⟨y,hy⟩,_⟩:=hc
  exact setCell_fr hs hy x
 | x ::z ::r,off,v,w,p,hs,hc=>by
  simp only [CanSet] at hc
  obtain ⟨⟨y,hy⟩,_,hr⟩:=hc
  have f1:=setCell_fr hs hy x
  refine f1.trans (setCellsW_fr (z ::r) (off+1) f1.sub ?_)
  exact canSet_setCell hy hr
where
 canSet_setCell {v:World} {p q:Addr} {x y:Value} (hy:v.cell? q=some y):∀ {l:List Value} {off:Nat},CanSet v p off l→CanSet (v.setCell q x) p off l
  | [],_,_=>trivial
  | [_],off,h=>⟨cellSome hy h.1,by rw [frozen_setCell];exact h.2⟩
  | _ ::b ::r,off,h=>by
   simp only [CanSet] at h ⊢
   exact ⟨cellSome hy h.1,by rw [frozen_setCell];exact h.2.1,canSet_setCell hy h.2.2⟩
 cellSome {v:World} {q:Addr} {x y:Value} (hy:v.cell? q=some y) {p:Addr} (h:∃ z,v.cell? p=some z):∃ z,(v.setCell q x).cell? p=some z:=by
  obtain ⟨z,hz⟩:=h
  rcases Classical.em (q=p) with e|e
  ·subst e;exact ⟨x,World.cell?_setCell_same v q x hy⟩
  ·exact ⟨z,by rw [World.cell?_setCell_other v q p x e];exact hz⟩
theorem canSet_get:∀ {l:List Value} {off:Nat} {v:World} {p:Addr},CanSet v p off l→∀ j,j < l.length→(∃ x,v.cell? (p.add (off+j))=some x)∧v.frozen? (p.add (off+j))=false
 | [],_,_,_,_,j,hj=>by simp at hj
 | [x],off,v,p,h,j,hj=>by
  have:j=0:=by simpa using hj
  subst this
  exact h
 | x ::y ::r,off,v,p,h,j,hj=>by
  simp only [CanSet] at h
  cases j with
  | zero=>exact ⟨h.1,h.2.1⟩
  | succ j=>
   have:=canSet_get h.2.2 j (by simpa using hj)
   rwa [show off+1+j=off+(j+1) from by omega] at this
theorem frozen_sub {v w:World} (hs:Sub v w) {p:Addr} {x:Value} (hc:v.cell? p=some x) (hf:v.frozen? p=false):w.frozen? p=false:=by
 unfold World.cell? at hc
 split at hc
 ·rename_i c t f hb
  have:=hs.at_ _ _ hb (by simp [absent])
  unfold World.frozen? at hf ⊢
  rw [hb] at hf
  rw [this]
  exact hf
 ·cases hc
theorem setCellsW_add (p:Addr) (off:Nat):∀ (l:List Value) (i:Nat) (w:World),setCellsW w (p.add off) i l=setCellsW w p (off+i) l
 | [],_,_=>rfl
 | x ::l,i,w=>by simp only [setCellsW,addr_add_add,setCellsW_add p off l (i+1)];rfl
theorem run_storeVar {P:Program} {w:World} {t:TypeId} {inf:TypeInfo} (hi:P.info? t=some inf) {p:Addr} {x:Value} {l:List Value} (hx:x.cells=l.toArray) (hl:l.length=inf.size)
  (h1:∀ y,y∈l→y.oneCell'=true) {off:Nat} (h2:∀ j,j < l.length→(∃ y,w.cell? (p.add (off+j))=some y)∧w.frozen? (p.add (off+j))=false):
  (Instr.storeAt t (.pointer (some (p.add off))) x).run P w=.ok () (setCellsW w p off l):=by
 have hr:=run_storeCells (P:=P) (a:=p.add off) l 0 w h1 (fun j hj=>by rw [addr_add_add];simpa using h2 j hj)
 rw [setCellsW_add p off l 0 w] at hr
 simp only [Instr.storeAt,Instr.sureAddr,Sem.run_bind,Sem.run_pure,Result.andThen_ok,storeVar,run_size hi,hx]
 simp [hl,hr]
theorem setCellsW_row {g t:Nat}:∀ (l:List Value) (off:Nat) {w:World} {c:Array Value},w.heap[g]?=some (.cells c t (0,0))→
  (setCellsW w ⟨g,0,none⟩ off l).heap[g]?=some (.cells ((l.zipIdx off).foldl (fun cs (p:Value×Nat)=>cs.setIfInBounds p.2 p.1) c) t (0,0))∧
  (∀ b,b≠g→(setCellsW w ⟨g,0,none⟩ off l).heap[b]?=w.heap[b]?)∧
  ((setCellsW w ⟨g,0,none⟩ off l).heap.size=w.heap.size∧(setCellsW w ⟨g,0,none⟩ off l).os=w.os∧(setCellsW w ⟨g,0,none⟩ off l).tape=w.tape∧(setCellsW w ⟨g,0,none⟩ off l).output=w.output)
 | [],_,_,_,h=>⟨h,fun _ _=>rfl,rfl,rfl,rfl,rfl⟩
 | x ::l,off,w,c,h=>by
  have hb:((⟨g,0,none⟩:Addr).add off).block=g:=by unfold Addr.add;split<;>rfl
  have hs:((⟨g,0,none⟩:Addr).add off).spot=none:=by unfold Addr.add;split<;>rfl
  have ho:((⟨g,0,none⟩:Addr).add off).off=off:=by unfold Addr.add;split<;>simp_all
  have h1:(w.setCell ((⟨g,0,none⟩:Addr).add off) x).heap[g]?=some (.cells (c.setIfInBounds off x) t (0,0)):=by
   rw [setCell_heap,if_pos hb.symm,h,hs,ho];rfl
  have h2:∀ b,b≠g→(w.setCell ((⟨g,0,none⟩:Addr).add off) x).heap[b]?=w.heap[b]?:=by
   intro b hne;rw [setCell_heap,if_neg (by rw [hb];exact hne)]
  obtain ⟨r1,r2,r3⟩:=setCellsW_row l (off+1) h1
  refine ⟨by simp only [setCellsW,List.zipIdx_cons,List.foldl_cons];exact r1,fun b hne=>by simp only [setCellsW];rw [r2 b hne,h2 b hne],?_⟩
  simp only [setCellsW]
  refine ⟨by rw [r3.1,setCell_size],r3.2.1,r3.2.2.1,r3.2.2.2⟩
theorem setRow_get (l:List Value) (off:Nat) (c:Array Value) (h:l=[]∨off+l.length≤c.size) (j:Nat):
  ((l.zipIdx off).foldl (fun cs (p:Value×Nat)=>cs.setIfInBounds p.2 p.1) c)[j]?=if off≤j∧j < off+l.length then l[j - off]? else c[j]?:=by
 induction l generalizing off c with
 | nil=>simp only [List.zipIdx_nil,List.foldl_nil,List.length_nil];rw [if_neg (by omega)]
 | cons x r ih=>
  have hl:off+(r.length+1)≤c.size:=by rcases h with h|h;cases h;exact h
  simp only [List.zipIdx_cons,List.foldl_cons,List.length_cons]
  rw [ih (off+1) _ (.inr (by simp;omega))]
  by_cases e1:j=off
  ·subst e1
   rw [if_neg (by omega),if_pos (by omega)]
   have:j < c.size:=by omega
   simp [this]
  ·by_cases e2:off+1≤j∧j < off+1+r.length
   ·rw [if_pos e2,if_pos (by omega),show j - off=(j - (off+1))+1 from by omega,List.getElem?_cons_succ]
   ·rw [if_neg e2,if_neg (by omega),Array.getElem?_setIfInBounds_ne (by omega)]
end Go.Vc
