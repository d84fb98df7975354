/- Part of the proofs about the heaps and memories: a law is joined in the text whose name ends in W and the law. -/
import Derived.Test.YtlcegaeioheikaaGreatEVcBase
set_option linter.all false
namespace Go.Vc
open Go
def holdsC (tmps:Array Value) (C:List (Nat×Bool)):Prop:=∀ p,p∈C→tmps[p.1]?=some (.bool p.2)
def AgE (β:List Nat) (tmps:Array Value) (i:Nat):SV→Prop
 | .gd c x=>(holdsC tmps c→tmps[i]?=some (den β x))∧(¬ holdsC tmps c→tmps[i]?=some undef)
 | x=>tmps[i]?=some (den β x)
def wfS (m:Nat):SV→Bool
 | .gd _ x=>wf2 m x
 | x=>wf2 m x
structure Rel (n:Nat) (s:Sy) (β:List Nat) (a:Act) (v u:World):Prop where
 size:a.tmps.size=n
 defers:a.defers=[]
 env:∀ p,p∈s.env→AgE β a.tmps p.1 p.2∧wfS s.box.length p.2=true
 sub:Sub v u
 len:β.length=s.box.length
 nodup:β.Nodup
 box:∀ i t cs,s.box[i]?=some (t,cs)→u.heap[β.getD i 0]?=some (.cells (cs.map (den0 β)).toArray t (0,0))∧Out v (β.getD i 0)∧cs.all (wf0 s.box.length)=true
 rest:∀ b,Out v b→b∉β→Out u b
theorem lookN_mem {α:Type} {i:Nat} {x:α}:∀ {l:List (Nat×α)},lookN i l=some x→(i,x)∈l
 | [],h=>by simp [lookN] at h
 | (j,y) ::r,h=>by
  simp only [lookN] at h
  cases hb:Nat.beq i j
  ·rw [hb] at h;exact List.mem_cons_of_mem _ (lookN_mem (by simpa using h))
  ·rw [hb] at h
   have e:=Nat.eq_of_beq_eq_true hb
   simp only [cond_true,Option.some.injEq] at h
   subst e;subst h
   exact List.mem_cons_self
theorem wf0_mono {m m':Nat} (h:m≤m') {x:SV} (k:wf0 m x=true):wf0 m' x=true:=by
 cases x<;>simp only [wf0] at k ⊢<;>first|(cases k;done)|skip
 rename_i i off
 have:=Nat.le_of_ble_eq_true k
 exact Nat.ble_eq_true_of_le (by omega)
theorem all_mono {p q:SV→Bool} (h:∀ x,p x=true→q x=true) {l:List SV} (k:l.all p=true):l.all q=true:=by
 rw [List.all_eq_true] at *
 exact fun x hx=>h x (k x hx)
theorem wf1_mono {m m':Nat} (h:m≤m') {x:SV} (k:wf1 m x=true):wf1 m' x=true:=by
 cases x<;>simp only [wf1] at k ⊢<;>first|exact all_mono (fun _=>wf0_mono h) k|exact wf0_mono h k
theorem wf2_mono {m m':Nat} (h:m≤m') {x:SV} (k:wf2 m x=true):wf2 m' x=true:=by
 cases x<;>simp only [wf2] at k ⊢<;>first|exact all_mono (fun _=>wf1_mono h) k|exact wf1_mono h k|exact absurd k (by simp)
theorem wfS_mono {m m':Nat} (h:m≤m') {x:SV} (k:wfS m x=true):wfS m' x=true:=by
 cases x<;>simp only [wfS] at k ⊢<;>exact wf2_mono h k
theorem wf0_clean {m:Nat} {x:SV} (h:clean0 x=true):wf0 m x=true:=by cases x<;>simp_all [clean0,wf0]
theorem wf1_clean {m:Nat} {x:SV} (h:clean1 x=true):wf1 m x=true:=by
 cases x<;>simp only [clean1,wf1] at h ⊢<;>first|exact all_mono (fun _=>wf0_clean) h|exact wf0_clean h
theorem wf2_clean {m:Nat} {x:SV} (h:clean x=true):wf2 m x=true:=by
 cases x<;>simp only [clean,wf2] at h ⊢<;>first|exact all_mono (fun _=>wf1_clean) h|exact wf1_clean h|(simp [clean1,clean0] at h)
theorem map_congr_all {α:Type} {p:SV→Bool} {f g:SV→α} (h:∀ x,p x=true→f x=g x) {l:List SV} (k:l.all p=true):l.map f=l.map g:=by
 rw [List.all_eq_true] at k
 exact List.map_congr_left fun x hx=>h x (k x hx)
theorem den0_clean (β:List Nat) {x:SV} (h:clean0 x=true):den0 β x=den0 [] x:=by cases x<;>simp_all [clean0,den0]
theorem den1_clean (β:List Nat) {x:SV} (h:clean1 x=true):den1 β x=den1 [] x:=by
 cases x<;>simp only [clean1,den1] at h ⊢<;>first|(rw [map_congr_all (fun _=>den0_clean β) h])|exact den0_clean β h
theorem den_clean (β:List Nat) {x:SV} (h:clean x=true):den β x=den [] x:=by
 cases x<;>simp only [clean,den] at h ⊢<;>first|(rw [map_congr_all (fun _=>den1_clean β) h])|exact den1_clean β h
theorem den0_ext {β γ:List Nat} {m:Nat} (hm:m≤β.length) {x:SV} (h:wf0 m x=true):den0 (β++γ) x=den0 β x:=by
 cases x<;>simp only [den0]
 rename_i i off
 simp only [wf0] at h
 have:=Nat.le_of_ble_eq_true h
 rw [List.getD_eq_getElem?_getD,List.getD_eq_getElem?_getD,List.getElem?_append_left (by omega)]
theorem den1_ext {β γ:List Nat} {m:Nat} (hm:m≤β.length) {x:SV} (h:wf1 m x=true):den1 (β++γ) x=den1 β x:=by
 cases x<;>simp only [wf1,den1] at h ⊢<;>first|(rw [map_congr_all (fun _=>den0_ext hm) h])|exact den0_ext hm h
theorem den_ext {β γ:List Nat} {m:Nat} (hm:m≤β.length) {x:SV} (h:wf2 m x=true):den (β++γ) x=den β x:=by
 cases x<;>simp only [wf2,den] at h ⊢<;>first|(rw [map_congr_all (fun _=>den1_ext hm) h])|exact den1_ext hm h|exact absurd h (by simp)
theorem AgE_ext {β γ:List Nat} {m:Nat} (hm:m≤β.length) {tmps:Array Value} {i:Nat} {x:SV} (h:wfS m x=true) (k:AgE β tmps i x):AgE (β++γ) tmps i x:=by
 cases x<;>simp only [AgE,wfS] at h k ⊢<;>rw [den_ext hm h]<;>exact k
theorem den_of_wf0 (β:List Nat) {m:Nat} {x:SV} (h:wf0 m x=true):den β x=den0 β x∧wf2 m x=true:=by
 cases x<;>simp only [wf0] at h<;>first|(cases h;done)|exact ⟨rfl,rfl⟩|exact ⟨rfl,h⟩
theorem ofCell_spec {x:Value} {y:SV} (h:ofCell x=some y) (β:List Nat) (m:Nat):den0 β y=x∧wf0 m y=true∧clean0 y=true:=by
 unfold ofCell at h
 split at h<;>first|(simp only [Option.some.injEq] at h;subst h;exact ⟨rfl,rfl,rfl⟩)|cases h
theorem ofCells_spec:∀ {l:List Value} {r:List SV},ofCells l=some r→∀ (β:List Nat) (m:Nat),r.map (den0 β)=l∧r.all (wf0 m)=true∧r.all clean0=true
 | [],r,h,β,m=>by simp only [ofCells,Option.some.injEq] at h;subst h;exact ⟨rfl,rfl,rfl⟩
 | x ::l,r,h,β,m=>by
  simp only [ofCells] at h
  split at h
  ·rename_i y l' hy hl
   simp only [Option.some.injEq] at h
   subst h
   obtain ⟨a1,a2,a3⟩:=ofCell_spec hy β m
   obtain ⟨b1,b2,b3⟩:=ofCells_spec hl β m
   exact ⟨by simp [a1,b1],by simp [a2,b2],by simp [a3,b3]⟩
  ·cases h
theorem ofValue_spec {x:Value} {y:SV} (h:ofValue x=some y) (β:List Nat) (m:Nat):den β y=x∧wf2 m y=true:=by
 unfold ofValue at h
 split at h
 ·split at h
  ·rename_i cs l hl
   simp only [Option.some.injEq] at h
   subst h
   obtain ⟨b1,b2,_⟩:=ofCells_spec hl β m
   exact ⟨by simp [den,den1,b1],b2⟩
  ·cases h
 ·obtain ⟨a1,a2,_⟩:=ofCell_spec h β m
  obtain ⟨e,hw⟩:=den_of_wf0 β a2
  exact ⟨by rw [e,a1],hw⟩
theorem oneCell_den0 (β:List Nat) {m:Nat} {x:SV} (h:wf0 m x=true):(den0 β x).oneCell'=true:=by
 cases x<;>simp only [wf0] at h<;>first|(cases h;done)|rfl|skip
 rename_i x
 exact x.h
theorem undef_ne_bool {q:Bool}:undef≠Value.bool q:=by simp [undef]
theorem subC_holds {tmps:Array Value} {c C:List (Nat×Bool)} (h:subC c C=true) (k:holdsC tmps C):holdsC tmps c:=by
 intro p hp
 simp only [subC,List.all_eq_true,List.any_eq_true,Bool.and_eq_true] at h
 obtain ⟨q,hq,h1,h2⟩:=h p hp
 have e1:=Nat.eq_of_beq_eq_true h1
 have e2:p.2=q.2:=by simpa using h2
 rw [e1,e2];exact k q hq
section
variable {n:Nat} {s:Sy} {β:List Nat} {a:Act} {v u:World}
theorem Rel.tmp (h:Rel n s β a v u) {C:List (Nat×Bool)} (hC:holdsC a.tmps C) {t:Nat} {y:SV} (he:ev s C (.tmp t)=some y):
  a.tmps[t]?=some (den β y)∧wf2 s.box.length y=true:=by
 simp only [ev] at he
 cases hl:lookN t s.env with
 | none=>rw [hl] at he;simp at he
 | some sv=>
  have hm:=h.env _ (lookN_mem hl)
  rw [hl] at he
  cases sv
  case gd c x=>
   simp only at he
   cases hs:subC c C
   ·rw [hs] at he;simp at he
   ·rw [hs] at he
    simp only [cond_true,Option.some.injEq] at he
    subst he
    exact ⟨hm.1.1 (subC_holds hs hC),hm.2⟩
  all_goals (simp only [Option.some.injEq] at he;subst he;exact ⟨hm.1,hm.2⟩)
theorem Rel.ev_ (h:Rel n s β a v u) {C:List (Nat×Bool)} (hC:holdsC a.tmps C) {x:Operand} {y:SV} (he:ev s C x=some y):
  a.eval x=den β y∧wf2 s.box.length y=true:=by
 cases x with
 | tmp t=>
  obtain ⟨h1,h2⟩:=h.tmp hC he
  exact ⟨by simp [Act.eval,h1],h2⟩
 | const x=>simp only [ev] at he;exact ⟨(ofValue_spec he β s.box.length).1.symm,(ofValue_spec he β s.box.length).2⟩
 | global g=>simp only [ev,Option.some.injEq] at he;subst he;exact ⟨by simp [Act.eval,den,den1,den0,Addr.add],rfl⟩
 | func f=>simp only [ev,Option.some.injEq] at he;subst he;exact ⟨by simp [Act.eval,den,den1],rfl⟩
theorem ev_wf (h:Rel n s β a v u) {C:List (Nat×Bool)} {x:Operand} {y:SV} (he:ev s C x=some y):wf2 s.box.length y=true:=by
 cases x with
 | tmp t=>
  simp only [ev] at he
  cases hl:lookN t s.env with
  | none=>rw [hl] at he;simp at he
  | some sv=>
   have hm:=h.env _ (lookN_mem hl)
   rw [hl] at he
   cases sv
   case gd c x=>
    simp only at he
    cases hs:subC c C
    ·rw [hs] at he;simp at he
    ·rw [hs] at he
     simp only [cond_true,Option.some.injEq] at he
     subst he
     exact hm.2
   all_goals (simp only [Option.some.injEq] at he;subst he;exact hm.2)
 | const x=>simp only [ev] at he;exact (ofValue_spec he β s.box.length).2
 | global g=>simp only [ev,Option.some.injEq] at he;subst he;rfl
 | func f=>simp only [ev,Option.some.injEq] at he;subst he;rfl
theorem imp_of (h:Rel n s β a v u):∀ {C:List (Nat×Bool)},holdsC a.tmps C→∀ {O:Prop},imp s C O→O
 | [],_,_,hi=>hi
 | (t,want) ::r,hC,O,hi=>by
  have hr:holdsC a.tmps r:=fun p hp=>hC p (List.mem_cons_of_mem _ hp)
  have ht:=hC (t,want) List.mem_cons_self
  simp only [imp] at hi
  split at hi
  ·rename_i q hl
   have hm:=(h.env _ (lookN_mem hl)).1
   simp only [AgE,den,den1,den0] at hm
   rw [ht] at hm
   exact imp_of h hr (hi (by injection hm with hm;injection hm with hm;exact hm.symm))
  ·rename_i c q hl
   have hm:=(h.env _ (lookN_mem hl)).1
   simp only [AgE,den,den1,den0] at hm
   rw [ht] at hm
   refine imp_of h hr (hi ?_)
   rcases Classical.em (holdsC a.tmps c) with hh|hh
   ·have:=hm.1 hh;injection this with this;injection this with this;exact this.symm
   ·have:=hm.2 hh;injection this with this;exact absurd this.symm undef_ne_bool
  ·exact imp_of h hr hi
theorem getD_put (tmps:Array Value) (d i:Nat) (x:Value) (hi:i≠d):(tmps.setIfInBounds d x)[i]?=tmps[i]?:=by
 rw [Array.getElem?_setIfInBounds_ne (by omega)]
theorem holdsC_put {tmps:Array Value} {d:Nat} {x:Value} {c:List (Nat×Bool)} (h:(c.any fun p=>Nat.beq p.1 d)=false):
  holdsC (tmps.setIfInBounds d x) c↔holdsC tmps c:=by
 have hne:∀ p,p∈c→p.1≠d:=by
  intro p hp e
  have:(c.any fun p=>Nat.beq p.1 d)=true:=List.any_eq_true.2 ⟨p,hp,by rw [e];exact Nat.beq_refl d⟩
  rw [h] at this;cases this
 constructor
 ·intro k p hp;rw [←getD_put tmps d p.1 x (hne p hp)];exact k p hp
 ·intro k p hp;rw [getD_put tmps d p.1 x (hne p hp)];exact k p hp
theorem AgE_put {β:List Nat} {tmps:Array Value} {d i:Nat} {x:Value} {y:SV} (hi:i≠d) (hr:refs d y=false) (k:AgE β tmps i y):
  AgE β (tmps.setIfInBounds d x) i y:=by
 cases y
 case gd c z=>
  simp only [AgE,refs] at k hr ⊢
  rw [getD_put tmps d i x hi,holdsC_put hr]
  exact k
 all_goals (simp only [AgE] at k ⊢;rw [getD_put tmps d i x hi];exact k)
theorem Rel.put (h:Rel n s β a v u) {d:Nat} (hd:d < n) {x:SV} {w:Value} (hx:refs d x=false) (hw:wfS s.box.length x=true)
  (hv:AgE β (a.tmps.setIfInBounds d w) d x):Rel n { s with env:=setE d x s.env } β (a.put (some d) w) v u:=by
 have _:=hd
 have _:=hx
 refine ⟨by simp [Act.put,h.size],h.defers,?_,h.sub,h.len,h.nodup,h.box,h.rest⟩
 intro p hp
 simp only [setE,List.mem_cons,List.mem_filter,Bool.and_eq_true,Bool.not_eq_true'] at hp
 rcases hp with rfl|⟨hp,h1,h2⟩
 ·exact ⟨hv,hw⟩
 ·obtain ⟨k1,k2⟩:=h.env p hp
  have hne:p.1≠d:=fun e=>by rw [e,Nat.beq_refl] at h1;cases h1
  exact ⟨AgE_put hne h2 k1,k2⟩
theorem getElem?_put_self {tmps:Array Value} {d:Nat} {w:Value} (h:d < tmps.size):(tmps.setIfInBounds d w)[d]?=some w:=by
 simp [h]
theorem Rel.put_gd (h:Rel n s β a v u) {d:Nat} (hd:d < n) {C:List (Nat×Bool)} {x:SV} {w:Value} (hx:refs d (gdSV C x)=false) (hw:wf2 s.box.length x=true)
  (h1:holdsC a.tmps C→w=den β x) (h2:¬ holdsC a.tmps C→w=undef):Rel n { s with env:=setE d (gdSV C x) s.env } β (a.put (some d) w) v u:=by
 have hs:d < a.tmps.size:=by rw [h.size];exact hd
 cases C with
 | nil=>
  have e:=h1 (fun p hp=>by cases hp)
  have hwS:wfS s.box.length x=true:=by cases x<;>simp only [wfS,wf2] at hw ⊢<;>first|exact hw|exact absurd hw (by simp)
  have hg:gdSV [] x=x:=rfl
  rw [hg] at hx ⊢
  refine h.put hd hx hwS ?_
  have:∀ z:SV,(∀ c y,z≠.gd c y)→(a.tmps.setIfInBounds d w)[d]?=some (den β z)→AgE β (a.tmps.setIfInBounds d w) d z:=by
   intro z hz k;cases z<;>first|exact k|exact absurd rfl (hz _ _)
  refine this x (fun c y e=>by subst e;simp [wf2] at hw) ?_
  rw [getElem?_put_self hs,e]
 | cons c C=>
  have hg:gdSV (c ::C) x=.gd (c ::C) x:=rfl
  rw [hg] at hx ⊢
  refine h.put hd hx hw ?_
  simp only [refs] at hx
  simp only [AgE]
  rw [holdsC_put hx,getElem?_put_self hs]
  exact ⟨fun k=>by rw [h1 k],fun k=>by rw [h2 k]⟩
theorem Rel.noDst (h:Rel n s β a v u) (w:Value):Rel n s β (a.put none w) v u:=h
end
theorem run_loadCells {P:Program} {w:World} {a:Addr}:∀ (l:List Value) (i:Nat) (acc:Array Value),(∀ j x,l[j]?=some x→w.cell? (a.add (i+j))=some x)→
  (loadCellsFrom a i l.length acc).run P w=.ok (acc++l.toArray) w
 | [],i,acc,_=>by simp [loadCellsFrom]
 | x ::l,i,acc,h=>by
  have h0:=h 0 x rfl
  simp only [Nat.add_zero] at h0
  have ih:=run_loadCells (P:=P) l (i+1) (acc.push x) (fun j y hy=>by
   have:=h (j+1) y (by simpa using hy)
   rwa [show i+(j+1)=i+1+j from by omega] at this)
  simp only [List.length_cons,loadCellsFrom,Sem.run_bind,run_load,h0,Result.andThen_ok,ih]
  simp
theorem cellsAt_get {w:World} {a:Addr}:∀ {l:List Value} {off:Nat},CellsAt w a off l→∀ j x,l[j]?=some x→w.cell? (a.add (off+j))=some x
 | [],_,_,j,x,hx=>by simp at hx
 | [y],off,h,j,x,hx=>by
  cases j with
  | zero=>simp only [List.getElem?_cons_zero,Option.some.injEq] at hx;subst hx;simpa [CellsAt] using h
  | succ j=>simp at hx
 | y ::z ::r,off,h,j,x,hx=>by
  simp only [CellsAt] at h
  cases j with
  | zero=>simp only [List.getElem?_cons_zero,Option.some.injEq] at hx;subst hx;simpa using h.1
  | succ j=>
   have:=cellsAt_get h.2 j x (by simpa using hx)
   rwa [show off+1+j=off+(j+1) from by omega] at this
theorem cell_sub {v w:World} (h:Sub v w) {p:Addr} {x:Value} (k:v.cell? p=some x):w.cell? p=some x:=by
 unfold World.cell? at k ⊢
 split at k
 ·rename_i c t f hb
  rw [h.at_ p.block _ hb (by simp [absent])]
  exact k
 ·cases k
theorem addr_add_add (p:Addr) (i j:Nat):(p.add i).add j=p.add (i+j):=by
 unfold Addr.add
 by_cases hi:i=0<;>by_cases hj:j=0<;>simp [hi,hj,Nat.add_assoc]
theorem run_isAgg {P:Program} {t:TypeId} {q:Bool} (hd:aggT P t=some q) (w:World):(isAgg t).run P w=.ok q w:=by
 unfold aggT at hd
 cases hu:P.underlying t with
 | none=>rw [hu] at hd;cases hd
 | some d=>
  rw [hu] at hd
  simp only [isAgg,Sem.run_bind,run_underlying hu,Result.andThen_ok]
  cases d<;>simp only [Option.some.injEq] at hd<;>subst hd<;>rfl
theorem run_size {P:Program} {t:TypeId} {i:TypeInfo} (hi:P.info? t=some i) (w:World):(sizeOf t).run P w=.ok i.size w:=by
 simp [sizeOf,run_typeInfo w hi]
theorem run_loadVar {P:Program} {w:World} {t:TypeId} {i:TypeInfo} {q:Bool} (hi:P.info? t=some i) (hd:aggT P t=some q) {p:Addr} {off:Nat} {l:List Value}
  (hl:l.length=i.size) (hpos:q=false→l≠[]) (hc:∀ j x,l[j]?=some x→w.cell? (p.add (off+j))=some x):
  (loadVar t (p.add off)).run P w=.ok (if q then .agg l.toArray else l.headD undef) w:=by
 simp only [Sem.run_bind,Result.andThen_ok,loadVar,run_isAgg hd]
 cases q
 ·cases l with
  | nil=>exact absurd rfl (hpos rfl)
  | cons x r=>
   have:=hc 0 x rfl
   simp only [Nat.add_zero] at this
   simp [this]
 ·simp only [if_true,Sem.run_bind,run_size hi,Result.andThen_ok,loadCells]
  rw [←hl,run_loadCells l 0 #[] (fun j x hx=>by rw [addr_add_add];simpa using hc j x hx)]
  simp
theorem frozen_setCell (w:World) (p q:Addr) (x:Value):(w.setCell p x).frozen? q=w.frozen? q:=by
 unfold World.frozen? World.setCell
 simp only [Array.getElem?_modify]
 by_cases e:p.block=q.block
 ·rw [if_pos e]
  cases hb:w.heap[q.block]? with
  | none=>rfl
  | some o=>cases o<;>rfl
 ·rw [if_neg e]
theorem run_storeCells {P:Program} {a:Addr}:∀ (l:List Value) (i:Nat) (w:World),(∀ x,x∈l→x.oneCell'=true)→
  (∀ j,j < l.length→(∃ x,w.cell? (a.add (i+j))=some x)∧w.frozen? (a.add (i+j))=false)→
  (storeCells a l i).run P w=.ok () (setCellsW w a i l)
 | [],_,_,_,_=>by simp [storeCells,setCellsW]
 | x ::l,i,w,h1,h2=>by
  obtain ⟨⟨y,hy⟩,hf⟩:=h2 0 (by simp)
  simp only [Nat.add_zero] at hy hf
  have hx:=run_store P w (a.add i) x .plain (h1 x List.mem_cons_self)
  have hs:(store (a.add i) x).run P w=.ok () (w.setCell (a.add i) x):=by
   rw [hx];simp [hy,hf]
  have ih:=run_storeCells (P:=P) (a:=a) l (i+1) (w.setCell (a.add i) x) (fun z hz=>h1 z (List.mem_cons_of_mem _ hz)) (fun j hj=>by
   have h3:=h2 (j+1) (by simp;omega)
   rw [show i+(j+1)=i+1+j from by omega] at h3
   obtain ⟨⟨z,hz⟩,hfz⟩:=h3
   refine ⟨?_,?_⟩
   ·rcases Classical.em (a.add i=a.add (i+1+j)) with e|e
    ·rw [←e];exact ⟨x,World.cell?_setCell_same w (a.add i) x hy⟩
    ·exact ⟨z,by rw [World.cell?_setCell_other w _ _ x e];exact hz⟩
   ·rw [←hfz]
    exact frozen_setCell w _ _ _)
  simp only [storeCells,Sem.run_bind,hs,Result.andThen_ok,ih,setCellsW]
end Go.Vc
