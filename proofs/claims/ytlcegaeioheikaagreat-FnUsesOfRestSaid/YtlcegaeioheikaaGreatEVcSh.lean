/- Part of the proofs about the heaps and memories: a law is joined in the text whose name ends in W and the law. -/
import Derived.Test.YtlcegaeioheikaaGreatEVcSg
set_option linter.all false
namespace Go.Vc
open Go
theorem memN_iff {x:Nat}:∀ {l:List Nat},memN x l=true↔x∈l
 | []=>by simp [memN]
 | y ::l=>by
  simp only [memN]
  cases h:Nat.beq x y
  ·simp only [cond_false,memN_iff (l:=l),List.mem_cons]
   refine ⟨.inr,fun k=>k.resolve_left fun e=>?_⟩
   rw [e,Nat.beq_refl] at h;cases h
  ·simp [Nat.eq_of_beq_eq_true h]
section
variable {P:Program} {A:Ann} {n:Nat} {s s':Sy} {β γ:List Nat} {a:Act} {v u:World}
theorem sameC_spec {bl:List (Nat×Nat×K)} {i:Nat} {Q:Prop}:∀ {cs cs':List SV} {j:Nat},sameC bl i j cs cs' Q→Q∧cs.length=cs'.length∧
  ∀ k x,cs[k]?=some x→declared i (j+k) bl=false→cs'[k]?=some x
 | [],[],_,h=>⟨h,rfl,fun k x hx=>by simp at hx⟩
 | [],_ ::_,_,h=>h.elim
 | _ ::_,[],_,h=>h.elim
 | x ::cs,y ::cs',j,h=>by
  simp only [sameC] at h
  split at h
  ·rename_i hd
   obtain ⟨h1,h2,h3⟩:=sameC_spec h
   refine ⟨h1,by simp [h2],fun k z hz hn=>?_⟩
   cases k with
   | zero=>rw [Nat.add_zero,hd] at hn;cases hn
   | succ k=>simp only [List.getElem?_cons_succ] at hz ⊢;exact h3 k z hz (by rw [←hn];congr 1;omega)
  ·obtain ⟨rfl,h⟩:=h
   obtain ⟨h1,h2,h3⟩:=sameC_spec h
   refine ⟨h1,by simp [h2],fun k z hz hn=>?_⟩
   cases k with
   | zero=>exact hz
   | succ k=>simp only [List.getElem?_cons_succ] at hz ⊢;exact h3 k z hz (by rw [←hn];congr 1;omega)
theorem sameB_spec {bl:List (Nat×Nat×K)} {Q:Prop}:∀ {b b':List (Nat×List SV)} {i:Nat},sameB bl i b b' Q→Q∧
  ∀ k t cs,b[k]?=some (t,cs)→∃ cs',b'[k]?=some (t,cs')∧cs.length=cs'.length∧∀ j x,cs[j]?=some x→declared (i+k) j bl=false→cs'[j]?=some x
 | [],_,_,h=>⟨h,fun k t cs hk=>by simp at hk⟩
 | (t,cs) ::b,[],_,h=>h.elim
 | (t,cs) ::b,(t',cs') ::b',i,h=>by
  simp only [sameB] at h
  split at h<;>first|exact h.elim|skip
  rename_i ht
  have e:=Nat.eq_of_beq_eq_true ht
  subst e
  obtain ⟨h1,h2,h3⟩:=sameC_spec h
  obtain ⟨r1,r2⟩:=sameB_spec h1
  refine ⟨r1,fun k t' c hk=>?_⟩
  cases k with
  | zero=>
   simp only [List.getElem?_cons_zero,Option.some.injEq,Prod.mk.injEq] at hk
   obtain ⟨rfl,rfl⟩:=hk
   exact ⟨cs',rfl,h2,fun j x hx hn=>h3 j x hx (by simpa using hn)⟩
  | succ k=>
   simp only [List.getElem?_cons_succ] at hk ⊢
   obtain ⟨c',k1,k2,k3⟩:=r2 k t' c hk
   exact ⟨c',k1,k2,fun j x hx hn=>k3 j x hx (by rw [←hn];congr 1;omega)⟩
def Good (b b':List (Nat×List SV)) (BL bl:List (Nat×Nat×K)) (bx:List (Nat×List SV)):Prop:=
 bx.length=b.length∧∀ i t cs,bx[i]?=some (t,cs)→∃ cs0,b[i]?=some (t,cs0)∧cs.length=cs0.length∧
  ∀ j x,cs[j]?=some x→(∃ y k t' cs',b'[i]?=some (t',cs')∧cs'[j]?=some y∧conv k y=some x)∨(cs0[j]?=some x∧(declared i j bl=true∨declared i j BL=false))
theorem declared_ne {i j i0 j0:Nat} {k:K} {r:List (Nat×Nat×K)} (h:i≠i0∨j≠j0):declared i j ((i0,j0,k) ::r)=declared i j r:=by
 simp only [declared]
 cases h1:Nat.beq i i0<;>cases h2:Nat.beq j j0<;>simp
 have e1:=Nat.eq_of_beq_eq_true h1
 have e2:=Nat.eq_of_beq_eq_true h2
 rcases h with h|h
 ·exact absurd e1 h
 ·exact absurd e2 h
theorem putB_good {b b':List (Nat×List SV)} {BL:List (Nat×Nat×K)} {e:List (Nat×SV)}:∀ {bl:List (Nat×Nat×K)} {lb:List SV} {bx:List (Nat×List SV)},
  valsB ⟨e,b'⟩ bl=some lb→Good b b' BL bl bx→Good b b' BL [] (putB bl lb bx)∧okK (bl.map (·.2.2)) lb∧lb.length=bl.length
 | [],lb,bx,hv,hg=>by simp only [valsB,Option.some.injEq] at hv;subst hv;exact ⟨hg,trivial,rfl⟩
 | (i0,j0,k0) ::r,lb,bx,hv,hg=>by
  simp only [valsB] at hv
  split at hv<;>first|(cases hv;done)|skip
  rename_i x0 l' hx hl
  simp only [Option.some.injEq] at hv
  subst hv
  obtain ⟨y,hy,hc⟩:=Option.bind_eq_some_iff.1 hx
  obtain ⟨⟨t1,cs1⟩,hb1,hc1⟩:=Option.bind_eq_some_iff.1 hy
  have hg':Good b b' BL r (setB i0 j0 x0 bx):=by
   obtain ⟨g1,g2⟩:=hg
   unfold setB
   cases hbx:bx[i0]? with
   | none=>
    refine ⟨g1,fun i t cs hi=>?_⟩
    obtain ⟨cs0,q1,q2,q3⟩:=g2 i t cs hi
    refine ⟨cs0,q1,q2,fun j x hj=>?_⟩
    have hne:i≠i0:=fun e=>by subst e;simp only at hi;rw [hbx] at hi;cases hi
    rcases q3 j x hj with h|⟨h1,h2⟩
    ·exact .inl h
    ·exact .inr ⟨h1,h2.imp (fun h=>by rw [declared_ne (.inl hne)] at h;exact h) id⟩
   | some p=>
    obtain ⟨t0,cs0⟩:=p
    simp only
    have hlt:i0 < bx.length:=by rcases Nat.lt_or_ge i0 bx.length with h|h;exact h;rw [List.getElem?_eq_none h] at hbx;cases hbx
    refine ⟨by simp [g1],fun i t cs hi=>?_⟩
    rcases Classical.em (i=i0) with e|e
    ·subst e
     rw [List.getElem?_set_self hlt] at hi
     simp only [Option.some.injEq,Prod.mk.injEq] at hi
     obtain ⟨rfl,rfl⟩:=hi
     obtain ⟨c0,q1,q2,q3⟩:=g2 i t0 cs0 hbx
     refine ⟨c0,q1,by simp [q2],fun j x hj=>?_⟩
     rcases Classical.em (j=j0) with ej|ej
     ·subst ej
      rcases Nat.lt_or_ge j cs0.length with hl|hl
      ·rw [List.getElem?_set_self hl] at hj
       simp only [Option.some.injEq] at hj
       subst hj
       exact .inl ⟨y,k0,t1,cs1,hb1,hc1,hc⟩
      ·rw [List.getElem?_eq_none (by simpa using hl)] at hj;cases hj
     ·rw [List.getElem?_set_ne (Ne.symm ej)] at hj
      rcases q3 j x hj with h|⟨h1,h2⟩
      ·exact .inl h
      ·exact .inr ⟨h1,h2.imp (fun h=>by rw [declared_ne (.inr ej)] at h;exact h) id⟩
    ·rw [List.getElem?_set_ne (Ne.symm e)] at hi
     obtain ⟨c0,q1,q2,q3⟩:=g2 i t cs hi
     refine ⟨c0,q1,q2,fun j x hj=>?_⟩
     rcases q3 j x hj with h|⟨h1,h2⟩
     ·exact .inl h
     ·exact .inr ⟨h1,h2.imp (fun h=>by rw [declared_ne (.inl e)] at h;exact h) id⟩
  obtain ⟨r1,r2,r3⟩:=putB_good hl hg'
  exact ⟨r1,⟨(conv_spec hc [] 0).2.2.2.2.2,r2⟩,by simp [r3]⟩
theorem putE_mem {p:Nat×SV}:∀ {sl:List (Nat×K)} {l:List SV} {e:List (Nat×SV)},p∈putE sl l e→p∈putE sl l []∨p∈e
 | [],_,_,h=>.inr (by simpa [putE] using h)
 | _ ::_,[],_,h=>.inr (by simpa [putE] using h)
 | (t,k) ::r,x ::l,e,h=>by
  simp only [putE,List.mem_cons] at h ⊢
  rcases h with h|h
  ·exact .inl (.inl h)
  ·exact (putE_mem h).imp .inr id
theorem putE_append {lb:List SV}:∀ {sl:List (Nat×K)} {l:List SV},l.length=sl.length→putE sl (l++lb) []=putE sl l []
 | [],[],_=>by cases lb<;>rfl
 | [],_ ::_,h=>by simp at h
 | _ ::_,[],h=>by simp at h
 | (t,k) ::r,x ::l,h=>by
  simp only [List.cons_append,putE,List.cons.injEq,true_and]
  exact putE_append (by simpa using h)
theorem okK_append:∀ {ks ks':List K} {l l':List SV},okK ks l→okK ks' l'→okK (ks++ks') (l++l')
 | [],_,[],_,_,h=>h
 | [],_,_ ::_,_,h,_=>h.elim
 | _ ::_,_,[],_,h,_=>h.elim
 | _ ::_,_,_ ::_,_,h,h'=>⟨h.1,okK_append h.2 h'⟩
theorem Rel.head (h:Rel n s' (β++γ) a v u) {ws:List Nat} {sl:List (Nat×K)} {bl:List (Nat×Nat×K)} {l:List SV} {Q:Prop} (hlen:β.length=s.box.length)
  (hwb:∀ (i t:Nat) (cs:List SV),s.box[i]?=some (t,cs)→cs.all (wf0 s.box.length)=true) (hkp:Keep β.length s.env s'.env ws) (hv:vals s' sl bl=some l) (hB:sameB bl 0 s.box s'.box Q):
  Q∧okK (kindsOf sl bl) l∧∃ u2,Sub u2 u∧Rel n (headOf s ws sl bl l) β a v u2:=by
 obtain ⟨hQ,hsame⟩:=sameB_spec hB
 unfold vals at hv
 split at hv<;>first|(cases hv;done)|skip
 rename_i le lb hle hlb
 simp only [Option.some.injEq] at hv
 subst hv
 obtain ⟨e1,e2,e3⟩:=valsE_spec h hle
 have hg0:Good s.box s'.box bl bl s.box:=⟨rfl,fun i t cs hi=>⟨cs,hi,rfl,fun j x hj=>.inr ⟨hj,by cases declared i j bl<;>simp⟩⟩⟩
 obtain ⟨⟨g1,g2⟩,ok2,g3⟩:=putB_good (e:=s'.env) hlb hg0
 have hdrop:(le++lb).drop sl.length=lb:=by rw [←e2];simp
 have hold:∀ g,g∈β→Out v g∧g < u.heap.size:=by
  intro g hg
  obtain ⟨⟨o,h1,_⟩,h2⟩:=h.boxOf (List.mem_append_left _ hg)
  exact ⟨h2,getElem?_lt h1⟩
 obtain ⟨j1,j2,j3,j4⟩:=join_spec (v:=v) (w:=u) (β:=β) h.sub hold
 have hblen:(headOf s ws sl bl (le++lb)).box.length=s.box.length:=by simp only [headOf,hdrop];exact g1
 refine ⟨hQ,okK_append e1 ok2,joinW v u β,j2,⟨h.size,h.defers,?_,j1,by rw [hblen];exact hlen,(List.nodup_append.1 h.nodup).1,?_,j4⟩⟩
 ·intro p hp
  simp only [headOf] at hp
  rcases putE_mem hp with hp|hp
  ·rw [putE_append e2] at hp
   obtain ⟨x,q1,q2,q3,q4,q5⟩:=e3 p hp
   have hd:den (β++γ) p.2=den β p.2:=by
    have hw:=(den_of_wf0 (m:=β.length) β (wf0_clean q3)).2
    exact den_ext (Nat.le_refl _) hw
   rw [hd] at q4
   have:∀ y:SV,clean0 y=true→a.tmps[p.1]?=some (den β y)→AgE β a.tmps p.1 y∧wfS (headOf s ws sl bl (le++lb)).box.length y=true:=by
    intro y hy hh
    have hw:=(den_of_wf0 (m:=(headOf s ws sl bl (le++lb)).box.length) β (wf0_clean hy)).2
    cases y<;>first|exact ⟨hh,hw⟩|cases hy
   exact this p.2 q3 q4
  ·simp only [List.mem_filter,Bool.and_eq_true,Bool.not_eq_true'] at hp
   obtain ⟨hp,hn,hw⟩:=hp
   have hn':p.1∉ws:=fun hm=>by rw [memN_iff.2 hm] at hn;cases hn
   rw [←hlen] at hw
   have hk:=(h.env p (hkp p hp hn' hw)).1
   have:∀ y:SV,wf2 β.length y=true→AgE (β++γ) a.tmps p.1 y→AgE β a.tmps p.1 y∧wfS (headOf s ws sl bl (le++lb)).box.length y=true:=by
    intro y hy hh
    have hd:=den_ext (γ:=γ) (Nat.le_refl β.length) hy
    rw [hblen,←hlen]
    cases y<;>first|exact ⟨by simp only [AgE] at hh ⊢;rw [←hd];exact hh,hy⟩|cases hy
   exact this p.2 hw hk
 ·intro i t cs hi
  have hi':(putB bl lb s.box)[i]?=some (t,cs):=by simpa only [headOf,hdrop] using hi
  obtain ⟨cs0,q1,q2,q3⟩:=g2 i t cs hi'
  obtain ⟨cs',p1,p2,p3⟩:=hsame i t cs0 q1
  obtain ⟨b1,b2,b3⟩:=h.box i t cs' p1
  have hil:i < β.length:=by rw [hlen];rcases Nat.lt_or_ge i s.box.length with hl|hg;exact hl;rw [List.getElem?_eq_none hg] at q1;cases q1
  have hge:(β++γ).getD i 0=β.getD i 0:=by rw [List.getD_eq_getElem?_getD,List.getD_eq_getElem?_getD,List.getElem?_append_left hil]
  rw [hge] at b1 b2
  have hm:β.getD i 0∈β:=by rw [List.getD_eq_getElem?_getD,List.getElem?_eq_getElem hil];exact List.getElem_mem hil
  
  have hcell:∀ (j:Nat) (x:SV),cs[j]?=some x→wf0 β.length x=true∧∃ y:SV,cs'[j]?=some y∧den0 (β++γ) y=den0 β x:=by
   intro j x hj
   rcases q3 j x hj with ⟨y,k,t',c',r1,r2,r3⟩|⟨r1,r2⟩
   ·rw [p1] at r1
    simp only [Option.some.injEq,Prod.mk.injEq] at r1
    obtain ⟨_,rfl⟩:=r1
    obtain ⟨_,c2,c3,_,c5,_⟩:=conv_spec r3 (β++γ) β.length
    exact ⟨c5,y,r2,by rw [c2,den0_ext (Nat.le_refl _) c5]⟩
   ·have hw:=hwb i t cs0 q1
    rw [List.all_eq_true] at hw
    have hwx:=hw x (List.mem_of_getElem? r1)
    rw [←hlen] at hwx
    have hnd:declared (0+i) j bl=false:=by
     rw [Nat.zero_add]
     rcases r2 with r2|r2
     ·simp [declared] at r2
     ·exact r2
    exact ⟨hwx,x,p3 j x r1 hnd,den0_ext (Nat.le_refl _) hwx⟩
  have hmap:cs'.map (den0 (β++γ))=cs.map (den0 β):=by
   apply List.ext_getElem?
   intro j
   simp only [List.getElem?_map]
   cases hj:cs[j]? with
   | none=>
    have:cs'[j]?=none:=by rw [List.getElem?_eq_none_iff] at hj ⊢;omega
    rw [this];rfl
   | some x=>
    obtain ⟨_,y,hy,hd⟩:=hcell j x hj
    rw [hy];simp [hd]
  refine ⟨by rw [j3 _ hm,←hmap];exact b1,b2,?_⟩
  rw [hblen,←hlen,List.all_eq_true]
  intro x hx
  obtain ⟨j,hj⟩:=List.mem_iff_getElem?.1 hx
  exact (hcell j x hj).1
end
end Go.Vc
