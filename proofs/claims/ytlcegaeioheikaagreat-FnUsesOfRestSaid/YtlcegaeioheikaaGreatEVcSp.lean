/- Part of the proofs about the heaps and memories: a law is joined in the text whose name ends in W and the law. -/
import Derived.Test.YtlcegaeioheikaaGreatEVcSa
import Derived.IntWalk
set_option linter.all false
namespace Go.Vc
open Go
section
variable {P:Program} {n:Nat} {s:Sy} {β:List Nat} {a:Act} {v u:World} {C:List (Nat×Bool)} {o:Oper}
def PS (P:Program) (s:Sy) (β:List Nat) (a:Act) (u:World) (C:List (Nat×Bool)) (o:Oper) (x:SV):Prop:=
 wf2 s.box.length x=true∧(holdsC a.tmps C→∀ w:World,Sub u w→(execOp a.eval o).run P w=.ok (.value (den β x)) w)
theorem exK_mem {ks:List K} {f:List SV→Prop} (h:exK ks f):∃ l,l.length=ks.length∧l.all clean0=true∧f l:=by
 induction ks generalizing f with
 | nil=>exact ⟨[],rfl,rfl,h⟩
 | cons k ks ih=>
  cases k<;>simp only [exK] at h<;>(obtain ⟨x,h⟩:=h;obtain ⟨l,h1,h2,h3⟩:=ih h;exact ⟨_ ::l,by simp [h1],by simp [clean0] at h2 ⊢;exact h2,h3⟩)
theorem evs_spec (h:Rel n s β a v u):∀ {xs:List Operand} {ys:List SV},evs s C xs=some ys→ys.all (wf2 s.box.length)=true∧ys.length=xs.length∧
  (holdsC a.tmps C→xs.map a.eval=ys.map (den β))
 | [],ys,he=>by simp only [evs,Option.some.injEq] at he;subst he;exact ⟨rfl,rfl,fun _=>rfl⟩
 | x ::xs,ys,he=>by
  simp only [evs] at he
  split at he
  ·rename_i y l hy hl
   simp only [Option.some.injEq] at he
   subst he
   obtain ⟨h1,h2,h3⟩:=evs_spec h hl
   exact ⟨by simp [ev_wf h hy,h1],by simp [h2],fun hC=>by simp [(h.ev_ hC hy).1,h3 hC]⟩
  ·cases he
theorem evP_spec (h:Rel n s β a v u):∀ {xs:List (Nat×Operand)} {ys:List (Nat×SV)},evP s C xs=some ys→
  (holdsC a.tmps C→xs.map (fun p=>(p.1,a.eval p.2))=ys.map fun p=>(p.1,den β p.2))
 | [],ys,he=>by simp only [evP,Option.some.injEq] at he;subst he;exact fun _=>rfl
 | (i,x) ::xs,ys,he=>by
  simp only [evP] at he
  split at he
  ·rename_i y l hy hl
   simp only [Option.some.injEq] at he
   subst he
   have h3:=evP_spec h hl
   exact fun hC=>by simp [(h.ev_ hC hy).1,h3 hC]
  ·cases he
theorem ev_clean (h:Rel n s β a v u) (hC:holdsC a.tmps C) {x:Operand} {y:SV} (he:ev s C x=some y) (hc:clean y=true):a.eval x=den [] y:=by
 rw [(h.ev_ hC he).1,den_clean β hc]
theorem evs_clean (h:Rel n s β a v u) (hC:holdsC a.tmps C) {xs:List Operand} {ys:List SV} (he:evs s C xs=some ys) (hc:ys.all clean=true):xs.map a.eval=ys.map (den []):=by
 rw [(evs_spec h he).2.2 hC]
 exact map_congr_all (fun _ hx=>den_clean β hx) hc
theorem evd_spec (h:Rel n s β a v u) (hC:holdsC a.tmps C) {x:Operand} {r:Value} (he:evd s C x=some r):a.eval x=r:=by
 unfold evd at he
 split at he<;>first|cases he;done|skip
 rename_i y hy
 split at he<;>first|cases he;done|skip
 rename_i hc
 simp only [Option.some.injEq] at he
 rw [←he];exact ev_clean h hC hy hc
theorem semOf_run (h:Rel n s β a v u) (hC:holdsC a.tmps C) {e:Sem Value} (he:semOf s C o=some e) (w:World):(execOp a.eval o).run P w=(e.run P w).andThen fun x w'=>.ok (.value x) w':=by
 unfold semOf at he
 simp only at he
 split at he<;>first|cases he;done|skip
 ·rename_i t l c ho
  split at he<;>first|cases he;done|skip
  rename_i l' c' hl hc
  simp only [Option.some.injEq] at he
  simp only [execOp,ho,Sem.run_bind,Sem.run_pure,evd_spec h hC hl,evd_spec h hC hc,←he]
 ·rename_i t m parts ho
  split at he<;>first|cases he;done|skip
  rename_i ps hps
  split at he<;>first|cases he;done|skip
  rename_i hc
  simp only [Option.some.injEq] at he
  have e:=evP_spec h hps hC
  have e2:ps.map (fun p=>(p.1,den β p.2))=ps.map fun p=>(p.1,den [] p.2):=by
   apply List.map_congr_left
   intro p hp
   rw [List.all_eq_true] at hc
   rw [den_clean β (hc p hp)]
  have e3:(parts.map fun (i,x)=>(i,a.eval x))=(ps.map fun p=>(p.1,den [] p.2)).toArray:=by
   apply Array.ext'
   simp only [Array.toList_map]
   rw [←e2,←e]
  simp only [execOp,ho,Sem.run_bind,Sem.run_pure,e3,←he]
 ·rename_i t r ho
  split at he<;>first|cases he;done|skip
  ·simp only [Option.some.injEq] at he
   simp only [execOp,ho,Sem.run_bind,Sem.run_pure,Option.map_none,←he]
  ·rename_i x
   split at he<;>first|cases he;done|skip
   rename_i y hy
   simp only [Option.some.injEq] at he
   simp only [execOp,ho,Sem.run_bind,Sem.run_pure,Option.map_some,evd_spec h hC hy,←he]
 ·rename_i t x i ok ho
  split at he<;>first|cases he;done|skip
  rename_i l' c' hl hc
  simp only [Option.some.injEq] at he
  simp only [execOp,ho,Sem.run_bind,Sem.run_pure,evd_spec h hC hl,evd_spec h hC hc,←he]
 ·rename_i t x ho
  obtain ⟨y,hy,he⟩:=Option.map_eq_some_iff.1 he
  simp only [execOp,ho,Sem.run_bind,Sem.run_pure,evd_spec h hC hy,←he]
 ·rename_i x q ho
  obtain ⟨y,hy,he⟩:=Option.map_eq_some_iff.1 he
  simp only [execOp,ho,Sem.run_bind,Sem.run_pure,evd_spec h hC hy,←he]
 ·rename_i t t' x ho
  obtain ⟨y,hy,he⟩:=Option.map_eq_some_iff.1 he
  simp only [execOp,ho,Sem.run_bind,Sem.run_pure,evd_spec h hC hy,←he]
 ·rename_i op t x y t' ho
  split at he<;>first|cases he;done|skip
  rename_i l' c' hl hc
  simp only [Option.some.injEq] at he
  simp only [execOp,ho,Sem.run_bind,Sem.run_pure,evd_spec h hC hl,evd_spec h hC hc,←he]
 ·rename_i c ho
  split at he<;>first|cases he;done|skip
  rename_i b l hcal hl
  split at he<;>first|cases he;done|skip
  rename_i hc
  have hargs:c.args.map a.eval=(l.map (den [])).toArray:=by
   apply Array.ext'
   simp only [Array.toList_map]
   exact evs_clean h hC hl hc
  split at he<;>first|cases he;done|skip
  all_goals
   simp only [Option.some.injEq] at he
   simp only [execOp,ho,resolve,hcal,Sem.run_bind,Sem.run_pure,Result.andThen_ok,invoke,builtin,hargs,←he]
theorem pureSem_sound (h:Rel n s β a v u) {Kt:SV→Prop} (hp:pureSem P C o s v Kt):∃ z,Kt z∧PS P s β a u C o z:=by
 unfold pureSem at hp
 split at hp<;>first|exact hp.elim|skip
 rename_i e he
 obtain ⟨l,_,hl,hp⟩:=exK_mem hp
 match l,hl,hp with
 | [],_,hp=>exact hp.elim
 | _ ::_ ::_,_,hp=>exact hp.elim
 | [y],hl,hp=>
  have hy:clean0 y=true:=by simpa using hl
  obtain ⟨e0,hw⟩:=den_of_wf0 (m:=s.box.length) β (wf0_clean hy)
  refine ⟨y,hp.2,hw,fun hC w hs=>?_⟩
  have hr:=imp_of h hC hp.1 w (h.sub.trans hs)
  rw [semOf_run h hC he w,hr,Result.andThen_ok,e0,den0_clean β hy]
end
end Go.Vc
