/- Part of the proofs about the heaps and memories: a law is joined in the text whose name ends in W and the law. -/
import Derived.Test.YtlcegaeioheikaaGreatEVcSb
set_option linter.all false
namespace Go.Vc
open Go
section
variable {P:Program} {n:Nat} {s:Sy} {β:List Nat} {a:Act} {v u:World} {C:List (Nat×Bool)} {o:Oper}
theorem takeC_some {cs l:List SV} {off m:Nat} (h:takeC cs off m=some l):l=(cs.drop off).take m∧off+m≤cs.length:=by
 unfold takeC at h
 split at h
 ·rename_i hb
  exact ⟨by simpa using h.symm,Nat.le_of_ble_eq_true hb⟩
 ·cases h
theorem takeC_length {cs l:List SV} {off m:Nat} (h:takeC cs off m=some l):l.length=m:=by
 obtain ⟨rfl,hl⟩:=takeC_some h
 simp;omega
theorem takeC_all {cs l:List SV} {off m:Nat} (h:takeC cs off m=some l) {p:SV→Bool} (k:cs.all p=true):l.all p=true:=by
 obtain ⟨rfl,_⟩:=takeC_some h
 rw [List.all_eq_true] at *
 exact fun x hx=>k x (List.mem_of_mem_drop (List.mem_of_mem_take hx))
theorem field_ps (h:Rel n s β a v u) {t:TypeId} {x:Operand} {f:Nat} (ho:o.op=.field t x f) {Kt:SV→Prop} (hp:pureOp P C o s v Kt):∃ z,Kt z∧PS P s β a u C o z:=by
 simp only [pureOp,ho] at hp
 split at hp<;>first|exact hp.elim|skip
 rename_i fs hu
 split at hp<;>first|exact hp.elim|skip
 rename_i fl hfl
 split at hp<;>first|exact hp.elim|skip
 rename_i i l hi hx
 have hwl:l.all (wf0 s.box.length)=true:=ev_wf h hx
 have run0:∀ w:World,holdsC a.tmps C→(execOp a.eval o).run P w=((part fl.type (l.map (den0 β)).toArray fl.offset).run P w).andThen fun x w'=>.ok (.value x) w':=by
  intro w hC
  have e1:a.eval x=.agg (l.map (den0 β)).toArray:=(h.ev_ hC hx).1
  simp only [execOp,ho,Instr.field,Sem.run_bind,run_underlying hu,Result.andThen_ok,hfl,e1,asAgg,Sem.run_pure]
 split at hp<;>first|exact hp.elim|skip
 ·rename_i hag
  split at hp<;>first|exact hp.elim|skip
  rename_i l' hl'
  refine ⟨_,hp,takeC_all hl' hwl,fun hC w _=>?_⟩
  obtain ⟨rfl,hle⟩:=takeC_some hl'
  rw [run0 w hC]
  simp only [part,Sem.run_bind,run_isAgg hag,Result.andThen_ok,if_true,run_size hi,Sem.run_pure,den,den1]
  congr 3
  simp [List.map_take,List.map_drop,List.extract_toArray,List.extract_eq_take_drop]
 ·rename_i hag
  split at hp<;>first|exact hp.elim|skip
  rename_i y hy
  have hy0:wf0 s.box.length y=true:=by rw [List.all_eq_true] at hwl;exact hwl y (List.mem_of_getElem? hy)
  obtain ⟨e0,hw⟩:=den_of_wf0 β hy0
  refine ⟨_,hp,hw,fun hC w _=>?_⟩
  have hg:(l.map (den0 β)).toArray[fl.offset]?=some (den0 β y):=by simp [hy]
  rw [run0 w hC]
  simp only [part,Sem.run_bind,run_isAgg hag,Result.andThen_ok,Bool.false_eq_true,if_false,hg,Sem.run_pure,e0]
theorem load_ps (h:Rel n s β a v u) {t:TypeId} {x:Operand} (ho:o.op=.load t x) {Kt:SV→Prop} (hp:pureOp P C o s v Kt):∃ z,Kt z∧PS P s β a u C o z:=by
 simp only [pureOp,ho] at hp
 split at hp<;>first|exact hp.elim|skip
 rename_i inf hi
 split at hp<;>first|exact hp.elim|skip
 ·rename_i i off hx
  split at hp<;>first|exact hp.elim|skip
  rename_i tb cs hb
  split at hp<;>first|exact hp.elim|skip
  rename_i l hl
  obtain ⟨hbx,_,hcw⟩:=h.box i tb cs hb
  have hlw:=takeC_all hl hcw
  obtain ⟨hl1,hl2⟩:=takeC_some hl
  have cells:∀ w:World,Sub u w→∀ j y,(l.map (den0 β))[j]?=some y→w.cell? ((⟨β.getD i 0,off,none⟩:Addr).add (0+j))=some y:=by
   intro w hs j y hy
   have hb2:=hs.at_ _ _ hbx (by simp [absent])
   rw [box_add]
   simp only [World.cell?,hb2]
   rw [hl1] at hy
   simp only [List.map_take,List.map_drop] at hy
   have:=List.getElem?_take_of_lt (l:=List.drop off (List.map (den0 β) cs)) (i:=j) (j:=inf.size) (by
    rcases Nat.lt_or_ge j inf.size with hlt|hge
    ·exact hlt
    ·rw [List.getElem?_eq_none (by simp;omega)] at hy;cases hy)
   rw [this,List.getElem?_drop] at hy
   simpa using hy
  have hlen:(l.map (den0 β)).length=inf.size:=by simp [takeC_length hl]
  have run0:∀ (q:Bool) (w:World),aggT P t=some q→(q=false→l≠[])→holdsC a.tmps C→Sub u w→
    (execOp a.eval o).run P w=.ok (.value (if q then .agg (l.map (den0 β)).toArray else (l.map (den0 β)).headD undef)) w:=by
   intro q w hq hne hC hs
   have e1:a.eval x=.pointer (some ((⟨β.getD i 0,off,none⟩:Addr).add 0)):=by rw [(h.ev_ hC hx).1];simp [den,den1,den0,Addr.add]
   have:=run_loadVar (P:=P) (w:=w) hi hq hlen (fun e=>by simpa using hne e) (cells w hs)
   simp only [execOp,ho,Instr.loadAt,e1,Instr.sureAddr,Sem.run_bind,Sem.run_pure,Result.andThen_ok,this]
  split at hp<;>first|exact hp.elim|skip
  ·rename_i hag
   refine ⟨_,hp,hlw,fun hC w hs=>?_⟩
   rw [run0 true w hag (by simp) hC hs]
   simp [den,den1]
  ·rename_i y hag
   obtain ⟨e0,hw⟩:=den_of_wf0 (m:=s.box.length) β (x:=y) (by simpa using hlw)
   refine ⟨_,hp,hw,fun hC w hs=>?_⟩
   rw [run0 false w hag (by simp) hC hs]
   simp [e0]
 ·rename_i p off hx
  split at hp<;>first|exact hp.elim|skip
  rename_i hb1 hb2
  obtain ⟨l,hl1,hl2,hp1,hp2⟩:=exK_mem hp
  have hlen:(l.map (den0 [])).length=inf.size:=by simp [hl1,Nat.eq_of_beq_eq_true hb1]
  have hpos:0 < inf.size:=Nat.le_of_ble_eq_true hb2
  have run0:∀ (q:Bool) (w:World),aggT P t=some q→holdsC a.tmps C→Sub v w→
    (execOp a.eval o).run P w=.ok (.value (if q then .agg (l.map (den0 [])).toArray else (l.map (den0 [])).headD undef)) w:=by
   intro q w hq hC hs
   have e1:a.eval x=.pointer (some (p.add off)):=(h.ev_ hC hx).1
   have hc:=cellsAt_get (imp_of h hC hp1)
   have:=run_loadVar (P:=P) (w:=w) hi hq hlen (fun _ e=>by rw [e] at hlen;simp at hlen;omega) (fun j y hy=>cell_sub hs (hc j y hy))
   simp only [execOp,ho,Instr.loadAt,e1,Instr.sureAddr,Sem.run_bind,Sem.run_pure,Result.andThen_ok,this]
  have hmap:l.map (den0 β)=l.map (den0 []):=map_congr_all (fun x hx=>den0_clean β hx) hl2
  split at hp2<;>first|exact hp2.elim|skip
  ·rename_i hag
   refine ⟨_,hp2,ev_clean_ag hl2 _,fun hC w hs=>?_⟩
   rw [run0 true w hag hC (h.sub.trans hs)]
   simp [den,den1,hmap]
  ·rename_i y hag
   have hc0:clean0 y=true:=by simpa using hl2
   obtain ⟨e0,hw⟩:=den_of_wf0 (m:=s.box.length) β (x:=y) (wf0_clean hc0)
   refine ⟨_,hp2,hw,fun hC w hs=>?_⟩
   rw [run0 false w hag hC (h.sub.trans hs)]
   simp [e0,den0_clean β hc0]
theorem extract_ps (h:Rel n s β a v u) {x:Operand} {i:Nat} (ho:o.op=.extract x i) {Kt:SV→Prop} (hp:pureOp P C o s v Kt):∃ z,Kt z∧PS P s β a u C o z:=by
 simp only [pureOp,ho] at hp
 split at hp<;>first|exact hp.elim|skip
 rename_i l hx
 split at hp<;>first|exact hp.elim|skip
 rename_i y hy
 have hw:=ev_wf h hx
 simp only [wf2,List.all_eq_true] at hw
 have hy1:=hw y (List.mem_of_getElem? hy)
 have hd:den β y=den1 β y∧wf2 s.box.length y=true:=by
  cases y<;>first|exact ⟨rfl,hy1⟩|(simp [wf1,wf0] at hy1)
 refine ⟨_,hp,hd.2,fun hC w _=>?_⟩
 have e1:a.eval x=.tuple (l.map (den1 β)).toArray:=(h.ev_ hC hx).1
 have hg:(l.map (den1 β)).toArray[i]?=some (den1 β y):=by simp [hy]
 simp only [execOp,ho,Instr.extract,e1,hg,Sem.run_bind,Sem.run_pure,Result.andThen_ok,hd.1]
theorem convert_ps (h:Rel n s β a v u) {t t':TypeId} {x:Operand} (ho:o.op=.convert t t' x) {Kt:SV→Prop} (hp:pureOp P C o s v Kt):∃ z,Kt z∧PS P s β a u C o z:=by
 simp only [pureOp,ho] at hp
 split at hp
 ·rename_i k1 k k2 m h1 h2 hx
  obtain ⟨r,hr,hp⟩:=hp
  refine ⟨_,hp,rfl,fun hC w _=>?_⟩
  have e1:a.eval x=.int k2 m:=(h.ev_ hC hx).1
  have e2:k.wrap m=r:=imp_of h hC hr
  simp only [execOp,ho,convert,Sem.run_bind,run_underlying h1,run_underlying h2,Result.andThen_ok,e1,Conv.intToInt,Sem.run_pure,e2,den,den1,den0]
 ·rename_i y h1 h2 hx
  refine ⟨_,hp,rfl,fun hC w _=>?_⟩
  have e1:a.eval x=.string y:=(h.ev_ hC hx).1
  simp only [execOp,ho,convert,Sem.run_bind,run_underlying h1,run_underlying h2,Result.andThen_ok,e1,Sem.run_pure,den,den1,den0]
 ·exact pureSem_sound h hp
theorem len_ps (h:Rel n s β a v u) {c:Call} (ho:o.op=.call c) {Kt:SV→Prop} (hp:pureOp P C o s v Kt):∃ z,Kt z∧PS P s β a u C o z:=by
 simp only [pureOp,ho] at hp
 split at hp
 ·exact pureSem_sound h hp
 ·exact pureSem_sound h hp
 case h_4=>exact hp.elim
 rename_i hcal
 have go:∀ (t:TypeId) (x:Operand) (m:Nat),c.argTypes[0]?=some t→c.args[0]?=some x→Kt (.num .i64 m)→
   (holdsC a.tmps C→∀ w:World,(Builtin.len_ c.argTypes o.type (c.args.map a.eval)).run P w=.ok (goInt m) w)→∃ z,Kt z∧PS P s β a u C o z:=by
  intro t x m _ _ hk hr
  refine ⟨_,hk,rfl,fun hC w _=>?_⟩
  simp only [execOp,ho,resolve,hcal,Sem.run_bind,Sem.run_pure,Result.andThen_ok,invoke,builtin,hr hC w]
  rfl
 have at0:∀ (x:Operand),c.args[0]?=some x→(c.args.map a.eval)[0]?=some (a.eval x):=by
  intro x hx;rw [Array.getElem?_map,hx];rfl
 split at hp<;>first|exact hp.elim|skip
 ·rename_i e y h1 h2
  obtain ⟨t,ht,hu⟩:=Option.bind_eq_some_iff.1 h1
  obtain ⟨x,hx,he⟩:=Option.bind_eq_some_iff.1 h2
  refine go t x y.n ht hx hp fun hC w=>?_
  have e1:a.eval x=.slice y.a y.n y.c:=(h.ev_ hC he).1
  simp only [Builtin.len_,ht,at0 x hx,e1,Sem.run_bind,run_underlying hu,Result.andThen_ok,Sem.run_pure]
 ·rename_i y h1 h2
  obtain ⟨t,ht,hu⟩:=Option.bind_eq_some_iff.1 h1
  obtain ⟨x,hx,he⟩:=Option.bind_eq_some_iff.1 h2
  refine go t x y.size ht hx hp fun hC w=>?_
  have e1:a.eval x=.string y:=(h.ev_ hC he).1
  simp only [Builtin.len_,ht,at0 x hx,e1,Sem.run_bind,run_underlying hu,Result.andThen_ok,Sem.run_pure]
end
end Go.Vc
