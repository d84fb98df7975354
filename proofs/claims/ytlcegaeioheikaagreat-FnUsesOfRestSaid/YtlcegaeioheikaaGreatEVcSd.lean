/- Part of the proofs about the heaps and memories: a law is joined in the text whose name ends in W and the law. -/
import Derived.Test.YtlcegaeioheikaaGreatEVcSc
set_option linter.all false
namespace Go.Vc
open Go
section
variable {P:Program} {n:Nat} {s:Sy} {β:List Nat} {a:Act} {v u:World} {C:List (Nat×Bool)} {o:Oper}
theorem map_den_wf0 {m:Nat} {l:List SV} (h:l.all (wf0 m)=true):l.map (den β)=l.map (den0 β):=
 map_congr_all (p:=wf0 m) (fun _ hx=>(den_of_wf0 β hx).1) h
theorem makeFunc_ps (h:Rel n s β a v u) {fn:Fn} {first caps:Array Operand} (ho:o.op=.makeFunc fn first caps) {Kt:SV→Prop} (hp:pureOp P C o s v Kt):∃ z,Kt z∧PS P s β a u C o z:=by
 cases fn<;>simp only [pureOp,ho] at hp<;>first|exact hp.elim|skip
 rename_i f
 split at hp<;>first|exact hp.elim|skip
 rename_i l hf hl
 split at hp<;>first|exact hp.elim|skip
 rename_i hw
 refine ⟨_,hp,hw,fun hC w _=>?_⟩
 have hfirst:first=#[]:=Array.size_eq_zero_iff.1 hf
 have hcaps:caps.map a.eval=(l.map (den0 β)).toArray:=by
  apply Array.ext'
  simp [(evs_spec h hl).2.2 hC,map_den_wf0 hw]
 simp [execOp,ho,Instr.makeFunc,hfirst,hcaps,den,den1]
theorem updC_spec {β:List Nat}:∀ {xs cs cs':List SV} {off:Nat},updC cs off xs=some cs'→cs'.length=cs.length∧(xs≠[]→off+xs.length≤cs.length)∧
  (∀ j,(cs'.map (den0 β))[j]?=if off≤j∧j < off+xs.length then (xs.map (den0 β))[j - off]? else (cs.map (den0 β))[j]?)∧(∀ p:SV→Bool,cs.all p=true→xs.all p=true→cs'.all p=true)
 | [],cs,cs',off,h=>by
  simp only [updC,Option.some.injEq] at h
  subst h
  refine ⟨rfl,fun h=>absurd rfl h,fun j=>?_,fun p h _=>h⟩
  rw [if_neg (by simp only [List.length_nil];omega)]
 | x ::r,cs,cs',off,h=>by
  simp only [updC] at h
  split at h
  ·rename_i hb
   have hlt:off < cs.length:=Nat.le_of_ble_eq_true hb
   obtain ⟨h1,h2,h3,h4⟩:=updC_spec (β:=β) h
   simp only [List.length_set] at h1 h2
   refine ⟨h1,fun _=>?_,fun j=>?_,fun p hp hx=>?_⟩
   ·cases r with
    | nil=>simp;omega
    | cons y r=>have:=h2 (by simp);simp at this ⊢;omega
   ·rw [h3 j]
    simp only [List.map_cons,List.length_cons,List.map_set]
    by_cases e1:j=off
    ·subst e1
     rw [if_neg (by omega),if_pos (by omega)]
     simp [hlt]
    ·by_cases e2:off+1≤j∧j < off+1+r.length
     ·rw [if_pos e2,if_pos (by omega),show j - off=(j - (off+1))+1 from by omega,List.getElem?_cons_succ]
     ·rw [if_neg e2,if_neg (by omega),List.getElem?_set_ne (by omega)]
   ·simp only [List.all_cons,Bool.and_eq_true] at hx
    refine h4 p ?_ hx.2
    rw [List.all_eq_true] at hp ⊢
    intro y hy
    rcases List.mem_or_eq_of_mem_set hy with hy|rfl
    ·exact hp y hy
    ·exact hx.1
  ·cases h
theorem zipIdx_foldl_set (vs:Array Value) (off:Nat) (cells:Array Value) (hle:off+vs.size≤cells.size):
  ∀ j,(vs.zipIdx.foldl (fun cs (p:Value×Nat)=>cs.setIfInBounds (off+p.2) p.1) cells)[j]?=if off≤j∧j < off+vs.size then vs[j - off]? else cells[j]?:=by
 have key:∀ (l:List Value) (k:Nat) (cs:Array Value),off+k+l.length≤cs.size→∀ j,
   ((l.zipIdx k).foldl (fun cs (p:Value×Nat)=>cs.setIfInBounds (off+p.2) p.1) cs)[j]?=if off+k≤j∧j < off+k+l.length then l[j - (off+k)]? else cs[j]?:=by
  intro l
  induction l with
  | nil=>intro k cs _ j;simp only [List.zipIdx_nil,List.foldl_nil,List.length_nil];rw [if_neg (by omega)]
  | cons x r ih=>
   intro k cs hl j
   simp only [List.length_cons] at hl
   simp only [List.zipIdx_cons,List.foldl_cons,List.length_cons]
   rw [ih (k+1) _ (by simp;omega) j]
   by_cases e1:j=off+k
   ·subst e1
    rw [if_neg (by omega),if_pos (by omega)]
    have:off+k < cs.size:=by omega
    simp [this]
   ·by_cases e2:off+(k+1)≤j∧j < off+(k+1)+r.length
    ·rw [if_pos e2,if_pos (by omega),show j - (off+k)=(j - (off+(k+1)))+1 from by omega,List.getElem?_cons_succ]
    ·rw [if_neg e2,if_neg (by omega),Array.getElem?_setIfInBounds_ne (by omega)]
 intro j
 have:=key vs.toList 0 cells (by simpa using hle) j
 rw [←Array.foldl_toList]
 simpa using this
theorem cells_one {x:Value} (h:x.oneCell'=true):x.cells=#[x]:=by cases x<;>first|rfl|cases h
theorem cells_den {m:Nat} {x:SV} (h:(cellsS x).all (wf0 m)=true):(den β x).cells=((cellsS x).map (den0 β)).toArray:=by
 cases x
 case clo f l=>
  simp only [cellsS] at h ⊢
  split
  ·rename_i hc
   have e:l.map (den0 β)=l.map (den0 []):=map_congr_all (fun _ hx=>den0_clean β hx) hc
   simp [den,den1,den0,Value.cells,e]
  ·rename_i hc
   rw [hc] at h
   simp [wf0] at h
 all_goals simp only [cellsS] at h ⊢
 all_goals first
  | rfl
  | (simp only [List.all_cons,List.all_nil,Bool.and_true] at h;rw [(den_of_wf0 β h).1,cells_one (oneCell_den0 β h)];rfl)
theorem sizeT_info {t:TypeId} {i:TypeInfo} (h:P.info? t=some i):sizeT P t=i.size:=by simp [sizeT,h]
theorem fill_spec {fs:Array Field} {places:List (Nat×Nat)} (hpl:fs.toList.mapM (fun f=>(P.info? f.type).map fun i=>(f.offset,i.size))=some places) {m:Nat}:
  ∀ {ps:List (Nat×SV)} {cs l:List SV},fillS fs P cs ps=some l→ps.all (fun p=>(cellsS p.2).all (wf0 m))=true→cs.all (wf0 m)=true→
   Instr.fill (places.toArray[·]?) (cs.map (den0 β)).toArray (ps.map fun p=>(p.1,den β p.2))=some (l.map (den0 β)).toArray∧l.all (wf0 m)=true
 | [],cs,l,h,_,hc=>by simp only [fillS,Option.some.injEq] at h;subst h;exact ⟨rfl,hc⟩
 | (i,x) ::r,cs,l,h,hp,hc=>by
  simp only [fillS] at h
  split at h<;>first|cases h;done|skip
  rename_i f hf
  split at h<;>first|cases h;done|skip
  rename_i hb
  split at h<;>first|cases h;done|skip
  rename_i cs' hu
  simp only [List.all_cons,Bool.and_eq_true] at hp
  simp only [Bool.and_eq_true] at hb
  have hsz:=Nat.eq_of_beq_eq_true hb.1
  obtain ⟨u1,u2,u3,u4⟩:=updC_spec (β:=β) hu
  have hplace:places[i]?=some (f.offset,sizeT P f.type):=by
   have hfl:fs.toList[i]?=some f:=by simpa using hf
   clear hp hc hu h hf
   generalize fs.toList=L at hpl hfl
   induction L generalizing i places with
   | nil=>simp at hfl
   | cons g L ih=>
    simp only [List.mapM_cons,Option.bind_eq_bind,Option.pure_def] at hpl
    cases hi:P.info? g.type with
    | none=>simp [hi] at hpl
    | some inf=>
     cases hr:L.mapM (fun f=>(P.info? f.type).map fun i=>(f.offset,i.size)) with
     | none=>simp [hi,hr] at hpl
     | some rest=>
      simp [hi,hr] at hpl
      subst hpl
      cases i with
      | zero=>simp only [List.getElem?_cons_zero,Option.some.injEq] at hfl ⊢;subst hfl;rw [sizeT_info hi]
      | succ i=>simp only [List.getElem?_cons_succ] at hfl ⊢;exact ih _ hr hfl
  have hcells:(den β x).cells=((cellsS x).map (den0 β)).toArray:=cells_den hp.1
  have hcs:(den β x).cells.size=(cellsS x).length:=by rw [hcells];simp
  have hle:f.offset+(cellsS x).length≤cs.length:=Nat.le_of_ble_eq_true hb.2
  obtain ⟨r1,r2⟩:=fill_spec hpl h hp.2 (u4 _ hc hp.1)
  refine ⟨?_,r2⟩
  have hpa:places.toArray[i]?=some (f.offset,sizeT P f.type):=by simpa using hplace
  simp only [List.map_cons,Instr.fill,hpa]
  have hcond:(decide ((den β x).cells.size≠sizeT P f.type) || decide (f.offset+(den β x).cells.size > (cs.map (den0 β)).toArray.size))=false:=by
   rw [hcs,List.size_toArray,List.length_map];simp;omega
  rw [hcond,if_neg (by simp)]
  rw [←r1]
  congr 1
  apply Array.ext_getElem?
  intro j
  rw [zipIdx_foldl_set _ _ _ (by rw [hcs];simpa using hle) j,hcs,hcells]
  have:=u3 j
  simp only [List.getElem?_toArray]
  rw [this]
theorem fillA_spec {sz:Nat} {m:Nat}:
  ∀ {ps:List (Nat×SV)} {cs l:List SV},fillA sz cs ps=some l→ps.all (fun p=>(cellsS p.2).all (wf0 m))=true→cs.all (wf0 m)=true→
   Instr.fill (fun i=>some (i * sz,sz)) (cs.map (den0 β)).toArray (ps.map fun p=>(p.1,den β p.2))=some (l.map (den0 β)).toArray∧l.all (wf0 m)=true
 | [],cs,l,h,_,hc=>by simp only [fillA,Option.some.injEq] at h;subst h;exact ⟨rfl,hc⟩
 | (i,x) ::r,cs,l,h,hp,hc=>by
  simp only [fillA] at h
  split at h<;>first|cases h;done|skip
  rename_i hb
  split at h<;>first|cases h;done|skip
  rename_i cs' hu
  simp only [List.all_cons,Bool.and_eq_true] at hp
  simp only [Bool.and_eq_true] at hb
  have hsz:=Nat.eq_of_beq_eq_true hb.1
  obtain ⟨u1,u2,u3,u4⟩:=updC_spec (β:=β) hu
  have hcells:(den β x).cells=((cellsS x).map (den0 β)).toArray:=cells_den hp.1
  have hcs:(den β x).cells.size=(cellsS x).length:=by rw [hcells];simp
  have hle:i * sz+(cellsS x).length≤cs.length:=Nat.le_of_ble_eq_true hb.2
  obtain ⟨r1,r2⟩:=fillA_spec h hp.2 (u4 _ hc hp.1)
  refine ⟨?_,r2⟩
  simp only [List.map_cons,Instr.fill]
  have hcond:(decide ((den β x).cells.size≠sz) || decide (i * sz+(den β x).cells.size > (cs.map (den0 β)).toArray.size))=false:=by
   rw [hcs,List.size_toArray,List.length_map];simp;omega
  rw [hcond,if_neg (by simp)]
  rw [←r1]
  congr 1
  apply Array.ext_getElem?
  intro j
  rw [zipIdx_foldl_set _ _ _ (by rw [hcs];simpa using hle) j,hcs,hcells]
  have:=u3 j
  simp only [List.getElem?_toArray]
  rw [this]
theorem build_ps (h:Rel n s β a v u) {t:TypeId} {parts:Array (Nat×Operand)} (ho:o.op=.build t parts) {Kt:SV→Prop} (hp:pureOp P C o s v Kt):∃ z,Kt z∧PS P s β a u C o z:=by
 simp only [pureOp,ho] at hp
 split at hp<;>first|exact hp.elim|skip
 case h_2 len e cs ps hu hz hps=>
  split at hp<;>first|exact hp.elim|skip
  rename_i ie hie
  split at hp<;>first|exact hp.elim|skip
  rename_i l hw hf
  unfold zeroS at hz
  split at hz<;>first|cases hz;done|skip
  rename_i it hit
  split at hz<;>first|cases hz;done|skip
  rename_i z hzz
  obtain ⟨hz1,hz2,_⟩:=ofCells_spec hz β s.box.length
  obtain ⟨f1,f2⟩:=fillA_spec (β:=β) hf hw hz2
  refine ⟨_,hp,f2,fun hC w _=>?_⟩
  have hb:P.built t (parts.map fun (i,x)=>(i,a.eval x)).toList=some (l.map (den0 β)).toArray:=by
   unfold Program.built
   simp only [hit,hu,hzz,hie]
   rw [←f1,hz1]
   have e:=evP_spec h hps hC
   simp only [Array.toList_map,Array.toArray_toList]
   rw [←e]
  simp only [execOp,ho,Sem.run_bind,run_build w t _ _ hb,Result.andThen_ok,Sem.run_pure,den,den1]
 rename_i fs cs ps hu hz hps
 split at hp<;>first|exact hp.elim|skip
 rename_i l hw hall hf
 unfold zeroS at hz
 split at hz<;>first|cases hz;done|skip
 rename_i it hit
 split at hz<;>first|cases hz;done|skip
 rename_i z hzz
 obtain ⟨hz1,hz2,_⟩:=ofCells_spec hz β s.box.length
 have hpl:∃ places,fs.toList.mapM (fun f=>(P.info? f.type).map fun i=>(f.offset,i.size))=some places:=by
  clear hf hu
  generalize fs.toList=L at hall
  induction L with
  | nil=>exact ⟨[],rfl⟩
  | cons f L ih=>
   simp only [List.all_cons,Bool.and_eq_true] at hall
   obtain ⟨pl,hpl⟩:=ih hall.2
   cases hi:P.info? f.type with
   | none=>rw [hi] at hall;simp at hall
   | some inf=>exact ⟨_,by simp [List.mapM_cons,hi,hpl];rfl⟩
 obtain ⟨places,hpl⟩:=hpl
 obtain ⟨f1,f2⟩:=fill_spec (β:=β) hpl hf hw hz2
 refine ⟨_,hp,f2,fun hC w _=>?_⟩
 have hb:P.built t (parts.map fun (i,x)=>(i,a.eval x)).toList=some (l.map (den0 β)).toArray:=by
  unfold Program.built
  simp only [hit,hu,hzz,hpl]
  rw [←f1,hz1]
  have e:=evP_spec h hps hC
  simp only [Array.toList_map,Array.toArray_toList]
  rw [←e]
 simp only [execOp,ho,Sem.run_bind,run_build w t _ _ hb,Result.andThen_ok,Sem.run_pure,den,den1]
theorem cut_ps (h:Rel n s β a v u) {t:TypeId} {x:Operand} {lo hi mx:Option Operand} (ho:o.op=.slice t x lo hi mx) {Kt:SV→Prop} (hp:pureOp P C o s v Kt):∃ z,Kt z∧PS P s β a u C o z:=by
 simp only [pureOp,ho] at hp
 split at hp<;>first|exact hp.elim|skip
 have ev?_spec:∀ {y:Option Operand} {z:Option SV},ev? s C y=some z→holdsC a.tmps C→y.map a.eval=z.map (den β):=by
  intro y z hy hC
  cases y with
  | none=>simp only [ev?,Option.some.injEq] at hy;subst hy;rfl
  | some y=>
   simp only [ev?] at hy
   split at hy<;>first|cases hy;done|skip
   rename_i q hq
   simp only [Option.some.injEq] at hy
   subst hy
   simp [(h.ev_ hC hq).1]
 split at hp<;>first|exact hp.elim|skip
 ·rename_i e y lo' hi' hu hx hlo hhi
  split at hp<;>first|exact hp.elim|skip
  rename_i inf hi0
  have go:∀ (l hh:Int) (L H:Option Value),(L=none∧l=0∨∃ k,L=some (.int k l))→(H=none∧hh=y.n∨∃ k,H=some (.int k hh))→
    (holdsC a.tmps C→lo.map a.eval=L)→(holdsC a.tmps C→hi.map a.eval=H)→(holdsC a.tmps C→0≤l∧l≤hh∧(H≠none→hh≤y.c))→Kt (.sl (y.cut l hh inf.size))→∃ z,Kt z∧PS P s β a u C o z:=by
   intro l hh L H hL hH eL eH hr hk
   refine ⟨_,hk,rfl,fun hC w _=>?_⟩
   obtain ⟨r1,r2,r3⟩:=hr hC
   have e1:a.eval x=.slice y.a y.n y.c:=(h.ev_ hC hx).1
   have bl:∀ k (m:Nat) c,l≤m→(Instr.sliceBound (.int k l) m c).run P w=.ok l.toNat w:=by
    intro k m c hm
    simp [Instr.sliceBound,asIntOf,r1,hm]
   have bh:∀ k c,hh≤y.c→(Instr.sliceBound (.int k hh) y.c c).run P w=.ok hh.toNat w:=by
    intro k c hm
    simp [Instr.sliceBound,asIntOf,hm,show 0≤hh from by omega]
   have hb:(Instr.sliceBounds true y.n y.c L H none).run P w=.ok (l.toNat,hh.toNat,y.c) w:=by
    rcases hL with ⟨rfl,rfl⟩|⟨k,rfl⟩<;>rcases hH with ⟨rfl,rfl⟩|⟨k',rfl⟩
    ·simp [Instr.sliceBounds]
    ·simp [Instr.sliceBounds,bh k' _ (r3 (by simp))]
    ·simp [Instr.sliceBounds,bl k y.n _ r2]
    ·simp [Instr.sliceBounds,bh k' _ (r3 (by simp)),bl k hh.toNat _ (by omega)]
   have hs:(Instr.sliceAt t (.slice y.a y.n y.c) L H none).run P w=.ok (.slice (if y.c=l.toNat then y.a else y.a.map (·.add (l.toNat * inf.size))) (hh.toNat - l.toNat) (y.c - l.toNat)) w:=by
    simp [Instr.sliceAt,Instr.slice,run_underlying hu,hb,run_size hi0]
   simp only [execOp,ho,e1,eL hC,eH hC,Option.map_none,Sem.run_bind,hs,Result.andThen_ok,Sem.run_pure,den,den1,den0,Sl.cut]
  split at hp<;>first|exact hp.elim|skip
  ·rename_i k l k' hh
   exact go l hh _ _ (.inr ⟨k,rfl⟩) (.inr ⟨k',rfl⟩) (fun hC=>ev?_spec hlo hC) (fun hC=>ev?_spec hhi hC) (fun hC=>by obtain ⟨a1,a2,a3⟩:=imp_of h hC hp.1;exact ⟨a1,a2,fun _=>a3⟩) hp.2
  ·rename_i k l
   exact go l y.n _ _ (.inr ⟨k,rfl⟩) (.inl ⟨rfl,rfl⟩) (fun hC=>ev?_spec hlo hC) (fun hC=>ev?_spec hhi hC) (fun hC=>by obtain ⟨a1,a2⟩:=imp_of h hC hp.1;exact ⟨a1,a2,fun hne=>absurd rfl hne⟩) hp.2
  ·rename_i k' hh
   exact go 0 hh _ _ (.inl ⟨rfl,rfl⟩) (.inr ⟨k',rfl⟩) (fun hC=>ev?_spec hlo hC) (fun hC=>ev?_spec hhi hC) (fun hC=>by obtain ⟨a1,a2,a3⟩:=imp_of h hC hp.1;exact ⟨a1,a2,fun _=>a3⟩) hp.2
  ·exact go 0 y.n _ _ (.inl ⟨rfl,rfl⟩) (.inl ⟨rfl,rfl⟩) (fun hC=>ev?_spec hlo hC) (fun hC=>ev?_spec hhi hC) (fun hC=>⟨by omega,by omega,fun hne=>absurd rfl hne⟩) hp
 ·rename_i y lo' hi' hu hx hlo hhi
  have go:∀ (l hh:Int) (L H:Option Value) (r:ByteArray),(L=none∧l=0∨∃ k,L=some (.int k l))→(H=none∧hh=y.size∨∃ k,H=some (.int k hh))→
    (holdsC a.tmps C→lo.map a.eval=L)→(holdsC a.tmps C→hi.map a.eval=H)→(holdsC a.tmps C→0≤l∧l≤hh∧hh≤y.size)→r=y.extract l.toNat hh.toNat→Kt (.st r)→∃ z,Kt z∧PS P s β a u C o z:=by
   intro l hh L H r hL hH eL eH hr hre hk
   refine ⟨_,hk,rfl,fun hC w _=>?_⟩
   obtain ⟨r1,r2,r3⟩:=hr hC
   have e1:a.eval x=.string y:=(h.ev_ hC hx).1
   have bl:∀ k (m:Nat) c,l≤m→(Instr.sliceBound (.int k l) m c).run P w=.ok l.toNat w:=by
    intro k m c hm
    simp [Instr.sliceBound,asIntOf,r1,hm]
   have bh:∀ k c,(Instr.sliceBound (.int k hh) y.size c).run P w=.ok hh.toNat w:=by
    intro k c
    simp [Instr.sliceBound,asIntOf,r3,show 0≤hh from by omega]
   have hb:(Instr.sliceBounds false y.size y.size L H none).run P w=.ok (l.toNat,hh.toNat,y.size) w:=by
    rcases hL with ⟨rfl,rfl⟩|⟨k,rfl⟩<;>rcases hH with ⟨rfl,rfl⟩|⟨k',rfl⟩
    ·simp [Instr.sliceBounds]
    ·simp [Instr.sliceBounds,bh k' _]
    ·simp [Instr.sliceBounds,bl k y.size _ r2]
    ·simp [Instr.sliceBounds,bh k' _,bl k hh.toNat _ (by omega)]
   have hs:(Instr.sliceAt t (.string y) L H none).run P w=.ok (.string r) w:=by
    simp [Instr.sliceAt,Instr.slice,run_underlying hu,hb,hre]
   simp only [execOp,ho,e1,eL hC,eH hC,Option.map_none,Sem.run_bind,hs,Result.andThen_ok,Sem.run_pure,den,den1,den0]
  have eall:y=y.extract (0:Int).toNat ((y.size:Int)).toNat:=by
   apply ByteArray.ext
   simp
  split at hp<;>first|exact hp.elim|skip
  ·rename_i k l k' hh
   exact go l hh _ _ _ (.inr ⟨k,rfl⟩) (.inr ⟨k',rfl⟩) (fun hC=>ev?_spec hlo hC) (fun hC=>ev?_spec hhi hC) (fun hC=>imp_of h hC hp.1) rfl hp.2
  ·rename_i k l
   exact go l y.size _ _ _ (.inr ⟨k,rfl⟩) (.inl ⟨rfl,rfl⟩) (fun hC=>ev?_spec hlo hC) (fun hC=>ev?_spec hhi hC) (fun hC=>by obtain ⟨a1,a2⟩:=imp_of h hC hp.1;exact ⟨a1,a2,by omega⟩) rfl hp.2
  ·rename_i k' hh
   exact go 0 hh _ _ _ (.inl ⟨rfl,rfl⟩) (.inr ⟨k',rfl⟩) (fun hC=>ev?_spec hlo hC) (fun hC=>ev?_spec hhi hC) (fun hC=>imp_of h hC hp.1) rfl hp.2
  ·exact go 0 y.size _ _ _ (.inl ⟨rfl,rfl⟩) (.inl ⟨rfl,rfl⟩) (fun hC=>ev?_spec hlo hC) (fun hC=>ev?_spec hhi hC) (fun hC=>⟨by omega,by omega,by omega⟩) eall hp
theorem pure_sound (h:Rel n s β a v u) {Kt:SV→Prop} (hp:pureOp P C o s v Kt):∃ z,Kt z∧PS P s β a u C o z:=by
 cases ho:o.op
 case move x=>exact move_ps h (.inl ho) hp
 case assign x=>exact move_ps h (.inr ho) hp
 case pick=>exact pick_ps h ho hp
 case binOp=>exact binOp_ps h ho hp
 case unOp=>exact unOp_ps h ho hp
 case nilCheck=>exact nilCheck_ps h ho hp
 case fieldAddr=>exact fieldAddr_ps h ho hp
 case indexAddr=>exact indexAddr_ps h ho hp
 case index=>exact index_ps h ho hp
 case field=>exact field_ps h ho hp
 case load=>exact load_ps h ho hp
 case extract=>exact extract_ps h ho hp
 case build=>exact build_ps h ho hp
 case makeFunc=>exact makeFunc_ps h ho hp
 case convert=>exact convert_ps h ho hp
 case slice=>exact cut_ps h ho hp
 case call=>exact len_ps h ho hp
 all_goals (simp only [pureOp,ho] at hp)
end
end Go.Vc
