/- Part of the proofs about the heaps and memories: a law is joined in the text whose name ends in W and the law. -/
import Derived.Test.YtlcegaeioheikaaGreatEVcSi
set_option linter.all false
namespace Go.Vc
open Go
section
variable {P:Program} {A:Ann} {n:Nat}
def res1 (tmps:Array Value) (r:ResultVar):Sem Value:=
 match r with
 | .tmp t=>pure (tmps.getD t undef)
 | .cell a t=>do loadVar t (←asAddr (tmps.getD a undef))
theorem results_eq (fn:Func) (tmps:Array Value):results fn tmps=(do let vs ←fn.results.mapM (res1 tmps);pure (if h:vs.size=1 then vs[0] else .tuple vs)):=by
 unfold results
 congr 1
theorem resV_run {s:Sy} {β:List Nat} {a:Act} {v u:World} (h:Rel n s β a v u) {w:World} (hs:Sub u w):∀ {rs:List ResultVar} {l:List SV},resV P s rs=some l→
  (rs.mapM (res1 a.tmps)).run P w=.ok (l.map (den β)) w
 | [],l,hr=>by simp only [resV,Option.some.injEq] at hr;subst hr;simp
 | .tmp t ::r,l,hr=>by
  simp only [resV] at hr
  split at hr
  ·cases hr
  ·rename_i x l' hne hx hl
   simp only [Option.some.injEq] at hr
   subst hr
   have hm:=(h.env _ (lookN_mem hx)).1
   have hv:a.tmps[t]?=some (den β x):=by
    cases x<;>first|exact hm|exact absurd rfl (hne _ _)
   simp only [List.mapM_cons,Sem.run_bind,res1,Sem.run_pure,Result.andThen_ok,resV_run h hs hl,List.map_cons]
   simp [hv]
  ·cases hr
 | .cell x t ::r,l,hr=>by
  simp only [resV] at hr
  split at hr<;>first|(cases hr;done)|skip
  rename_i i l' hx hl
  split at hr<;>first|(cases hr;done)|skip
  rename_i tb cs inf hb hi
  have hm:=(h.env _ (lookN_mem hx)).1
  simp only [AgE,den,den1,den0] at hm
  obtain ⟨b1,_,_⟩:=h.box i tb cs hb
  have hbw:=hs.at_ _ _ b1 (by simp [absent])
  have cells:∀ {c:List SV},takeC cs 0 inf.size=some c→∀ j y,(c.map (den0 β))[j]?=some y→w.cell? ((⟨β.getD i 0,0,none⟩:Addr).add (0+j))=some y:=by
   intro c hc j y hy
   obtain ⟨c1,c2⟩:=takeC_some hc
   rw [box_add]
   simp only [World.cell?,hbw]
   rw [c1,List.drop_zero] at hy
   simp only [List.map_take] at hy
   have:=List.getElem?_take_of_lt (l:=List.map (den0 β) cs) (i:=j) (j:=inf.size) (by
    rcases Nat.lt_or_ge j inf.size with hlt|hge
    ·exact hlt
    ·rw [List.getElem?_eq_none (by simp;omega)] at hy;cases hy)
   rw [this] at hy
   simpa using hy
  have e0:(⟨β.getD i 0,0,none⟩:Addr)=(⟨β.getD i 0,0,none⟩:Addr).add 0:=by simp [Addr.add]
  have run0:∀ {c:List SV} {q:Bool},takeC cs 0 inf.size=some c→aggT P t=some q→(q=false→c≠[])→
    (res1 a.tmps (.cell x t)).run P w=.ok (if q then .agg (c.map (den0 β)).toArray else (c.map (den0 β)).headD undef) w:=by
   intro c q hc hq hne
   have:=run_loadVar (P:=P) (w:=w) hi hq (p:=⟨β.getD i 0,0,none⟩) (off:=0) (l:=c.map (den0 β)) (by simp [takeC_length hc]) (fun e=>by simpa using hne e) (cells hc)
   rw [←e0] at this
   simp only [res1,Sem.run_bind,Array.getD_eq_getD_getElem?,hm,Option.getD_some,asAddr,Sem.run_pure,Result.andThen_ok,this]
  split at hr<;>first|(cases hr;done)|skip
  ·rename_i c hc hq
   simp only [Option.some.injEq] at hr
   subst hr
   rw [List.mapM_cons]
   simp only [Sem.run_bind,run0 hc hq (by simp),Result.andThen_ok,resV_run h hs hl,List.map_cons,Sem.run_pure]
   simp [den,den1]
  ·rename_i y hc hq
   simp only [Option.some.injEq] at hr
   subst hr
   have hw:wf0 s.box.length y=true:=by
    have:=takeC_all hc (h.box i tb cs hb).2.2
    simpa using this
   rw [List.mapM_cons]
   simp only [Sem.run_bind,run0 hc hq (by simp),Result.andThen_ok,resV_run h hs hl,List.map_cons,Sem.run_pure]
   simp [(den_of_wf0 β hw).1]
theorem initE_mem {p:Nat×SV}:∀ {l:List SV} {i:Nat},p∈initE i l→i≤p.1∧l[p.1 - i]?=some p.2
 | [],_,h=>by cases h
 | x ::l,i,h=>by
  simp only [initE,List.mem_cons] at h
  rcases h with rfl|h
  ·exact ⟨Nat.le_refl _,by simp⟩
  ·obtain ⟨h1,h2⟩:=initE_mem h
   refine ⟨by omega,?_⟩
   rw [show p.1 - i=(p.1 - (i+1))+1 from by omega,List.getElem?_cons_succ]
   exact h2
theorem trip_of_vc {f:FuncId} {fn:Func} {c:Code} {args:List SV} {v:World} {Q:Value→World→Prop} (hf:P.funcs[f]?=some fn) (hb:fn.body=some c)
  (hc:∀ w:World,(callFunc f (args.map (den1 [])).toArray).run P w=.ok (.enter f (args.map (den1 [])).toArray) w) (h:fnVc P A fn c args v Q):Trip P f (args.map (den1 [])).toArray v Q:=by
 refine ⟨hc,fun w hs=>?_⟩
 unfold fnVc at h
 split at h<;>first|exact h.elim|skip
 rename_i hcl hle
 have hle':=Nat.le_of_ble_eq_true hle
 refine calls_of_wp hf hb ?_
 generalize ha:({ tmps:=(args.map (den1 [])).toArray++Array.replicate (fn.ntmps - (args.map (den1 [])).toArray.size) undef,defers:=[] }:Act)=a
 have hsz:a.tmps.size=fn.ntmps:=by rw [←ha];simp;omega
 have hrel:Rel fn.ntmps { env:=initE 0 args,box:=[] } [] a v v:=by
  refine ⟨hsz,by rw [←ha],fun p hp=>?_,.refl v,rfl,List.nodup_nil,fun i t cs hi=>by simp at hi,fun b hb _=>hb⟩
  obtain ⟨_,h2⟩:=initE_mem hp
  simp only [Nat.sub_zero] at h2
  rw [List.all_eq_true] at hcl
  have hc1:=hcl p.2 (List.mem_of_getElem? h2)
  have hget:a.tmps[p.1]?=some (den1 [] p.2):=by
   have hlt:p.1 < args.length:=by rcases Nat.lt_or_ge p.1 args.length with hl|hg;exact hl;rw [List.getElem?_eq_none hg] at h2;cases h2
   rw [←ha]
   simp only
   rw [Array.getElem?_append_left (by simpa using hlt)]
   simp [h2]
  have hd:=den_of_clean1 [] hc1
  have hw:=wf2_clean (m:=0) (clean_of_clean1 hc1)
  have:∀ y:SV,clean1 y=true→a.tmps[p.1]?=some (den [] y)→wf2 0 y=true→AgE [] a.tmps p.1 y∧wfS 0 y=true:=by
   intro y hy hh hw
   cases y<;>first|exact ⟨hh,hw⟩|cases hy
  exact this p.2 hc1 (by rw [hd];exact hget) hw
 refine wp_mono (vc_sound c hrel h w hs) fun e a' w' ⟨u',fr,x,s',γ,v',he,hk,hr,_⟩=>?_
 subst he
 have key:∀ x:X,x≠.exit 0→retK P fn.results.toList Q x s' v'→(∀ id,x≠.exit id)→a'.defers=[]∧∃ r,(results fn a'.tmps).run P w'=.ok r w'∧∃ r' v'',Ending.returned r=.returned r'∧Fr v w v'' w'∧Q r' v'':=by
  intro x _ hk hx
  refine ⟨hr.defers,?_⟩
  have hk2:match resV P s' fn.results.toList with
   | some [y]=>(match clean1 y with
    | true=>Q (den1 [] y) v'
    | false=>False)
   | some l=>(match l.all clean1 with
    | true=>Q (.tuple (l.map (den1 [])).toArray) v'
    | false=>False)
   | none=>False:=by
   cases x with
   | exit id=>exact absurd rfl (hx id)
   | normal=>exact hk
   | ret=>exact hk
  have hfr:Fr v w v' w':=fr.shrink hr.sub
  have hrun:∀ {l:List SV},resV P s' fn.results.toList=some l→(results fn a'.tmps).run P w'=.ok (if h:((l.map (den ([]++γ))).toArray).size=1 then ((l.map (den ([]++γ))).toArray)[0] else .tuple (l.map (den ([]++γ))).toArray) w':=by
   intro l hl
   have:=resV_run hr fr.sub hl
   rw [results_eq,Array.mapM_eq_mapM_toList]
   simp only [Sem.run_bind,Sem.run_map,this,Result.andThen_ok,Sem.run_pure]
  split at hk2
  ·rename_i y hy
   split at hk2<;>first|exact hk2.elim|skip
   rename_i hc1
   refine ⟨_,hrun hy,_,v',rfl,hfr,?_⟩
   simp only [List.map_cons,List.map_nil,List.size_toArray,List.length_cons,List.length_nil,Nat.zero_add,dif_pos]
   have:den ([]++γ) y=den1 [] y:=by rw [den_clean _ (clean_of_clean1 hc1),den_of_clean1 [] hc1]
   show Q (den ([]++γ) y) v'
   rw [this];exact hk2
  ·rename_i l hne hl
   split at hk2<;>first|exact hk2.elim|skip
   rename_i hc1
   refine ⟨_,hrun hl,_,v',rfl,hfr,?_⟩
   have hlen:¬ ((l.map (den ([]++γ))).toArray).size=1:=by
    intro e
    have e':l.length=1:=by simpa using e
    obtain ⟨y,hy⟩:=List.length_eq_one_iff.1 e'
    exact hne y hy
   rw [dif_neg hlen]
   have:l.map (den ([]++γ))=l.map (den1 []):=map_congr_all (fun z hz=>by rw [den_clean _ (clean_of_clean1 hz),den_of_clean1 [] hz]) hc1
   rw [this];exact hk2
  ·exact hk2.elim
 cases x with
 | normal=>exact key .normal (by simp) hk (by simp)
 | ret=>exact key .ret (by simp) hk (by simp)
 | exit id=>exact hk.elim
end
theorem callFunc_enter {P:Program} {f:FuncId} {fn:Func} (hf:P.funcs[f]?=some fn) (hn:(fn.name == "runtime.NumGoroutine")=false) (hb:fn.body.isNone=false) (args:Array Value) (w:World):
  (callFunc f args).run P w=.ok (.enter f args) w:=by
 simp only [callFunc,Sem.run_bind,run_program,Result.andThen_ok,hf,hn,Bool.false_eq_true,if_false,hb,Sem.run_pure]
theorem trip_of_eq {P:Program} {A:Ann} {f:FuncId} {fn:Func} {args:List SV} {v:World} {Q:Value→World→Prop} {V:Prop} (hf:P.funcs[f]?=some fn)
  (hn:(fn.name == "runtime.NumGoroutine")=false) (hb:fn.body.isNone=false) (he:V=fnVc P A fn (fn.body.getD .skip) args v Q) (h:V):Trip P f (args.map (den1 [])).toArray v Q:=by
 rw [he] at h
 refine trip_of_vc (c:=fn.body.getD .skip) hf ?_ (callFunc_enter hf hn hb _) h
 cases hq:fn.body with
 | none=>rw [hq] at hb;cases hb
 | some c=>rfl
end Go.Vc
