/- Part of the proofs about the heaps and memories: a law is joined in the text whose name ends in W and the law. -/
import Derived.Test.YtlcegaeioheikaaGreatEVcSp
set_option linter.all false
namespace Go.Vc
open Go
section
variable {P:Program} {n:Nat} {s:Sy} {β:List Nat} {a:Act} {v u:World} {C:List (Nat×Bool)} {o:Oper}
theorem ev_clean_ag {l:List SV} (h:l.all clean0=true) (m:Nat):wf2 m (.ag l)=true:=by
  simp only [wf2,wf1];exact all_mono (fun _=>wf0_clean) h
theorem pickB_den (β:List Nat) {c x y r:SV} (h:pickB c x y=some r):∃ q,den β c=.bool q∧den β r=bif q then den β x else den β y:=by
  cases c<;>simp only [pickB] at h<;>first
    | (cases h;done)
    | (simp only [Option.some.injEq] at h;subst h;first|exact ⟨true,rfl,rfl⟩|exact ⟨false,rfl,rfl⟩)
    | (rename_i q
       refine ⟨q,rfl,?_⟩
       cases x<;>cases y<;>simp only [reduceCtorEq,Option.some.injEq] at h<;>(subst h;cases q<;>simp [den,den1,den0]))
theorem pick_ps (h:Rel n s β a v u) {c x y:Operand} (ho:o.op=.pick c x y) {Kt:SV→Prop} (hp:pureOp P C o s v Kt):∃ z,Kt z∧PS P s β a u C o z:=by
  simp only [pureOp,ho] at hp
  split at hp
  case h_2=>exact hp.elim
  rename_i t
  split at hp
  case h_2=>exact hp.elim
  rename_i c' x' y' hc hx hy
  split at hp
  case h_2=>exact hp.elim
  rename_i r hr
  have hcw:=ev_wf h hc
  have hwf:wf2 s.box.length r=true:=by
    have hxw:=ev_wf h hx
    have hyw:=ev_wf h hy
    unfold pickB at hr
    split at hr<;>first|(simp only [Option.some.injEq] at hr;subst hr;first|assumption|rfl)|cases hr
  refine ⟨r,hp,hwf,fun hC w _=>?_⟩
  obtain ⟨e1,_⟩:=h.ev_ hC hc
  have hT:den β c'=.bool true→a.eval x=den β x':=fun hq=>by
    refine (h.ev_ (C:=(t,true) ::C) (fun p hp'=>?_) hx).1
    rcases List.mem_cons.1 hp' with rfl|hp'
    · have:=(h.tmp hC hc).1;rw [hq] at this;exact this
    · exact hC p hp'
  have hF:den β c'=.bool false→a.eval y=den β y':=fun hq=>by
    refine (h.ev_ (C:=(t,false) ::C) (fun p hp'=>?_) hy).1
    rcases List.mem_cons.1 hp' with rfl|hp'
    · have:=(h.tmp hC hc).1;rw [hq] at this;exact this
    · exact hC p hp'
  obtain ⟨q,hq,hr'⟩:=pickB_den β hr
  have hv:den β r=if q then a.eval x else a.eval y:=by
    cases q
    · rw [if_neg (by simp),hF hq,hr'];rfl
    · rw [if_pos rfl,hT hq,hr'];rfl
  simp only [execOp,ho,Sem.run_bind,e1,hq,asBool,Sem.run_pure,Result.andThen_ok,hv]
theorem move_ps (h:Rel n s β a v u) {x:Operand} (ho:o.op=.move x∨o.op=.assign x) {Kt:SV→Prop} (hp:pureOp P C o s v Kt):∃ z,Kt z∧PS P s β a u C o z:=by
  have hp':∃ y,ev s C x=some y∧Kt y:=by
    rcases ho with ho|ho<;>(simp only [pureOp,ho] at hp;split at hp<;>first|exact hp.elim|exact ⟨_,by assumption,hp⟩)
  obtain ⟨y,he,hk⟩:=hp'
  refine ⟨y,hk,ev_wf h he,fun hC w _=>?_⟩
  rcases ho with ho|ho<;>simp only [execOp,ho,Sem.run_pure,(h.ev_ hC he).1]
theorem eqGuard_run {op:BinOp} {t:TypeId} {x y:Operand} {p q:Value} (w:World) (hp:p.oneCell'=true) (hn:p≠.nilIface):(eqGuard op t x y p q).run P w=.ok () w:=by
  cases op<;>cases p<;>cases q<;>simp_all [eqGuard,Value.oneCell']
theorem intBin_ps {op:BinOp} {t t2:TypeId} {x y:Operand} (ho:o.op=.binOp op t x y t2) {k:IntKind} {p q:Int} {Kt:SV→Prop}
    (h:Rel n s β a v u) (hx:holdsC a.tmps C→a.eval x=.int k p) (hy:holdsC a.tmps C→a.eval y=.int k q) (hp:intBin op k p q (imp s C) Kt):∃ z,Kt z∧PS P s β a u C o z:=by
  have go:∀ z:SV,wf2 s.box.length z=true→Kt z→(holdsC a.tmps C→∀ w:World,(binOp op t (.int k p) (.int k q)).run P w=.ok (den β z) w)→∃ z,Kt z∧PS P s β a u C o z:=by
    intro z hz hk hr
    refine ⟨z,hk,hz,fun hC w _=>?_⟩
    simp only [execOp,ho,Sem.run_bind,hx hC,hy hC,eqGuard_run (P:=P) w (show (Value.int k p).oneCell'=true from rfl) (by simp),Result.andThen_ok,hr hC w,Sem.run_pure]
  cases op<;>simp only [intBin,intCmpB] at hp
  case add=>obtain ⟨r,hr,hp⟩:=hp;exact go _ rfl hp fun hC w=>by have hw:=imp_of h hC hr;unfold Wr at hw;simp only [binOp,Op.intArith,ne_eq,not_true,if_false,Sem.run_pure,den,den1,den0];rw [hw]
  case sub=>obtain ⟨r,hr,hp⟩:=hp;exact go _ rfl hp fun hC w=>by have hw:=imp_of h hC hr;unfold Wr at hw;simp only [binOp,Op.intArith,ne_eq,not_true,if_false,Sem.run_pure,den,den1,den0];rw [hw]
  case mul=>obtain ⟨r,hr,hp⟩:=hp;exact go _ rfl hp fun hC w=>by have hw:=imp_of h hC hr;unfold Wr at hw;simp only [binOp,Op.intArith,ne_eq,not_true,if_false,Sem.run_pure,den,den1,den0];rw [hw]
  case quo=>
    obtain ⟨r,hr,hp⟩:=hp
    refine go _ rfl hp fun hC w=>?_
    obtain ⟨h1,h2⟩:=imp_of h hC hr
    unfold Wr at h2
    simp only [binOp,Op.intDiv,ne_eq,not_true,if_false,h1,Sem.run_pure,den,den1,den0];rw [h2]
  case rem=>
    refine go _ rfl hp.2 fun hC w=>?_
    have h1:=imp_of h hC hp.1
    simp only [binOp,Op.intDiv,ne_eq,not_true,if_false,h1,Sem.run_pure,den,den1,den0]
  case eql=>exact go _ rfl hp fun hC w=>by simp only [binOp,Op.intCmp,ne_eq,not_true,if_false,Sem.run_pure,den,den1,den0];rfl
  case neq=>exact go _ rfl hp fun hC w=>by simp only [binOp,Op.intCmp,ne_eq,not_true,if_false,Sem.run_pure,den,den1,den0];rfl
  case lss=>exact go _ rfl hp fun hC w=>by simp only [binOp,Op.intCmp,ne_eq,not_true,if_false,Sem.run_pure,den,den1,den0]
  case leq=>exact go _ rfl hp fun hC w=>by simp only [binOp,Op.intCmp,ne_eq,not_true,if_false,Sem.run_pure,den,den1,den0]
  case gtr=>exact go _ rfl hp fun hC w=>by simp only [binOp,Op.intCmp,ne_eq,not_true,if_false,Sem.run_pure,den,den1,den0]
  case geq=>exact go _ rfl hp fun hC w=>by simp only [binOp,Op.intCmp,ne_eq,not_true,if_false,Sem.run_pure,den,den1,den0]
  all_goals exact hp.elim
theorem boolOf_den {p:SV} {q:Bool} (h:boolOf p=some q):den β p=.bool q:=by
  cases p<;>simp only [boolOf] at h<;>first|cases h|skip
  all_goals rfl
theorem binOp_ps (h:Rel n s β a v u) {op:BinOp} {t t2:TypeId} {x y:Operand} (ho:o.op=.binOp op t x y t2) {Kt:SV→Prop} (hp:pureOp P C o s v Kt):∃ z,Kt z∧PS P s β a u C o z:=by
  simp only [pureOp,ho] at hp
  split at hp
  · rename_i k m k' m' hx hy
    split at hp
    · exact pureSem_sound h hp
    split at hp
    · rename_i e
      subst e
      exact intBin_ps ho h (fun hC=>(h.ev_ hC hx).1) (fun hC=>(h.ev_ hC hy).1) hp
    · exact hp.elim
  · rename_i m m' hx hy
    have go:∀ z:SV,wf2 s.box.length z=true→Kt z→(holdsC a.tmps C→∀ w:World,(binOp op t (.string m) (.string m')).run P w=.ok (den β z) w)→∃ z,Kt z∧PS P s β a u C o z:=by
      intro z hz hk hr
      refine ⟨z,hk,hz,fun hC w _=>?_⟩
      have e1:a.eval x=.string m:=(h.ev_ hC hx).1
      have e2:a.eval y=.string m':=(h.ev_ hC hy).1
      simp only [execOp,ho,Sem.run_bind,e1,e2,eqGuard_run (P:=P) w (show (Value.string m).oneCell'=true from rfl) (by simp),Result.andThen_ok,hr hC w,Sem.run_pure]
    cases op<;>simp only at hp
    case eql=>exact go _ rfl hp fun hC w=>by simp only [binOp,Op.stringOp,Sem.run_pure,den,den1,den0]
    case neq=>exact go _ rfl hp fun hC w=>by simp only [binOp,Op.stringOp,Sem.run_pure,den,den1,den0]
    case lss=>exact go _ rfl hp fun hC w=>by simp only [binOp,Op.stringOp,Sem.run_pure,den,den1,den0]
    case add=>
      refine go _ rfl hp.2 fun hC w=>?_
      have h1:=imp_of h hC hp.1
      have h2:¬ (((m.size+m'.size:Nat):Int) > IntKind.i64.max):=by
        have:IntKind.i64.max=9223372036854775807:=by decide
        rw [this];omega
      simp only [binOp,Op.stringOp,h2,if_false,Sem.run_pure,den,den1,den0]
    all_goals exact hp.elim
  · rename_i p q _ _ hx hy
    split at hp
    case h_2=>exact pureSem_sound h hp
    rename_i p' q' ht hp1 hq1
    have go:∀ z:SV,wf2 s.box.length z=true→Kt z→(holdsC a.tmps C→∀ w:World,(binOp op t (.bool p') (.bool q')).run P w=.ok (den β z) w)→∃ z,Kt z∧PS P s β a u C o z:=by
      intro z hz hk hr
      refine ⟨z,hk,hz,fun hC w _=>?_⟩
      have e1:=(h.ev_ hC hx).1
      have e2:=(h.ev_ hC hy).1
      rw [boolOf_den hp1] at e1
      rw [boolOf_den hq1] at e2
      simp only [execOp,ho,Sem.run_bind,e1,e2,eqGuard_run (P:=P) w (show (Value.bool p').oneCell'=true from rfl) (by simp),Result.andThen_ok,hr hC w,Sem.run_pure]
    cases op<;>simp only at hp
    case eql=>exact go _ rfl hp fun hC w=>run_eql_bool w t p' q' ht
    case neq=>exact go _ rfl hp fun hC w=>run_neq_bool w t p' q' ht
    all_goals exact hp.elim
  · exact hp.elim
theorem unOp_ps (h:Rel n s β a v u) {op:UnOp} {t:TypeId} {x:Operand} (ho:o.op=.unOp op t x) {Kt:SV→Prop} (hp:pureOp P C o s v Kt):∃ z,Kt z∧PS P s β a u C o z:=by
  simp only [pureOp,ho] at hp
  split at hp<;>first|exact hp.elim|skip
  · rename_i q hx
    refine ⟨_,hp,rfl,fun hC w _=>?_⟩
    have e1:a.eval x=.bool q:=(h.ev_ hC hx).1
    simp only [execOp,ho,Sem.run_bind,e1,Op.unary,Sem.run_pure,Result.andThen_ok,den,den1,den0]
  · rename_i hx
    refine ⟨_,hp,rfl,fun hC w _=>?_⟩
    have e1:a.eval x=.bool true:=(h.ev_ hC hx).1
    simp only [execOp,ho,Sem.run_bind,e1,Op.unary,Sem.run_pure,Result.andThen_ok,den,den1,den0,Bool.not_true]
  · rename_i hx
    refine ⟨_,hp,rfl,fun hC w _=>?_⟩
    have e1:a.eval x=.bool false:=(h.ev_ hC hx).1
    simp only [execOp,ho,Sem.run_bind,e1,Op.unary,Sem.run_pure,Result.andThen_ok,den,den1,den0,Bool.not_false]
  · rename_i k m hx
    obtain ⟨r,hr,hp⟩:=hp
    refine ⟨_,hp,rfl,fun hC w _=>?_⟩
    have e1:a.eval x=.int k m:=(h.ev_ hC hx).1
    have e2:k.wrap (0 - m)=r:=imp_of h hC hr
    simp only [execOp,ho,Sem.run_bind,e1,Op.unary,Op.intArith,Sem.run_pure,Result.andThen_ok,den,den1,den0,e2]
theorem nilCheck_ps (h:Rel n s β a v u) {x:Operand} (ho:o.op=.nilCheck x) {Kt:SV→Prop} (hp:pureOp P C o s v Kt):∃ z,Kt z∧PS P s β a u C o z:=by
  simp only [pureOp,ho] at hp
  split at hp<;>first|exact hp.elim|skip
  · rename_i p off hx
    refine ⟨_,hp,rfl,fun hC w _=>?_⟩
    have e1:a.eval x=.pointer (some (p.add off)):=(h.ev_ hC hx).1
    simp only [execOp,ho,e1,Sem.run_pure,den,den1,den0]
  · rename_i i off hx
    refine ⟨_,hp,ev_wf h hx,fun hC w _=>?_⟩
    have e1:a.eval x=.pointer (some ⟨β.getD i 0,off,none⟩):=(h.ev_ hC hx).1
    simp only [execOp,ho,e1,Sem.run_pure,den,den1,den0]
  · rename_i y hx
    obtain ⟨p,hi,hk⟩:=hp
    refine ⟨_,hk,rfl,fun hC w _=>?_⟩
    have e1:a.eval x=.pointer (some p):=by rw [←imp_of h hC hi];exact (h.ev_ hC hx).1
    have e2:p.add 0=p:=by simp [Addr.add]
    simp only [execOp,ho,e1,Sem.run_pure,den,den1,den0,e2]
theorem box_add (g off d:Nat):(⟨g,off,none⟩:Addr).add d=⟨g,off+d,none⟩:=by
  unfold Addr.add;by_cases h:d=0<;>simp [h]
theorem fieldAddr_ps (h:Rel n s β a v u) {t:TypeId} {x:Operand} {f:Nat} (ho:o.op=.fieldAddr t x f) {Kt:SV→Prop} (hp:pureOp P C o s v Kt):∃ z,Kt z∧PS P s β a u C o z:=by
  simp only [pureOp,ho] at hp
  split at hp<;>first|exact hp.elim|skip
  rename_i fs hu
  split at hp<;>first|exact hp.elim|skip
  rename_i fl hfl
  split at hp<;>first|exact hp.elim|skip
  rename_i i hi
  have go:∀ (z:SV) (p:Addr),wf2 s.box.length z=true→Kt z→Nat.beq i.size 0=false→(holdsC a.tmps C→a.eval x=.pointer (some p))→den β z=.pointer (some (p.add fl.offset))→∃ z,Kt z∧PS P s β a u C o z:=by
    intro z p hz hk hn he hd
    refine ⟨z,hk,hz,fun hC w _=>?_⟩
    have hne:i.size≠0:=fun e=>by rw [e] at hn;cases hn
    have hfl':fs[f]?=some fl:=hfl
    simp only [execOp,ho,Instr.fieldAt,Sem.run_bind,run_underlying hu,Result.andThen_ok,hfl',he hC,Instr.sureAddr,Sem.run_pure,fieldPlace,sizeOf,run_typeInfo w hi,hne,if_false,hd]
  split at hp<;>first|exact hp.elim|skip
  · rename_i p off hn hx
    exact go _ (p.add off) rfl hp hn (fun hC=>(h.ev_ hC hx).1) (by simp only [den,den1,den0,addr_add_add])
  · rename_i j off hn hx
    have hw0:wf2 s.box.length (.bx j off)=true:=ev_wf h hx
    have hw:wf2 s.box.length (.bx j (off+fl.offset))=true:=hw0
    exact go _ ⟨β.getD j 0,off,none⟩ hw hp hn (fun hC=>(h.ev_ hC hx).1) (by simp only [den,den1,den0,box_add])
theorem indexAddr_ps (h:Rel n s β a v u) {t:TypeId} {x i:Operand} (ho:o.op=.indexAddr t x i) {Kt:SV→Prop} (hp:pureOp P C o s v Kt):∃ z,Kt z∧PS P s β a u C o z:=by
  simp only [pureOp,ho] at hp
  split at hp<;>first|exact hp.elim|skip
  rename_i e hu
  split at hp<;>first|exact hp.elim|skip
  rename_i inf hi
  split at hp<;>first|exact hp.elim|skip
  rename_i y k m hx hix
  refine ⟨_,hp.2,rfl,fun hC w _=>?_⟩
  have e1:a.eval x=.slice y.a y.n y.c:=(h.ev_ hC hx).1
  have e2:a.eval i=.int k m:=(h.ev_ hC hix).1
  obtain ⟨h1,h2,h3⟩:=imp_of h hC hp.1
  cases hy:y.a with
  | none=>rw [hy] at h1;cases h1
  | some p=>
    simp [execOp,ho,Instr.indexAt,run_underlying hu,e1,e2,asIntOf,hy,h2,h3,sizeOf,run_typeInfo w hi,den,den1,den0,elA,Addr.add]
theorem index_ps (h:Rel n s β a v u) {t:TypeId} {x i:Operand} (ho:o.op=.index t x i) {Kt:SV→Prop} (hp:pureOp P C o s v Kt):∃ z,Kt z∧PS P s β a u C o z:=by
  simp only [pureOp,ho] at hp
  split at hp<;>first|exact hp.elim|skip
  case h_2 len e hu=>
    split at hp<;>first|exact hp.elim|skip
    rename_i l k m ie hx hix hi hag
    split at hp<;>first|exact hp.elim|skip
    rename_i hsz hl
    obtain ⟨r,_,hr,hp⟩:=exK_mem hp
    split at hp<;>first|exact hp.elim|skip
    rename_i y _
    have hy:clean0 y=true:=by simpa using hr
    obtain ⟨e0,hw⟩:=den_of_wf0 (m:=s.box.length) β (x:=y) (wf0_clean hy)
    refine ⟨_,hp.2,hw,fun hC w _=>?_⟩
    obtain ⟨h1,h2,h3⟩:=imp_of h hC hp.1
    have e1:a.eval x=.agg (l.map (den0 β)).toArray:=(h.ev_ hC hx).1
    have e2:a.eval i=.int k m:=(h.ev_ hC hix).1
    have e3:l.map (den0 β)=l.map (den0 []):=map_congr_all (fun _ hx=>den0_clean β hx) hl
    have hs1:ie.size=1:=Nat.eq_of_beq_eq_true hsz
    have hg:(l.map (den0 [])).toArray[m.toNat]?=some (den0 [] y):=by simpa using h3
    have e4:den β y=den0 [] y:=by rw [e0,den0_clean β hy]
    simp only [execOp,ho,Instr.index,Sem.run_bind,e2,asIntOf,Sem.run_pure,Result.andThen_ok,run_underlying hu,e1,h1,h2,and_self,if_true,run_size hi,hs1,Nat.mul_one,part,run_isAgg hag,Bool.false_eq_true,if_false,e3,hg,e4]
  rename_i hu
  split at hp<;>first|exact hp.elim|skip
  rename_i y k m hx hix
  refine ⟨_,hp.2,rfl,fun hC w _=>?_⟩
  have e1:a.eval x=.string y:=(h.ev_ hC hx).1
  have e2:a.eval i=.int k m:=(h.ev_ hC hix).1
  obtain ⟨h1,h2⟩:=imp_of h hC hp.1
  have hlt:m.toNat < y.size:=by omega
  have hget:y[m.toNat]?=some (y.data.getD m.toNat 0):=by
    rw [getElem?_pos y m.toNat hlt]
    simp [Array.getD,ByteArray.getElem_eq_getElem_data]
    intro hge
    omega
  simp [execOp,ho,Instr.index,run_underlying hu,e1,e2,asIntOf,h1,hget,den,den1,den0,strIx]
end
end Go.Vc
