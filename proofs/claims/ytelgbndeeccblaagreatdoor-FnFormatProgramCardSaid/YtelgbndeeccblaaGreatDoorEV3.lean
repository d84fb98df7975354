/- Part of the proofs about the heaps and memories: a law is joined in the text whose name ends in W and the law. -/
import Derived.Test.YtelgbndeeccblaaGreatDoorEV1
set_option linter.all false
namespace Go.Vc
open Go Go.Proofs Go.RowKit
structure Rep where
 st:Addr→VwD→Items→Prop
 rd:World→Addr→VwD→Prop
 mono:∀ {w w2:World} {a:Addr} {v:VwD},Sub w w2→rd w a v→rd w2 a v
 get:∀ {w:World} {a:Addr} {v:VwD} {I:Items},st a v I→AtAll w I→rd w a v
structure PV (ρ:Rep) where
 o:Option VwD
instance {ρ:Rep}:Inhabited (PV ρ):=⟨⟨none⟩⟩
def PV.cells (ρ:Rep) (w:World) (cs:List Value):Option VwD→Prop
 | none=>cs=[.pointer none]
 | some v=>∃ a:Addr,cs=[.pointer (some (a.add 0))]∧ρ.rd w a v
def PV.ownC (ρ:Rep) (cs:List Value) (K:Items):Option VwD→Prop
 | none=>cs=[.pointer none]∧K=[]
 | some v=>∃ a:Addr,cs=[.pointer (some (a.add 0))]∧ρ.st a v K
instance {ρ:Rep}:Dat (PV ρ) where
 sz:=1
 cells _ w cs s:=PV.cells ρ w cs s.o
 mono:=fun {B u w cs s} hs h=>by
  unfold PV.cells at *
  split at h
  ·exact h
  ·obtain ⟨a,h1,h2⟩:=h;exact ⟨a,h1,ρ.mono hs h2⟩
 len:=fun {B w cs s} h=>by
  unfold PV.cells at h
  split at h
  ·rw [h];rfl
  ·obtain ⟨a,h1,h2⟩:=h;rw [h1];rfl
 one:=fun {B w cs s} h v hv=>by
  unfold PV.cells at h
  split at h
  ·rw [h] at hv;simp at hv;subst hv;rfl
  ·obtain ⟨a,h1,h2⟩:=h;rw [h1] at hv;simp at hv;subst hv;rfl
instance {ρ:Rep}:DatO (PV ρ) where
 own cs s K:=PV.ownC ρ cs K s.o
 read:=by
  intro w cs s I h hA
  show PV.cells ρ w cs s.o
  unfold PV.cells
  unfold PV.ownC at h
  split
  ·rename_i e;rw [e] at h;exact h.1
  ·rename_i v e;rw [e] at h;obtain ⟨a,h1,h2⟩:=h;exact ⟨a,h1,ρ.get h2 hA⟩
section
variable {ρ:Rep} {u w:World} {v v' o:VwD} {a a1:Addr} {r t n i:Int} {x y z:Sl} {I J R L:Items} {N B B':Nat} {F F':List (Option VwD)}
end
theorem OwnI.readA {w:World} {x:Sl} {l:List Int} {I:Items} (h:OwnI x l I) (hA:AtAll w I):Read w x l:=by
 obtain ⟨rows,k1,k2,k3⟩:=h w
 exact ⟨rows,k1.rd hA,k2,k3⟩
section
variable {u w:World} {v v' o:VwD} {a a1:Addr} {r t n i e_ at_ f m rr:Int} {k k':RegK} {x y z ax jx px lx cx:Sl} {I R L:Items} {N B B':Nat} {ds:List DeclD} {ss:List SigD} {ps:List ProcD} {c:InstrD} {ts:List Int} {F F':List (Option VwD)} {code:List InstrD}
end
end Go.Vc
namespace Go.Vc
open Go Go.Proofs Go.RowKit
section
variable {u w:World} {v v' o:VwD} {a a1:Addr} {r t n i e_ at_ f m rr:Int} {k k':RegK} {x y z ax jx px lx cx:Sl} {I R L:Items} {N B B':Nat} {ds:List DeclD} {ss:List SigD} {ps:List ProcD} {c:InstrD} {ts:List Int} {F F':List (Option VwD)} {code:List InstrD}
structure CodD (u:World) (x y cx:Sl) (ds:List DeclD) (ps:List ProcD) (N:Nat) (code:List InstrD):Prop where
 hx:Read u x ds
 hy:Read u y ps
 hc:Read u cx code
 sg:sigSigs ds (ps.map sigOf)
 hN:N≤2000
 hl:code.length≤2000
 last:(nth code ((code.length:Int) - 1)).op=23∨(nth code ((code.length:Int) - 1)).op=24
 ok:∀ i:Int,0≤i→i < code.length→instrOk ds (ps.map sigOf) N code.length i (nth code i)
theorem CodD.mono {u':World} (h:CodD u x y cx ds ps N code) (hs:Sub u u'):CodD u' x y cx ds ps N code:=⟨h.hx.mono hs,h.hy.mono hs,h.hc.mono hs,h.sg,h.hN,h.hl,h.last,h.ok⟩
end
end Go.Vc
namespace Go.Vc
open Go Go.Proofs Go.RowKit
section
variable {u w:World} {v v' o:VwD} {a a1:Addr} {r t n i e_ at_ f m rr:Int} {k k':RegK} {x y z ax jx px lx cx:Sl} {I R L:Items} {N B B':Nat} {ds:List DeclD} {ss:List SigD} {ps:List ProcD} {c:InstrD} {ts ks:List Int} {F F':List (Option VwD)} {code:List InstrD}
end
end Go.Vc
namespace Go.Vc
open Go Go.Proofs Go.RowKit
section
variable {u w:World} {v v' o:VwD} {a a1:Addr} {r t n i e_ at_ f m rr:Int} {k k':RegK} {x y z ax jx px lx cx:Sl} {I R L:Items} {N B B':Nat} {ds:List DeclD} {ss:List SigD} {ps:List ProcD} {c:InstrD} {ts ks:List Int} {F F':List (Option VwD)} {code:List InstrD} {p:ProcD}
end
end Go.Vc
namespace Go.Vc
open Go Go.Proofs Go.RowKit
instance:Dat RegK where
 sz:=6
 cells _ _ cs r:=cs=[intV r.typ,intV r.own,.bool r.lent,intV r.con,intV r.frm,intV r.field]∧InI r.typ∧InI r.own∧InI r.con∧InI r.frm∧InI r.field
 mono:=fun _ h=>h
 len:=fun h=>by rw [h.1];rfl
 one:=fun h v hv=>by
  have hv:=h.1 ▸ hv
  simp only [List.mem_cons,List.not_mem_nil,or_false] at hv
  rcases hv with rfl|rfl|rfl|rfl|rfl|rfl<;>rfl
def KstX (a:Addr) (x y:Sl) (v:VwD) (I:Items):Prop:=∃ (I0 I1 I2:Items),Cel a [x.val,y.val] I0∧(∀ u,Own u x v.regs I1)∧OwnI y v.kept I2∧I=I0++(I1++I2)
def KRd (w:World) (a:Addr) (v:VwD):Prop:=∃ (x y:Sl),w.cell? (a.add 0)=some x.val∧w.cell? (a.add 1)=some y.val∧Read w x v.regs∧Read w y v.kept
theorem KRd.mono {w w2:World} {a:Addr} {v:VwD} (h:KRd w a v) (hs:Sub w w2):KRd w2 a v:=let ⟨x,y,h1,h2,h3,h4⟩:=h;⟨x,y,cell_sub hs h1,cell_sub hs h2,h3.mono hs,h4.mono hs⟩
section
variable {u w:World} {v v' o:VwD} {a a1:Addr} {r t n i m:Int} {k k':RegK} {x y z:Sl} {I R L:Items} {N B:Nat} {l:List RegK}
theorem rkL (hr:Read w x l) (h0:0≤r) (h1:r < l.length):w.cell? ((elA x r 6).add 0)=some (.int .i64 (nth l r).typ)∧w.cell? ((elA x r 6).add 1)=some (.int .i64 (nth l r).own)∧w.cell? ((elA x r 6).add 2)=some (.bool (nth l r).lent)∧
  w.cell? ((elA x r 6).add 3)=some (.int .i64 (nth l r).con)∧w.cell? ((elA x r 6).add 4)=some (.int .i64 (nth l r).frm)∧w.cell? ((elA x r 6).add 5)=some (.int .i64 (nth l r).field):=by
 obtain ⟨row,⟨rfl,_⟩,hc⟩:=hr.row h0 h1
 exact ⟨hc 0 _ rfl,hc 1 _ rfl,hc 2 _ rfl,hc 3 _ rfl,hc 4 _ rfl,hc 5 _ rfl⟩
theorem rk (hr:Read w x v.regs) (h0:0≤r) (h1:r < v.regs.length):w.cell? ((elA x r 6).add 0)=some (.int .i64 (v.reg r).typ)∧w.cell? ((elA x r 6).add 1)=some (.int .i64 (v.reg r).own)∧w.cell? ((elA x r 6).add 2)=some (.bool (v.reg r).lent)∧
  w.cell? ((elA x r 6).add 3)=some (.int .i64 (v.reg r).con)∧w.cell? ((elA x r 6).add 4)=some (.int .i64 (v.reg r).frm)∧w.cell? ((elA x r 6).add 5)=some (.int .i64 (v.reg r).field):=rkL hr h0 h1
theorem KstX.rd (h:KstX a x y v I) (hS:St u w (I++R)):Read w x v.regs:=by
 obtain ⟨I0,I1,I2,hC,o1,o2,rfl⟩:=h
 have:St u w (I0++(I1++(I2++R))):=by simpa [List.append_assoc] using hS
 exact (o1 u).read this
theorem KstX.rk (h:KstX a x y v I) (hS:St u w (I++R)):Read w y v.kept:=by
 obtain ⟨I0,I1,I2,hC,o1,o2,rfl⟩:=h
 have:St u w (I0++(I1++(I2++R))):=by simpa [List.append_assoc] using hS
 exact o2.read this
theorem KstX.st {off:Nat} {vals:List Value} {K:World→Prop} (h:KstX a x y v I) (hS:St u w (I++R)) (h0:0≤r) (h1:r < v.regs.length) (hv:off+vals.length≤6)
  (hc:Dat.cells BB u [intV (v.reg r).typ,intV (v.reg r).own,.bool (v.reg r).lent,intV (v.reg r).con,intV (v.reg r).frm,intV (v.reg r).field] (v.reg r)→Dat.cells BB u (putR [intV (v.reg r).typ,intV (v.reg r).own,.bool (v.reg r).lent,intV (v.reg r).con,intV (v.reg r).frm,intV (v.reg r).field] off vals) k)
  (kk:∀ w' I',KstX a x y (v.upd r k) I'→St u w' (I'++R)→K w'):StoreAt w (elA x r 6) off vals K:=by
 obtain ⟨I0,I1,I2,hC,o1,o2,rfl⟩:=h
 have hS:St u w (I0++(I1++(I2++R))):=by simpa [List.append_assoc] using hS
 refine (o1 u).store hS h0 h1 (off:=off) (vals:=vals) k hv ?_ ?_
 ·rintro row ⟨rfl,hb⟩
  exact hc ⟨rfl,hb⟩
 ·intro w' I1' hO hS
  exact kk w' (I0++(I1'++I2)) ⟨I0,I1',I2,hC,fun u=>let ⟨rows,q1,q2,q3⟩:=hO;⟨rows,q1,q2,q3⟩,o2,rfl⟩ (by simpa [List.append_assoc] using hS)
theorem KstX.s0 {K:World→Prop} (h:KstX a x y v I) (hS:St u w (I++R)) (h0:0≤r) (h1:r < v.regs.length) (hn:InI n) (hk:k=⟨n,(v.reg r).own,(v.reg r).lent,(v.reg r).con,(v.reg r).frm,(v.reg r).field⟩) (kk:∀ w' I',KstX a x y (v.upd r k) I'→St u w' (I'++R)→K w'):StoreAt w (elA x r 6) 0 [.int .i64 n] K:=by
 subst hk
 refine h.st hS h0 h1 (by simp) ?_ kk
 rintro ⟨_,b_typ,b_own,b_con,b_frm,b_field⟩
 exact ⟨rfl,hn,b_own,b_con,b_frm,b_field⟩
theorem c_slicesEqualK {v:World} {x y:Sl} {l ws:List Int} (hx:Read v x l) (hy:Read v y ws):Fn Tryz.prog 216 #[x.val,y.val] v (.bool (decide (l=ws))):=by
 refine of216 _ _ _ _ ?_
 unfold vc216
 have hn:=hx.n
 have hl:=hx.le
 have hyn:=hy.n
 refine ⟨fun hc=>?_,fun hc=>?_⟩
 ·simp only [bls] at hc
  exact ⟨val_false (fun e=>by rw [e] at hn;omega),.refl v⟩
 simp only [bls] at hc
 refine ⟨fun i w=>Sub v w∧0≤i∧i≤l.length∧l.take i.toNat=ws.take i.toNat,fun i _=>(l.length - i).toNat,⟨.refl v,by omega,by omega,by simp⟩,?_⟩
 rintro i w ⟨hs,h0,h1,h2⟩
 dsimp only
 refine ⟨fun hi=>?_,fun hi=>?_⟩
 ·simp only [bls] at hi
  refine go_ix hx h0 (by omega) ?_
  refine ld_int (hx.mono hs) h0 (by omega) ?_
  intro _ _
  refine go_ix hy h0 (by omega) ?_
  refine ld_int (hy.mono hs) h0 (by omega) ?_
  intro _ _
  refine ⟨fun hq=>?_,fun hq=>?_⟩
  ·simp only [bls] at hq
   exact ⟨val_false (fun e=>hq (by rw [e])),hs⟩
  ·simp only [bls] at hq
   refine go_wr (by omega) (by omega) ?_
   refine ⟨⟨hs,by omega,by omega,?_⟩,by omega⟩
   rw [take_nth h0 (by omega),take_nth h0 (by omega),h2,hq]
 ·simp only [bls] at hi
  rw [take_all (by omega),take_all (by omega)] at h2
  exact ⟨val_true h2,hs⟩
end
end Go.Vc
namespace Go.Vc
open Go Go.Proofs Go.RowKit
theorem two_el {T:List Int} (h:T.length=2):T=[nth T 0,nth T 1]:=by
 match T,h with
 | [p,q],_=>rfl
section
variable {u v w:World} {vv v' o:VwD} {a a1:Addr} {r t n i m op num rr f e_ at_:Int} {x y z s ax jx tx:Sl} {I R L:Items} {N B:Nat} {ds:List DeclD} {ss:List SigD} {T:List Int} {c:InstrD}
theorem c_kArrowOf (hx:Read v x ds) (hl:ds.length≤4):Fn Tryz.prog 217 #[x.val,.int .i64 f,.int .i64 t] v (.int .i64 (arrI ds f t)):=by
 refine of217 _ _ _ _ _ ?_
 unfold vc217
 have hn:=hx.n
 refine ⟨fun i w=>v=w∧0≤i∧i≤ds.length∧∀ j:Int,0≤j→j < i→¬ arrP ds f t j,fun i _=>(ds.length - i).toNat,⟨rfl,by omega,by omega,fun j j0 j1=>by omega⟩,?_⟩
 rintro i _ ⟨rfl,i0,i1,hj⟩
 refine ⟨fun hi=>?_,fun hi=>?_⟩
 ·simp only [bls] at hi
  have hil:i < ds.length:=by omega
  obtain ⟨f_cons,e1,e2,e3,j1,j2,r1⟩:=(hx.src (.refl v)).ofDeclD i0 hil
  have hcn:=r1.n
  refine go_ix hx i0 hil ?_
  refine ⟨_,_,f_cons,⟨e1,e2,e3⟩,?_⟩
  refine ⟨fun hq=>?_,fun hq=>?_⟩
  ·simp only [bls] at hq
   refine go_wr (by omega) (by omega) ?_
   exact ⟨by rw [arrI_some i0 hil ⟨by omega,hq.1.2,hq.2⟩ hj],.refl _⟩
  ·refine go_wr (by omega) (by omega) ?_
   refine ⟨⟨rfl,by omega,by omega,fun j j0 j1=>?_⟩,by dsimp only;omega⟩
   by_cases e:j=i
   ·subst e
    rintro ⟨q1,q2,q3⟩
    have:f_cons.n=0:=by omega
    simp [this,q2,q3] at hq
   ·exact hj j j0 (by omega)
 ·simp only [bls] at hi
  exact ⟨by rw [arrI_none fun j j0 j1=>hj j j0 (by omega)],.refl _⟩
theorem c_arrowAt (hx:Read v x ds) (hl:ds.length≤4):∃ (b c:Int) (z:Sl) (q:Bool),(q=true↔isArr ds t)∧(q=true→b=(nth ds (t - 1)).frm∧c=(nth ds (t - 1)).to_)∧Fn Tryz.prog 215 #[x.val,.int .i64 t] v (.tuple #[.agg #[.int .i64 b,.int .i64 c,z.val],.bool q]):=by
 have hn:=hx.n
 by_cases hk:isArr ds t
 ·obtain ⟨k1,k2,k3⟩:=hk
  obtain ⟨f_cons,e1,e2,e3,j1,j2,r1⟩:=(hx.src (.refl v)).ofDeclD (i:=t - 1) (by omega) (by omega)
  have hcn:=r1.n
  refine ⟨_,_,f_cons,true,⟨fun _=>⟨k1,k2,k3⟩,fun _=>rfl⟩,fun _=>⟨rfl,rfl⟩,?_⟩
  refine of215 _ _ _ _ ?_
  unfold vc215
  refine go_wrg (fun _=>by omega) ?_
  refine go_ixg hx (fun _=>by omega) ?_
  refine ⟨f_cons,fun _=>e3,fun hq=>?_,fun hq=>?_⟩
  ·simp only [bls] at hq;omega
  ·refine go_wr (by omega) (by omega) ?_
   refine go_ix hx (by omega) (by omega) ?_
   exact ⟨_,_,f_cons,⟨e1,e2,e3⟩,rfl,.refl _⟩
 ·refine ⟨0,0,⟨none,0,0⟩,false,⟨(fun h=>by cases h),fun h=>absurd h hk⟩,(fun h=>by cases h),?_⟩
  refine of215 _ _ _ _ ?_
  unfold vc215
  have hg:((decide (t < 1)) || (decide (t > (x.n:Int))))=false→1≤t∧t≤ds.length:=fun h=>by simp only [bls] at h;omega
  refine go_wrg (fun h=>by have:=hg h;omega) ?_
  refine go_ixg hx (fun h=>by have:=hg h;omega) ?_
  refine ldg_decl_cons (hx.src (.refl v)) (fun h=>by have:=hg h;omega) ?_
  intro g hr
  refine ⟨fun hq=>⟨rfl,.refl _⟩,fun hq=>?_⟩
  exfalso
  simp only [bls] at hq
  have:=(hr (by simp only [Bool.or_eq_false_iff,decide_eq_false_iff_not];omega)).n
  exact hk ⟨by omega,by omega,by omega⟩
end
end Go.Vc
