/- Part of the proofs about the heaps and memories: a law is joined in the text whose name ends in W and the law. -/
import Derived.Test.YtlcegaeioheikaaGreatEK3
import Derived.Test.YtlcegaeioheikaaGreatEXG3c
set_option linter.all false
namespace Go.Vc
open Go Go.Proofs Go.RowKit
instance slFuncG:SlT Tryz.prog 66 5 72 [.slice none 0 0,intV 0,intV 0,intV 0,.slice none 0 0]:=.of (by kernel_rfl) rfl (by decide)
section
variable {u u' v w:World} {x y z s x1 x2 x3:Sl} {ds:List DeclD} {fs:List FunD} {a:Addr} {I J R:Items} {F:Items→Items} {m n n1 n2 k1 k2 op num t f:Int} {l:List Int} {ks:List ExprD} {e:ExprD}
theorem gs_bld {α:Type} [Dat α] {t bytes:Nat} {zc:List Value} [hT:SlT Tryz.prog t (Dat.sz α) bytes zc] {l:List α} {c:Nat} {ps:Array (Nat×Value)} (h:GS u a R m w) (hv:VsOf u (ps.toList.map (·.2)) l) (hi:ps.toList.map (·.1)=List.range c) (hsz:c * Dat.sz α≤16777216) {K:Sl→World→Prop}
    (k:∀ x w' u',Sub u u'→Sub w w'→GS u' a R m w'→Read u' x l→K x w'):StepT Tryz.prog (Instr.buildSlice t c ps) w fun r w'=>∃ x,r=x.val∧K x w':=by
  obtain ⟨I,h1,h2⟩:=h
  refine St.build (α:=α) h2 hv hi hsz fun x w' J hO hS hs=>⟨x,rfl,?_⟩
  obtain ⟨u2,hu,hS2,hJ⟩:=hS.freeze J
  exact k x w' u2 hu hs ⟨I,h1.mono hu,hS2⟩ (hO.read1 hJ)
theorem gs_bldO {α:Type} [Dat α] {t bytes:Nat} {zc:List Value} [hT:SlT Tryz.prog t (Dat.sz α) bytes zc] {l:List α} {c:Nat} {ps:Array (Nat×Value)} (h:GS u a R m w) (hv:VsOf u (ps.toList.map (·.2)) l) (hi:ps.toList.map (·.1)=List.range c) (hsz:c * Dat.sz α≤16777216) {K:Sl→World→Prop}
    (k:∀ x w' J,Sub w w'→GS u a (J++R) m w'→Own u x l J→K x w'):StepT Tryz.prog (Instr.buildSlice t c ps) w fun r w'=>∃ x,r=x.val∧K x w':=by
  obtain ⟨I,h1,h2⟩:=h
  refine St.build (α:=α) h2 hv hi hsz fun x w' J hO hS hs=>⟨x,rfl,?_⟩
  exact k x w' J hs ⟨I,h1,hS.to⟩ hO
theorem gs_pushO {α:Type} [Dat α] {t bytes:Nat} {zc:List Value} [hT:SlT Tryz.prog t (Dat.sz α) bytes zc] {l:List α} {e:α} {ev:Value} (h:GS u a (J++R) m w) (hO:Own u x l J) (hv:VsOf u [ev] [e]) (hb:l.length+1≤1000000) (hsz:Dat.sz α≤128) (hby:bytes≤128) {K:Sl→World→Prop} (k:∀ x' w' J',GS u a (J'++R) m w'→Own u x' (l++[e]) J'→K x' w'):
    StepT Tryz.prog (Instr.buildSlice t 1 #[(0,ev)]) w fun r1 w1=>∃ z:Sl,r1=z.val∧StepT Tryz.prog (Builtin.append_ #[t,t] t #[(x.val),(z.val)]) w1 fun r2 w2=>∃ x':Sl,r2=x'.val∧K x' w2:=by
  obtain ⟨I,h1,h2⟩:=h
  refine St.build (α:=α) h2 hv rfl (by omega) fun z w1 J1 hO1 hS hs=>⟨z,rfl,?_⟩
  refine Own.append hO hS (Own.src hO1 hS) (by simp only [List.length_cons,List.length_nil];omega) hby fun x' w2 J2 hO2 hS2=>⟨x',rfl,k x' w2 J2 ⟨I,h1,hS2.to⟩ hO2⟩
theorem vofC (hx:Read u x l):VOf u (.agg #[x.val]) (⟨l⟩:ConD):=⟨rfl,x,rfl,hx⟩
theorem vofD {cs:List ConD} (h1:InI n1) (h2:InI n2) (hx:Read u x cs):VOf u (.agg #[iV n1,iV n2,x.val]) (⟨n1,n2,cs⟩:DeclD):=⟨rfl,x,rfl,h1,h2,hx⟩
theorem vofD0 (h1:InI n1) (h2:InI n2):VOf u (.agg #[iV n1,iV n2,.slice none 0 0]) (⟨n1,n2,[]⟩:DeclD):=⟨rfl,⟨none,0,0⟩,rfl,h1,h2,ReadB.nil⟩
theorem gs_con {K:Sl→World→Prop} (k:K x w):Trip Tryz.prog 52 #[x.val] w fun r w'=>∃ x':Sl,r=.agg #[x'.val]∧K x' w':=by
  refine of52 _ _ _ ?_
  unfold vc52
  exact ⟨x,rfl,k⟩
def in64 (n:Int):Bool:=decide (-9223372036854775808≤n) && decide (n≤9223372036854775807)
theorem in64_in (h:in64 n=true):InI n:=by
  unfold in64 at h
  simp only [Bool.and_eq_true,decide_eq_true_eq] at h
  exact h
theorem c_goodDecls (hm:m+100≤999900000) (h:GS u a R m w):
    Trip Tryz.prog 51 #[(pt a)] w fun r w'=>∃ x:Sl,r=x.val∧∃ u' ds J,Sub u u'∧GS u' a (J++R) (m+10) w'∧Own u' x ds J∧GD ds:=by
  refine of51 _ _ _ ?_
  unfold vc51
  have I0:InI 0:=in64_in rfl
  have I1:InI 1:=in64_in rfl
  refine gs_ints (l:=[]) h VsOf.nil rfl (by decide) fun a1 w1 u1 hu1 hs1 h ha1=>gs_con ?_
  refine gs_ints h (by (repeat' (first|exact VsOf.nil|apply VsOf.cons|(apply VOf.int;first|assumption|(constructor<;>first|omega|(simp only [lz] at *;omega)))|exact VOf.bool|exact VOf.str))) rfl (by decide) fun a2 w2 u2 hu2 hs2 h ha2=>gs_con ?_
  refine gs_bld (α:=ConD) (l:=[⟨[]⟩,⟨[0,1]⟩]) h (by exact VsOf.cons (vofC (ha1.mono hu2)) (VsOf.cons (vofC ha2) VsOf.nil)) rfl (by decide) fun b1 w3 u3 hu3 hs3 h hb1=>?_
  refine gs_ints (l:=[]) h VsOf.nil rfl (by decide) fun a3 w4 u4 hu4 hs4 h ha3=>gs_con ?_
  refine gs_ints h (by (repeat' (first|exact VsOf.nil|apply VsOf.cons|(apply VOf.int;first|assumption|(constructor<;>first|omega|(simp only [lz] at *;omega)))|exact VOf.bool|exact VOf.str))) rfl (by decide) fun a4 w5 u5 hu5 hs5 h ha4=>gs_con ?_
  refine gs_bld (α:=ConD) (l:=[⟨[]⟩,⟨[3,0,3]⟩]) h (by exact VsOf.cons (vofC (ha3.mono hu5)) (VsOf.cons (vofC ha4) VsOf.nil)) rfl (by decide) fun b2 w6 u6 hu6 hs6 h hb2=>?_
  refine gs_ints h (by (repeat' (first|exact VsOf.nil|apply VsOf.cons|(apply VOf.int;first|assumption|(constructor<;>first|omega|(simp only [lz] at *;omega)))|exact VOf.bool|exact VOf.str))) rfl (by decide) fun a5 w7 u7 hu7 hs7 h ha5=>gs_con ?_
  refine gs_bld (α:=ConD) (l:=[⟨[1,3]⟩]) h (by exact VsOf.cons (vofC ha5) VsOf.nil) rfl (by decide) fun b3 w8 u8 hu8 hs8 h hb3=>?_
  refine gs_ints h (by (repeat' (first|exact VsOf.nil|apply VsOf.cons|(apply VOf.int;first|assumption|(constructor<;>first|omega|(simp only [lz] at *;omega)))|exact VOf.bool|exact VOf.str))) rfl (by decide) fun a6 w9 u9 hu9 hs9 h ha6=>gs_con ?_
  refine gs_ints h (by (repeat' (first|exact VsOf.nil|apply VsOf.cons|(apply VOf.int;first|assumption|(constructor<;>first|omega|(simp only [lz] at *;omega)))|exact VOf.bool|exact VOf.str))) rfl (by decide) fun a7 w10 u10 hu10 hs10 h ha7=>gs_con ?_
  refine gs_ints h (by (repeat' (first|exact VsOf.nil|apply VsOf.cons|(apply VOf.int;first|assumption|(constructor<;>first|omega|(simp only [lz] at *;omega)))|exact VOf.bool|exact VOf.str))) rfl (by decide) fun a8 w11 u11 hu11 hs11 h ha8=>gs_con ?_
  refine gs_bld (α:=ConD) (l:=[⟨[1,1,0]⟩,⟨[0]⟩,⟨[3]⟩]) h (by exact VsOf.cons (vofC ((ha6.mono hu10).mono hu11)) (VsOf.cons (vofC (ha7.mono hu11)) (VsOf.cons (vofC ha8) VsOf.nil))) rfl (by decide) fun b4 w12 u12 hu12 hs12 h hb4=>?_
  have h9:=((hu9.trans hu10).trans hu11).trans hu12
  refine gs_bld (α:=DeclD) (l:=lastG) h (by exact VsOf.cons (vofD I0 I0 (hb3.mono h9)) (VsOf.cons (vofD0 I1 I0) (VsOf.cons (vofD I0 I0 hb4) (VsOf.cons (vofD0 I0 I1) VsOf.nil)))) rfl (by decide) fun xl w13 u13 hu13 hs13 h hxl=>?_
  have h4:=((hu4.trans hu5).trans hu6).trans ((hu7.trans hu8).trans (h9.trans hu13))
  refine gs_bldO (α:=DeclD) (l:=[dLi,dAr,dTr]) h (by exact VsOf.cons (vofD I0 I0 (hb1.mono h4)) (VsOf.cons (vofD0 I0 I0) (VsOf.cons (vofD I0 I0 (hb2.mono ((hu7.trans hu8).trans (h9.trans hu13)))) VsOf.nil))) rfl (by decide) fun xo w14 J hs14 h hO=>?_
  have hU:Sub u u13:=((hu1.trans hu2).trans hu3).trans h4
  refine gs_pick h (by omega) (by omega) (by omega) fun j w15 h j0 j1 _=>⟨fun hc=>?_,fun hc=>⟨xo,rfl,u13,_,J,hU,h.le (by omega),hO,.inl rfl⟩⟩
  simp only [bls] at hc
  have hll:((lastG.length:Nat):Int)=4:=rfl
  refine go_ix hxl j0 (by omega) ?_
  obtain ⟨fc,e1,e2,e3,i1,i2,rc⟩:=(hxl.src (.refl u13)).ofDeclD j0 (by omega)
  refine ⟨_,_,fc,⟨cell_sub h.sub e1,cell_sub h.sub e2,cell_sub h.sub e3⟩,?_⟩
  refine gs_pushO h hO (by exact VsOf.cons (vofD i1 i2 rc) VsOf.nil) (by decide) (by decide) (by decide) fun x' w16 J' h hO=>?_
  refine ⟨x',rfl,u13,_,J',hU,h.le (by omega),hO,.inr ⟨nth lastG j,nth_mem j0 (by omega),?_⟩⟩
  rfl
def FOz (f:FunD):Prop:=(f.params,f.result)∈sigsG∧f.body=default
def FOk (ds:List DeclD) (nf:Int) (f:FunD):Prop:=(f.params,f.result)∈sigsG∧cE ⟨ds,nf,f.params.length⟩ f.body∧nodesE f.body≤5000
theorem FOz.zero {p:List Int} {r:Int} (h:(p,r)∈sigsG):FOz ⟨p,r,default⟩:=⟨h,rfl⟩
theorem FOz.ok {f:FunD} {nf:Int} (h:FOz f):FOk ds nf f:=by
  refine ⟨h.1,?_,?_⟩
  · rw [h.2]
    exact cE.node (C:=⟨ds,nf,f.params.length⟩) (op:=0) (num:=0) (ks:=[]) cL_nil ⟨by decide,by decide,by decide,by decide,by omega,by omega⟩
  · rw [h.2]
    show nodesE ⟨0,0,[]⟩≤5000
    rw [nodesE_eq]
    show 1+nodesL []≤5000
    rw [nodesL_nil]
    omega
theorem vofF {r:Int} (hx:Read u x l) (hr:InI r):VOf u (.agg #[x.val,iV r,iV 0,iV 0,.slice none 0 0]) (⟨l,r,default⟩:FunD):=
  ⟨rfl,x,⟨none,0,0⟩,rfl,hr,in64_in rfl,in64_in rfl,hx,ReadB.nil⟩
theorem vofN {f:FunD} (i1:InI f.result) (i2:InI f.body.op) (i3:InI f.body.num) (r1:Read u x f.params) (r2:Read u y f.body.kids):VOf u (.agg #[x.val,iV f.result,iV f.body.op,iV f.body.num,y.val]) f:=
  ⟨rfl,x,y,rfl,i1,i2,i3,r1,r2⟩
theorem gs_sig {r:Int} {K:Sl→Int→Int→Int→Sl→World→Prop} (k:K x r 0 0 ⟨none,0,0⟩ w):Trip Tryz.prog 60 #[x.val,iV r] w fun v w'=>∃ (x':Sl) (n1 n2 n3:Int) (y':Sl),v=.agg #[x'.val,iV n1,iV n2,iV n3,y'.val]∧K x' n1 n2 n3 y' w':=by
  refine of60 _ _ _ _ ?_
  unfold vc60
  exact ⟨x,r,0,0,⟨none,0,0⟩,rfl,k⟩
theorem funRow {l:List FunD} (hx:Read u x l):∃ F:Int→Sl×Sl,∀ j:Int,0≤j→j < l.length→(∀ {m:Int} {w:World},GS u a R m w→(w.cell? ((elA x j 5).add 0)=some (F j).1.val∧w.cell? ((elA x j 5).add 1)=some (iV (nth l j).result)∧w.cell? ((elA x j 5).add 2)=some (iV (nth l j).body.op)∧w.cell? ((elA x j 5).add 3)=some (iV (nth l j).body.num)∧w.cell? ((elA x j 5).add 4)=some (F j).2.val))∧
    VOf u (.agg #[(F j).1.val,iV (nth l j).result,iV (nth l j).body.op,iV (nth l j).body.num,(F j).2.val]) (nth l j):=by
  have key:∀ j:Int,∃ p:Sl×Sl,0≤j→j < l.length→(∀ {m:Int} {w:World},GS u a R m w→(w.cell? ((elA x j 5).add 0)=some p.1.val∧w.cell? ((elA x j 5).add 1)=some (iV (nth l j).result)∧w.cell? ((elA x j 5).add 2)=some (iV (nth l j).body.op)∧w.cell? ((elA x j 5).add 3)=some (iV (nth l j).body.num)∧w.cell? ((elA x j 5).add 4)=some p.2.val))∧
      VOf u (.agg #[p.1.val,iV (nth l j).result,iV (nth l j).body.op,iV (nth l j).body.num,p.2.val]) (nth l j):=by
    intro j
    by_cases hj:0≤j∧j < l.length
    · obtain ⟨f,k,e1,e2,e3,e4,e5,i1,i2,i3,r1,r2⟩:=(hx.src (.refl u)).ofFunD hj.1 hj.2
      exact ⟨(f,k),fun _ _=>⟨fun h=>⟨cell_sub h.sub e1,cell_sub h.sub e2,cell_sub h.sub e3,cell_sub h.sub e4,cell_sub h.sub e5⟩,vofN i1 i2 i3 r1 r2⟩⟩
    · exact ⟨(⟨none,0,0⟩,⟨none,0,0⟩),fun h0 h1=>absurd ⟨h0,h1⟩ hj⟩
  exact Classical.axiomOfChoice key
theorem Own.cutOk {α:Type} [Dat α] {l:List α} {I:Items} (h:Own u x l I) (h0:0≤n) (h1:n≤l.length):CutOk x 0 n:=by
  obtain ⟨rows,k1,k2,_⟩:=h
  refine ⟨Int.le_refl _,h0,?_⟩
  have:=k2.1
  cases k1 with
  | nil=>simp at this;omega
  | blk g o c' c cur e _ hn hc hm hs hr=>simp only [] at *;omega
set_option maxRecDepth 20000 in
theorem c_goodProgram (hm:m+2000000≤999900000) (h:GS u a R m w):
    Trip Tryz.prog 42 #[(pt a)] w fun r w'=>∃ x y:Sl,r=.agg #[x.val,y.val]∧∃ u' ds fs J,Sub u u'∧GS u' a (J++R) (m+1000000) w'∧Read u' x ds∧Own u' y fs J∧GD ds∧1≤fs.length∧fs.length≤4∧∀ f∈fs,FOk ds fs.length f:=by
  refine of42 _ _ _ ?_
  unfold vc42
  have I0:InI 0:=in64_in rfl
  have I1:InI 1:=in64_in rfl
  have I3:InI 3:=in64_in rfl
  refine (c_goodDecls (by omega) h).mono' ?_
  rintro _ w1 ⟨x,rfl,u1,ds,J1,hu1,h,hO,hgd⟩
  obtain ⟨u2,hu2,h,hJ⟩:=h.freeze
  have hx:=hO.read1 hJ
  have hU2:=hu1.trans hu2
  clear hO hJ
  refine ⟨x,rfl,?_⟩
  
  refine ⟨fun s w=>∃ u3 l,Sub u2 u3∧GS u3 a R (m+10) w∧Read u3 s l∧l.length=6∧∀ f∈l,FOz f,?_,?_⟩
  · refine gs_ints h (by (repeat' (first|exact VsOf.nil|apply VsOf.cons|(apply VOf.int;first|assumption|(constructor<;>first|omega|(simp only [lz] at *;omega)))|exact VOf.bool|exact VOf.str))) rfl (by decide) fun a1 w1 u3 hu3 hs1 h ha1=>gs_sig ?_
    refine gs_ints h (by (repeat' (first|exact VsOf.nil|apply VsOf.cons|(apply VOf.int;first|assumption|(constructor<;>first|omega|(simp only [lz] at *;omega)))|exact VOf.bool|exact VOf.str))) rfl (by decide) fun a2 w1 u4 hu4 hs1 h ha2=>gs_sig ?_
    refine gs_ints h (by (repeat' (first|exact VsOf.nil|apply VsOf.cons|(apply VOf.int;first|assumption|(constructor<;>first|omega|(simp only [lz] at *;omega)))|exact VOf.bool|exact VOf.str))) rfl (by decide) fun a3 w1 u5 hu5 hs1 h ha3=>gs_sig ?_
    refine gs_ints h (by (repeat' (first|exact VsOf.nil|apply VsOf.cons|(apply VOf.int;first|assumption|(constructor<;>first|omega|(simp only [lz] at *;omega)))|exact VOf.bool|exact VOf.str))) rfl (by decide) fun a4 w1 u6 hu6 hs1 h ha4=>gs_sig ?_
    refine gs_ints h (by (repeat' (first|exact VsOf.nil|apply VsOf.cons|(apply VOf.int;first|assumption|(constructor<;>first|omega|(simp only [lz] at *;omega)))|exact VOf.bool|exact VOf.str))) rfl (by decide) fun a5 w1 u7 hu7 hs1 h ha5=>gs_sig ?_
    refine gs_ints h (by (repeat' (first|exact VsOf.nil|apply VsOf.cons|(apply VOf.int;first|assumption|(constructor<;>first|omega|(simp only [lz] at *;omega)))|exact VOf.bool|exact VOf.str))) rfl (by decide) fun a6 w1 u8 hu8 hs1 h ha6=>gs_sig ?_
    have s7:=hu8
    have s6:=hu7.trans s7
    have s5:=hu6.trans s6
    have s4:=hu5.trans s5
    have s3:=hu4.trans s4
    refine gs_bld (α:=FunD) (l:=[⟨[1],0,default⟩,⟨[1,1],1,default⟩,⟨[1],1,default⟩,⟨[1,0],1,default⟩,⟨[2,1],1,default⟩,⟨[1,1],0,default⟩]) h (by exact VsOf.cons (vofF (ha1.mono s3) I0) (VsOf.cons (vofF (ha2.mono s4) I1) (VsOf.cons (vofF (ha3.mono s5) I1) (VsOf.cons (vofF (ha4.mono s6) I1) (VsOf.cons (vofF (ha5.mono s7) I1) (VsOf.cons (vofF ha6 I0) VsOf.nil)))))) rfl (by decide) fun b1 w2 u9 hu9 hs9 h hb1=>?_
    refine ⟨rfl,rfl,rfl,rfl,u9,_,(hu3.trans s3).trans hu9,h,hb1,rfl,?_⟩
    intro f hf
    simp only [List.mem_cons,List.not_mem_nil,or_false] at hf
    rcases hf with rfl|rfl|rfl|rfl|rfl|rfl<;>exact FOz.zero (by decide)
  rintro x1 w3 ⟨u3,one,hu3,h,hx1,hl1,ho1⟩
  refine ⟨fun s w=>∃ u4 l,Sub u3 u4∧GS u4 a R (m+10) w∧Read u4 s l∧l.length=6∧∀ f∈l,FOz f,?_,?_⟩
  · refine gs_ints h (by (repeat' (first|exact VsOf.nil|apply VsOf.cons|(apply VOf.int;first|assumption|(constructor<;>first|omega|(simp only [lz] at *;omega)))|exact VOf.bool|exact VOf.str))) rfl (by decide) fun a1 w1 u3 hu3 hs1 h ha1=>gs_sig ?_
    refine gs_ints h (by (repeat' (first|exact VsOf.nil|apply VsOf.cons|(apply VOf.int;first|assumption|(constructor<;>first|omega|(simp only [lz] at *;omega)))|exact VOf.bool|exact VOf.str))) rfl (by decide) fun a2 w1 u4 hu4 hs1 h ha2=>gs_sig ?_
    refine gs_ints h (by (repeat' (first|exact VsOf.nil|apply VsOf.cons|(apply VOf.int;first|assumption|(constructor<;>first|omega|(simp only [lz] at *;omega)))|exact VOf.bool|exact VOf.str))) rfl (by decide) fun a3 w1 u5 hu5 hs1 h ha3=>gs_sig ?_
    refine gs_ints h (by (repeat' (first|exact VsOf.nil|apply VsOf.cons|(apply VOf.int;first|assumption|(constructor<;>first|omega|(simp only [lz] at *;omega)))|exact VOf.bool|exact VOf.str))) rfl (by decide) fun a4 w1 u6 hu6 hs1 h ha4=>gs_sig ?_
    refine gs_ints h (by (repeat' (first|exact VsOf.nil|apply VsOf.cons|(apply VOf.int;first|assumption|(constructor<;>first|omega|(simp only [lz] at *;omega)))|exact VOf.bool|exact VOf.str))) rfl (by decide) fun a5 w1 u7 hu7 hs1 h ha5=>gs_sig ?_
    refine gs_ints h (by (repeat' (first|exact VsOf.nil|apply VsOf.cons|(apply VOf.int;first|assumption|(constructor<;>first|omega|(simp only [lz] at *;omega)))|exact VOf.bool|exact VOf.str))) rfl (by decide) fun a6 w1 u8 hu8 hs1 h ha6=>gs_sig ?_
    have s7:=hu8
    have s6:=hu7.trans s7
    have s5:=hu6.trans s6
    have s4:=hu5.trans s5
    have s3:=hu4.trans s4
    refine gs_bld (α:=FunD) (l:=[⟨[3],0,default⟩,⟨[0],1,default⟩,⟨[0,1],1,default⟩,⟨[3,0],3,default⟩,⟨[3],1,default⟩,⟨[1,3,0],0,default⟩]) h (by exact VsOf.cons (vofF (ha1.mono s3) I0) (VsOf.cons (vofF (ha2.mono s4) I1) (VsOf.cons (vofF (ha3.mono s5) I1) (VsOf.cons (vofF (ha4.mono s6) I3) (VsOf.cons (vofF (ha5.mono s7) I1) (VsOf.cons (vofF ha6 I0) VsOf.nil)))))) rfl (by decide) fun b1 w2 u9 hu9 hs9 h hb1=>?_
    refine ⟨rfl,rfl,rfl,rfl,u9,_,(hu3.trans s3).trans hu9,h,hb1,rfl,?_⟩
    intro f hf
    simp only [List.mem_cons,List.not_mem_nil,or_false] at hf
    rcases hf with rfl|rfl|rfl|rfl|rfl|rfl<;>exact FOz.zero (by decide)
  rintro x2 w4 ⟨u4,two,hu4,h,hx2,hl2,ho2⟩
  refine ⟨fun s w=>∃ u5 l,Sub u4 u5∧GS u5 a R (m+10) w∧Read u5 s l∧l.length=4∧∀ f∈l,FOz f,?_,?_⟩
  · refine gs_ints h (by (repeat' (first|exact VsOf.nil|apply VsOf.cons|(apply VOf.int;first|assumption|(constructor<;>first|omega|(simp only [lz] at *;omega)))|exact VOf.bool|exact VOf.str))) rfl (by decide) fun a1 w1 u3 hu3 hs1 h ha1=>gs_sig ?_
    refine gs_ints h (by (repeat' (first|exact VsOf.nil|apply VsOf.cons|(apply VOf.int;first|assumption|(constructor<;>first|omega|(simp only [lz] at *;omega)))|exact VOf.bool|exact VOf.str))) rfl (by decide) fun a2 w1 u4 hu4 hs1 h ha2=>gs_sig ?_
    refine gs_ints h (by (repeat' (first|exact VsOf.nil|apply VsOf.cons|(apply VOf.int;first|assumption|(constructor<;>first|omega|(simp only [lz] at *;omega)))|exact VOf.bool|exact VOf.str))) rfl (by decide) fun a3 w1 u5 hu5 hs1 h ha3=>gs_sig ?_
    refine gs_ints h (by (repeat' (first|exact VsOf.nil|apply VsOf.cons|(apply VOf.int;first|assumption|(constructor<;>first|omega|(simp only [lz] at *;omega)))|exact VOf.bool|exact VOf.str))) rfl (by decide) fun a4 w1 u6 hu6 hs1 h ha4=>gs_sig ?_
    have s5:=hu6
    have s4:=hu5.trans s5
    have s3:=hu4.trans s4
    refine gs_bld (α:=FunD) (l:=[⟨[0],0,default⟩,⟨[0,0],0,default⟩,⟨[1,0],0,default⟩,⟨[0],1,default⟩]) h (by exact VsOf.cons (vofF (ha1.mono s3) I0) (VsOf.cons (vofF (ha2.mono s4) I0) (VsOf.cons (vofF (ha3.mono s5) I0) (VsOf.cons (vofF ha4 I1) VsOf.nil)))) rfl (by decide) fun b1 w2 u9 hu9 hs9 h hb1=>?_
    refine ⟨rfl,rfl,rfl,rfl,u9,_,(hu3.trans s3).trans hu9,h,hb1,rfl,?_⟩
    intro f hf
    simp only [List.mem_cons,List.not_mem_nil,or_false] at hf
    rcases hf with rfl|rfl|rfl|rfl<;>exact FOz.zero (by decide)
  rintro x3 w5 ⟨u5,three,hu5,h,hx3,hl3,ho3⟩
  
  refine ⟨fun s w=>∃ u6 fs J,Sub u5 u6∧GS u6 a (J++R) (m+20) w∧Own u6 s fs J∧fs.length=4∧∀ f∈fs,FOz f,?_,?_⟩
  · have hn1:=(hx1.n).trans hl1
    have hn2:=(hx2.n).trans hl2
    have hn3:=(hx3.n).trans hl3
    refine gs_ints (l:=[]) h VsOf.nil rfl (by decide) fun a1 w6 u6 hu6 hs6 h ha1=>⟨hs6,gs_sig ⟨.refl _,?_⟩⟩
    replace hx1:=(hx1.mono hu4).mono (hu5.trans hu6)
    replace hx2:=hx2.mono (hu5.trans hu6)
    replace hx3:=hx3.mono hu6
    obtain ⟨F1,c1⟩:=funRow (a:=a) (R:=R) hx1
    obtain ⟨F2,c2⟩:=funRow (a:=a) (R:=R) hx2
    obtain ⟨F3,c3⟩:=funRow (a:=a) (R:=R) hx3
    have fin:∀ {j1 j2 j3:Int} {w7:World},0≤j1→j1 < one.length→0≤j2→j2 < two.length→0≤j3→j3 < three.length→GS u6 a R (m+10+1+1+1) w7→
        StepT Tryz.prog (Instr.buildSlice 66 4 #[(0,(.agg #[a1.val,iV 0,iV 0,iV 0,(Sl.mk none 0 0).val])),(1,(.agg #[(F1 j1).1.val,iV (nth one j1).result,iV (nth one j1).body.op,iV (nth one j1).body.num,(F1 j1).2.val])),(2,(.agg #[(F2 j2).1.val,iV (nth two j2).result,iV (nth two j2).body.op,iV (nth two j2).body.num,(F2 j2).2.val])),(3,(.agg #[(F3 j3).1.val,iV (nth three j3).result,iV (nth three j3).body.op,iV (nth three j3).body.num,(F3 j3).2.val]))]) w7 fun r217 w218=>
          ∃ x219:Sl,r217=x219.val∧((.sl (Sl.mk none 0 0):SV)=.sl (Sl.mk none 0 0))∧((.sl (Sl.mk none 0 0):SV)=.sl (Sl.mk none 0 0))∧((.sl x:SV)=.sl x)∧
            ∃ u6 fs J,Sub u5 u6∧GS u6 a (J++R) (m+20) w218∧Own u6 x219 fs J∧fs.length=4∧∀ f∈fs,FOz f:=by
      intro j1 j2 j3 w7 p0 p1 q0 q1 r0 r1 h
      refine gs_bldO (α:=FunD) (l:=[⟨[],0,default⟩,nth one j1,nth two j2,nth three j3]) h (by exact VsOf.cons (vofF ha1 I0) (VsOf.cons (c1 j1 p0 p1).2 (VsOf.cons (c2 j2 q0 q1).2 (VsOf.cons (c3 j3 r0 r1).2 VsOf.nil)))) rfl (by decide) fun xo w8 J hs8 h hO=>?_
      refine ⟨rfl,rfl,rfl,u6,_,J,hu6,h.le (by omega),hO,rfl,?_⟩
      intro f hf
      simp only [List.mem_cons,List.not_mem_nil,or_false] at hf
      rcases hf with rfl|rfl|rfl|rfl
      · exact FOz.zero (by decide)
      · exact ho1 _ (nth_mem p0 p1)
      · exact ho2 _ (nth_mem q0 q1)
      · exact ho3 _ (nth_mem r0 r1)
    refine gs_pick (n:=x1.n) h (by omega) (by omega) (by omega) fun j1 w7 h p0 p1 _=>?_
    have p1:j1 < one.length:=by omega
    have i1:=hx1.ix p0 p1
    repeat' (first
      | (with_reducible refine And.intro i1 ?_)
      | (with_reducible refine And.intro i2 ?_)
      | (with_reducible refine And.intro i3 ?_)
      | (with_reducible refine Exists.intro _ (Exists.intro _ (Exists.intro _ (Exists.intro _ (Exists.intro _ (And.intro ((c1 j1 p0 p1).1 h) ?_))))))
      | (with_reducible refine Exists.intro _ (Exists.intro _ (Exists.intro _ (Exists.intro _ (Exists.intro _ (And.intro ((c2 j2 q0 q1).1 h) ?_))))))
      | (with_reducible refine Exists.intro _ (Exists.intro _ (Exists.intro _ (Exists.intro _ (Exists.intro _ (And.intro ((c3 j3 r0 r1).1 h) ?_))))))
      | (with_reducible refine And.intro ?_ ?_)
      | (with_reducible exact fin p0 p1 q0 q1 r0 r1 h)
      | ((with_reducible show Trip _ _ #[_,iV (x2.n:Int)] _ _);refine gs_pick (n:=x2.n) h (by omega) (by omega) (by omega) fun j2 w8 h q0 q1 _=>?_;have q1:j2 < two.length:=(by omega);have i2:=hx2.ix q0 q1)
      | ((with_reducible show Trip _ _ #[_,iV (x3.n:Int)] _ _);refine gs_pick (n:=x3.n) h (by omega) (by omega) (by omega) fun j3 w9 h r0 r1 _=>?_;have r1:j3 < three.length:=(by omega);have i3:=hx3.ix r0 r1))
  rintro y w6 ⟨u6,fs,J,hu6,h,hO,hfl,hfo⟩
  have hU:Sub u u6:=hU2.trans (((hu3.trans hu4).trans hu5).trans hu6)
  replace hx:Read u6 x ds:=hx.mono (((hu3.trans hu4).trans hu5).trans hu6)
  refine gs_ints h (by (repeat' (first|exact VsOf.nil|apply VsOf.cons|(apply VOf.int;first|assumption|(constructor<;>first|omega|(simp only [lz] at *;omega)))|exact VOf.bool|exact VOf.str))) rfl (by decide) fun x7 w7 u7 hu7 hs7 h hx7=>?_
  refine gs_one h hx7 (by omega) (by simp) (by simp) fun k w8 h hk=>?_
  have hk4:2≤k∧k≤4:=by simp only [List.mem_cons,List.not_mem_nil,or_false] at hk;omega
  refine ⟨hO.cutOk (by omega) (by omega),?_⟩
  have hO2:Own u7 (y.cut 0 k 5) (fs.take k.toNat) J:=by
    have this:Own u7 (y.cut 0 k 5) ((fs.take k.toNat).drop (0:Int).toNat) J:=(hO.mono hu7).cut (lo:=0) (hi:=k) (by omega) (by omega) (by omega)
    simpa using this
  refine go_wr (by omega) (by omega) ?_
  have hlk:((fs.take k.toNat).length:Int)=k:=by rw [List.length_take];omega
  have hok:∀ f∈fs.take k.toNat,FOk ds k f:=fun f hf=>(hfo f (List.mem_of_mem_take hf)).ok
  generalize fs.take k.toNat=gs at hO2 hlk hok
  generalize y.cut 0 k 5=z at hO2
  refine ⟨fun i w=>∃ (u8:World) (J:Items) (gs:List FunD),Sub u7 u8∧GS u8 a (J++R) (m+30+100000 * (4 - i)) w∧Own u8 z gs J∧(gs.length:Int)=k∧(∀ f∈gs,FOk ds k f)∧-1≤i∧i < k,fun i _=>(i+1).toNat,⟨u7,J,gs,.refl _,h.le (by omega),hO2,hlk,hok,by omega,by omega⟩,?_⟩
  clear h hO hO2 hlk hok
  rintro i w9 ⟨u8,J8,gs8,hu8,h,hO,hlk,hok,i0,i1⟩
  dsimp only
  refine ⟨fun hi=>?_,fun hi=>⟨x,z,rfl,u8,ds,gs8,J8,hU.trans (hu7.trans hu8),h.le (by omega),(hx.mono hu7).mono hu8,hO,hgd,by omega,by omega,by rw [hlk];exact hok⟩⟩
  simp only [bls] at hi
  have hil:i < gs8.length:=by omega
  have hp:PrgG u8 (J8++R) x z ds gs8:=⟨hgd,⟨by omega,by omega,fun f hf=>(hok f hf).1⟩,(hx.mono hu7).mono hu8,fun u9 w9 I9 hu9 hS9=>(hO.mono hu9).src hS9⟩
  refine use_x (c_bodyOf hp hi hil (by omega) h) fun n1 n2 s w10 u10 hu10 h he=>?_
  have hp10:=hp.mono hu10
  have hO10:=hO.mono hu10
  have hix:=(hp10.fsr h).ix hi hil
  obtain ⟨g,g2,e1,e2,_,_,_,j1,_,_,r1,_⟩:=(hp10.src h).ofFunD hi hil
  obtain ⟨e,rfl,rfl,re,ce,ne⟩:=he
  refine ⟨hix,g,e1,hix,_,e2,hix,?_⟩
  obtain ⟨I10,hR10,hS10⟩:=h
  have hfi:=hok _ (nth_mem hi hil)
  refine hO10.store hS10 hi hil (⟨(nth gs8 i).params,(nth gs8 i).result,e⟩:FunD) (Nat.le_of_ble_eq_true rfl) (fun r hr=>?_) fun w11 J11 hO11 hS11=>?_
  · obtain ⟨f',k',rfl,_⟩:=hr
    exact ⟨g,s,rfl,j1,(can_in ce.1).1,(can_in ce.1).2,r1,re⟩
  · refine go_wr (by omega) (by omega) ?_
    refine ⟨rfl,rfl,rfl,rfl,⟨u10,J11,_,hu8.trans hu10,⟨I10,hR10.le (by omega),hS11.to⟩,hO11,by simp;omega,?_,by omega,by omega⟩,by omega⟩
    intro f hf
    rcases List.mem_or_eq_of_mem_set hf with hf|rfl
    · exact hok f hf
    · exact ⟨hfi.1,by rw [←hlk];exact ce,by show nodesE e≤5000;omega⟩
end
theorem VOf.mono {α:Type} [Dat α] {u u':World} {v:Value} {e:α} (h:VOf u v e) (hs:Sub u u'):VOf u' v e:=⟨h.1,Dat.mono hs h.2⟩
theorem nodesL_len:∀ l:List ExprD,l.length≤nodesL l
  | []=>by simp
  | k ::r=>by
    have h1:=nodesL_len r
    have h2:=nodesE_eq k
    rw [nodesL_cons,List.length_cons]
    omega
section
variable {u u' w:World} {x:Sl} {a:Addr} {I J R:Items} {m n1 n2 op num b at_:Int} {ks:List ExprD} {e:ExprD}
theorem GS.split {α:Type} [DatO α] {l:List α} (h:GS u a (J++R) m w) (hO:OwnD x l J):∃ u' J0,Sub u u'∧GS u' a (J0++R) m w∧Own u' x l J0:=by
  obtain ⟨rows,I0,Is,E,h1,h2,h3,h4,h5,h6⟩:=hO
  obtain ⟨I,hR,hS⟩:=h
  have hS:St u w ((Is.flatten++E)++(I++(I0++R))):=hS.perm (by
    classical
    exact List.perm_iff_count.2 fun a=>by have:=h5.count_eq a;simp only [List.count_append] at *;omega)
  obtain ⟨u2,hu,hS2,hJ⟩:=hS.freeze (Is.flatten++E)
  refine ⟨u2,I0,hu,⟨I,hR.mono hu,hS2⟩,rows,h1,⟨h2,fun i r b hr hb=>?_⟩,h6⟩
  have hlt:i < Is.length:=by
    have:=(List.getElem?_eq_some_iff.1 hr).1
    omega
  have hI:=List.getElem?_eq_getElem hlt
  refine DatO.read (h4 i r b _ hr hb hI) fun p hp=>hJ.at_ p ?_
  exact List.mem_append_left _ (List.mem_flatten.2 ⟨_,List.getElem_mem hlt,hp⟩)
def EW (u:World) (n1 n2:Int) (x:Sl):Prop:=∃ e:ExprD,n1=e.op∧n2=e.num∧Read u x e.kids∧InI e.op∧InI e.num
theorem EW.mono (h:EW u n1 n2 x) (hs:Sub u u'):EW u' n1 n2 x:=let ⟨e,h1,h2,h3,h4⟩:=h;⟨e,h1,h2,h3.mono hs,h4⟩
theorem EW.mk (h1:InI op) (h2:InI num) (hx:Read u x ks):EW u op num x:=⟨⟨op,num,ks⟩,rfl,rfl,hx,h1,h2⟩
end
section
variable {u u' w:World} {x y z:Sl} {a:Addr} {I J R:Items} {m n:Int} {l:List UInt8} {ds:List DeclD}
theorem gs_pushL {α:Type} [Dat α] {t bytes:Nat} {zc:List Value} [hT:SlT Tryz.prog t (Dat.sz α) bytes zc] {l news:List α} {c:Nat} {ps:Array (Nat×Value)} (h:GS u a (J++R) m w) (hO:Own u x l J) (hv:VsOf u (ps.toList.map (·.2)) news) (hi:ps.toList.map (·.1)=List.range c) (hsz:c * Dat.sz α≤16777216) (hb:l.length+news.length≤1000000) (hby:bytes≤128) {K:Sl→World→Prop} (k:∀ x' w' J',GS u a (J'++R) m w'→Own u x' (l++news) J'→K x' w'):
    StepT Tryz.prog (Instr.buildSlice t c ps) w fun r1 w1=>∃ z:Sl,r1=z.val∧StepT Tryz.prog (Builtin.append_ #[t,t] t #[(x.val),(z.val)]) w1 fun r2 w2=>∃ x':Sl,r2=x'.val∧K x' w2:=by
  obtain ⟨I,h1,h2⟩:=h
  refine St.build (α:=α) h2 hv hi hsz fun z w1 J1 hO1 hS hs=>⟨z,rfl,?_⟩
  refine Own.append hO hS (Own.src hO1 hS) (by omega) hby fun x' w2 J2 hO2 hS2=>⟨x',rfl,k x' w2 J2 ⟨I,h1,hS2.to⟩ hO2⟩
theorem gs_storeD {i:Int} {d:DeclD} (h:GS u a (J++R) m w) (hO:Own u x ds J) (h0:0≤i) (h1:i < ds.length) (i1:InI d.frm) (i2:InI d.to_) (hy:Read u y d.cons) {K:World→Prop} (k:∀ w' J' (ds':List DeclD),GS u a (J'++R) m w'→Own u x ds' J'→K w'):
    StoreAt w (elA x i 3) 0 [iV d.frm,iV d.to_,y.val] K:=by
  obtain ⟨I,h2,hS⟩:=h
  refine hO.store hS h0 h1 d (Nat.le_of_ble_eq_true rfl) (fun r hr=>?_) fun w' J' hO' hS'=>k w' J' _ ⟨I,h2,hS'.to⟩ hO'
  obtain ⟨f',rfl,_⟩:=hr
  exact ⟨y,rfl,i1,i2,hy⟩
def GDs (u:World) (a:Addr) (R:Items) (m:Int) (r:Value) (w:World):Prop:=∃ z:Sl,r=z.val∧∃ u' ds,Sub u u'∧GS u' a R m w∧Read u' z (ds:List DeclD)
theorem gds (hu:Sub u u') (h:GS u' a (J++R) m w) (hO:Own u' z ds J) (hm:m≤n):GDs u a R n z.val w:=by
  obtain ⟨u2,hu2,h2,hJ⟩:=h.freeze
  exact ⟨z,rfl,u2,ds,hu.trans hu2,h2.le hm,hO.read1 hJ⟩
theorem c_anyDecls (hm:m+1000≤999900000) (h:GS u a R m w):Trip Tryz.prog 39 #[(pt a)] w (GDs u a R (m+100)):=by
  refine of39 _ _ _ ?_
  unfold vc39
  have I0:InI 0:=in64_in rfl
  have I2:InI 2:=in64_in rfl
  have I3:InI 3:=in64_in rfl
  refine (c_goodDecls (by omega) h).mono' ?_
  rintro _ w1 ⟨x,rfl,u1,ds,J,hu1,h,hO,hgd⟩
  have hl:=hgd.len
  have hn:=hO.n
  refine ⟨x,rfl,?_⟩
  refine gs_pick (n:=x.n) h (by omega) (by omega) (by omega) fun k w2 h k0 k1 _=>?_
  have hk:k < ds.length:=by omega
  refine gs_pick h (by omega) (by omega) (by omega) fun j w3 h _ _ _=>?_
  have ix:∀ {u2:World},Own u2 x ds J→IxOk x k:=fun hO=>by
    obtain ⟨rows,q1,q2,_⟩:=hO
    cases q1 with
    | nil=>have:=q2.1;simp at this;omega
    | blk g o n' c cur e' _ hn' hc hm' hs' hr'=>exact ⟨rfl,k0,by simp only [] at *;omega⟩
  refine ⟨fun hc=>?_,fun hc=>⟨fun hc=>?_,fun hc=>⟨fun hc=>?_,fun hc=>⟨fun hc=>?_,fun hc=>⟨fun hc=>?_,fun hc=>⟨fun hc=>?_,fun hc=>gds hu1 h hO (by omega)⟩⟩⟩⟩⟩⟩
  · refine gs_ints h (by (repeat' (first|exact VsOf.nil|apply VsOf.cons|(apply VOf.int;first|assumption|(constructor<;>first|omega|(simp only [lz] at *;omega)))|exact VOf.bool|exact VOf.str))) rfl (by decide) fun x4 w4 u4 hu4 hs4 h hx4=>?_
    refine gs_one h hx4 (by omega) (by simp) (by simp) fun p w5 h hp=>?_
    refine gs_ints h (by (repeat' (first|exact VsOf.nil|apply VsOf.cons|(apply VOf.int;first|assumption|(constructor<;>first|omega|(simp only [lz] at *;omega)))|exact VOf.bool|exact VOf.str))) rfl (by decide) fun x6 w6 u6 hu6 hs6 h hx6=>?_
    refine gs_one h hx6 (by omega) (by simp) (by simp) fun q w7 h hq=>?_
    refine ⟨ix hO,?_⟩
    have hpI:InI p:=by simp only [List.mem_cons,List.not_mem_nil,or_false] at hp;constructor<;>omega
    have hqI:InI q:=by simp only [List.mem_cons,List.not_mem_nil,or_false] at hq;constructor<;>omega
    refine gs_storeD (d:=⟨p,q,[]⟩) (y:=⟨none,0,0⟩) h ((hO.mono hu4).mono hu6) k0 hk hpI hqI ReadB.nil fun w8 J8 ds8 h hO8=>?_
    exact gds (hu1.trans (hu4.trans hu6)) h hO8 (by omega)
  · refine gs_ints h (by (repeat' (first|exact VsOf.nil|apply VsOf.cons|(apply VOf.int;first|assumption|(constructor<;>first|omega|(simp only [lz] at *;omega)))|exact VOf.bool|exact VOf.str))) rfl (by decide) fun x4 w4 u4 hu4 hs4 h hx4=>?_
    refine gs_one h hx4 (by omega) (by simp) (by simp) fun p w5 h hp=>?_
    have hpI:InI p:=by simp only [List.mem_cons,List.not_mem_nil,or_false] at hp;constructor<;>omega
    refine gs_ints h (by (repeat' (first|exact VsOf.nil|apply VsOf.cons|(apply VOf.int;first|assumption|(constructor<;>first|omega|(simp only [lz] at *;omega)))|exact VOf.bool|exact VOf.str))) rfl (by decide) fun a1 w6 u6 hu6 hs6 h ha1=>gs_con ?_
    refine gs_ints h (by (repeat' (first|exact VsOf.nil|apply VsOf.cons|(apply VOf.int;first|assumption|(constructor<;>first|omega|(simp only [lz] at *;omega)))|exact VOf.bool|exact VOf.str))) rfl (by decide) fun a2 w7 u7 hu7 hs7 h ha2=>gs_con ?_
    refine gs_ints (l:=[]) h VsOf.nil rfl (by decide) fun a3 w8 u8 hu8 hs8 h ha3=>gs_con ?_
    refine gs_bld (α:=ConD) (l:=[⟨[p]⟩,⟨[0,0,0,0]⟩,⟨[]⟩]) h (by exact VsOf.cons (vofC (ha1.mono (hu7.trans hu8))) (VsOf.cons (vofC (ha2.mono hu8)) (VsOf.cons (vofC ha3) VsOf.nil))) rfl (by decide) fun b1 w9 u9 hu9 hs9 h hb1=>?_
    refine ⟨ix hO,?_⟩
    have hs:=(hu4.trans hu6).trans ((hu7.trans hu8).trans hu9)
    refine gs_storeD (d:=⟨0,0,_⟩) h (hO.mono hs) k0 hk I0 I0 hb1 fun w10 J10 ds10 h hO10=>?_
    exact gds (hu1.trans hs) h hO10 (by omega)
  · refine go_wr (by omega) (by omega) ?_
    refine gs_ints h (by (repeat' (first|exact VsOf.nil|apply VsOf.cons|(apply VOf.int;first|assumption|(constructor<;>first|omega|(simp only [lz] at *;omega)))|exact VOf.bool|exact VOf.str))) rfl (by decide) fun a1 w6 u6 hu6 hs6 h ha1=>gs_con ?_
    refine gs_bld (α:=ConD) (l:=[⟨_⟩]) h (by exact VsOf.cons (vofC ha1) VsOf.nil) rfl (by decide) fun b1 w9 u9 hu9 hs9 h hb1=>?_
    refine ⟨ix hO,?_⟩
    have hs:=hu6.trans hu9
    refine gs_storeD (d:=⟨0,0,_⟩) h (hO.mono hs) k0 hk I0 I0 hb1 fun w10 J10 ds10 h hO10=>?_
    exact gds (hu1.trans hs) h hO10 (by omega)
  · refine gs_ints h (by (repeat' (first|exact VsOf.nil|apply VsOf.cons|(apply VOf.int;first|assumption|(constructor<;>first|omega|(simp only [lz] at *;omega)))|exact VOf.bool|exact VOf.str))) rfl (by decide) fun x4 w4 u4 hu4 hs4 h hx4=>?_
    refine gs_one h hx4 (by omega) (by simp) (by simp) fun p w5 h hp=>?_
    have hpI:InI p:=by simp only [List.mem_cons,List.not_mem_nil,or_false] at hp;constructor<;>omega
    refine gs_pushL (α:=DeclD) (news:=[⟨2,p,[]⟩]) h (hO.mono hu4) (by exact VsOf.cons (vofD0 I2 hpI) VsOf.nil) rfl (by decide) (by simp;omega) (by decide) fun x6 w6 J6 h hO6=>?_
    exact gds (hu1.trans hu4) h hO6 (by omega)
  · refine gs_pick h (by omega) (by omega) (by omega) fun p w4 h p0 p1 _=>?_
    refine gs_ints (l:=[]) h VsOf.nil rfl (by decide) fun a1 w5 u5 hu5 hs5 h ha1=>gs_con ?_
    refine gs_ints h (by (repeat' (first|exact VsOf.nil|apply VsOf.cons|(apply VOf.int;first|assumption|(constructor<;>first|omega|(simp only [lz] at *;omega)))|exact VOf.bool|exact VOf.str))) rfl (by decide) fun a2 w6 u6 hu6 hs6 h ha2=>gs_con ?_
    refine gs_ints (l:=[]) h VsOf.nil rfl (by decide) fun a3 w7 u7 hu7 hs7 h ha3=>gs_con ?_
    refine gs_ints (l:=[]) h VsOf.nil rfl (by decide) fun a4 w8 u8 hu8 hs8 h ha4=>gs_con ?_
    refine gs_bld (α:=ConD) (l:=[⟨[]⟩,⟨[2]⟩,⟨[]⟩,⟨[]⟩]) h (by exact VsOf.cons (vofC (ha1.mono ((hu6.trans hu7).trans hu8))) (VsOf.cons (vofC (ha2.mono (hu7.trans hu8))) (VsOf.cons (vofC (ha3.mono hu8)) (VsOf.cons (vofC ha4) VsOf.nil)))) rfl (by decide) fun b1 w9 u9 hu9 hs9 h hb1=>?_
    have hbn:b1.n=4:=hb1.n
    refine gs_pick h (by omega) (by omega) (by omega) fun q w10 h q0 q1 _=>?_
    refine ⟨⟨q0,by omega⟩,ix hO,?_⟩
    have hs:=((hu5.trans hu6).trans (hu7.trans hu8)).trans hu9
    have hcut:Read u9 (b1.cut q b1.n 1) _:=hb1.cut (lo:=q) (hi:=b1.n) q0 (by omega) (by rw [hbn];exact Int.le_refl _)
    have hpI:InI p:=⟨by omega,by omega⟩
    refine gs_storeD (d:=⟨p,0,_⟩) h (hO.mono hs) k0 hk hpI I0 hcut fun w11 J11 ds11 h hO11=>?_
    exact gds (hu1.trans hs) h hO11 (by omega)
  · refine gs_pushL (α:=DeclD) (news:=[⟨0,0,[]⟩,⟨3,0,[]⟩]) h hO (by exact VsOf.cons (vofD0 I0 I0) (VsOf.cons (vofD0 I3 I0) VsOf.nil)) rfl (by decide) (by simp;omega) (by decide) fun x6 w6 J6 h hO6=>?_
    exact gds hu1 h hO6 (by omega)
end
structure Sg (v:World) (x s:Sl) (ds:List DeclD) (ss:List SigD):Prop where
  hx:Read v x ds
  hs:Read v s ss
  sg:sigSigs ds ss
theorem Sg.mono {v w:World} {x y:Sl} {ds:List DeclD} {ss:List SigD} (h:Sg v x y ds ss) (hs:Sub v w):Sg w x y ds ss:=⟨h.hx.mono hs,h.hs.mono hs,h.sg⟩
def StR (op n:Int) (q:Bool) (o:Option Int):Prop:=(q=true→(∃ t,o=some t)∧(¬ isCnt op→o=some n))∧(q=false→o=none)
theorem StR.of {op n:Int} {q:Bool} {o:Option Int} (h:TyR n q o):StR op n q o:=⟨fun hq=>⟨⟨n,h.1 hq⟩,fun _=>h.1 hq⟩,h.2⟩
section

end
def nrmOk (ds:List DeclD) (rs:List RoutD):Prop:=sigSigs ds (rs.map sgOf)∧∀ i:Int,0≤i→i < rs.length→cntB (nth rs i).body≤600∧blkT ds (rs.map sgOf) (nth rs i).params (nth rs i).body=some (nth rs i).result
def CntP (b:BlockD):Prop:=∀ (v:World) (xs:Sl) (left:Int),Read v xs b.steps→0≤left→left≤600→Fn Tryz.prog 28 #[.agg #[xs.val,iV b.result],iV left] v (iV (if (cntB b:Int)≤left then left - cntB b else -1))
def CntQ (b:BlockD):Prop:=∀ (u w:World) (xs:Sl) (n:Int) (a:Addr) (I R:Items),Read u xs b.steps→0≤n→n≤600→Cel a [iV n] I→St u w (I++R)→
  Trip Tryz.prog 18 #[.agg #[xs.val,iV b.result],(pt a)] w fun r w'=>(n+cntB b≤600→r=.bool true∧∃ I',Cel a [iV (n+cntB b)] I'∧St u w' (I'++R))∧(600 < n+cntB b→r=.bool false∧Sub u w')
section
variable {u v w:World} {xs:Sl} {n i left:Int} {b:BlockD} {kids:List BlockD} {a:Addr} {I R:Items}
theorem drop_cons {α:Type} [Inhabited α] {l:List α} {i:Int} (h0:0≤i) (h1:i < l.length):l.drop i.toNat=nth l i ::l.drop (i+1).toNat:=by
  rw [show (i+1).toNat=i.toNat+1 from by omega]
  have:=nth_get h0 h1
  rw [List.drop_eq_getElem_cons (by omega)]
  congr 1
  rw [List.getElem?_eq_getElem (by omega)] at this
  exact Option.some.inj this
theorem drop_end {α:Type} {l:List α} {i:Int} (h1:(l.length:Int)≤i):l.drop i.toNat=[]:=List.drop_eq_nil_of_le (by omega)
theorem cntL_nil:cntL []=0:=by rw [cntL]
theorem cntK_nil:cntK []=0:=by rw [cntK]
theorem c_stepsLeft (b:BlockD):CntP b:=by
  refine blk_ind (P:=CntP) (fun b ih=>?_) b
  intro v xs left hxs h0 h6
  refine of28 _ _ _ _ _ ?_
  unfold vc28
  have hxn:=hxs.n
  have hxl:=hxs.le
  rw [cntB_eq]
  refine ⟨fun l i w=>w=v∧0≤i∧i≤b.steps.length∧0≤l∧l≤600∧l+cntL b.steps=left+cntL (b.steps.drop i.toNat),fun _ i _=>(b.steps.length - i).toNat,⟨rfl,by omega,by omega,h0,h6,by rfl⟩,?_⟩
  rintro l i _ ⟨rfl,i0,i1,l0,l1,hl⟩
  dsimp only
  refine ⟨fun hc=>?_,fun hc=>?_⟩
  · simp only [bls] at hc
    have hil:i < b.steps.length:=by omega
    have hmem:=nth_mem (l:=b.steps) i0 hil
    rw [drop_cons i0 hil,cntL_cons,cntS_eq] at hl
    obtain ⟨f1,f2,e1,e2,e3,e4,e5,j1,j2,j3,r1,r2⟩:=(hxs.src (.refl _)).ofStepD i0 hil
    have r2n:=r2.n
    have r2l:=r2.le
    refine ⟨fun hq=>⟨?_,.refl _⟩,fun hq=>?_⟩
    · simp only [bls] at hq
      rw [if_neg (by omega)]
    simp only [bls] at hq
    refine go_wr (by omega) (by omega) ?_
    rename_i v
    refine ⟨fun l' k w=>w=v∧0≤k∧k≤(nth b.steps i).kids.length∧0≤l'∧l'≤600∧l'+cntK (nth b.steps i).kids=l - 1+cntK ((nth b.steps i).kids.drop k.toNat),fun _ k _=>((nth b.steps i).kids.length - k).toNat,⟨rfl,by omega,by omega,by omega,by omega,by rfl⟩,?_⟩
    rintro l' k _ ⟨rfl,k0,k1,p0,p1,hk⟩
    dsimp only
    refine go_ix hxs i0 hil ?_
    refine ⟨f2,e5,fun hc=>?_,fun hc=>?_⟩
    · simp only [bls] at hc
      have hkl:k < (nth b.steps i).kids.length:=by omega
      have hmk:=nth_mem (l:=(nth b.steps i).kids) k0 hkl
      rw [drop_cons k0 hkl,cntK_cons] at hk
      obtain ⟨g1,d1,d2,m1,t1⟩:=(r2.src (.refl _)).ofBlockD k0 hkl
      refine go_ix hxs i0 hil ?_
      refine ⟨f2,e5,?_⟩
      refine go_ix r2 k0 hkl ?_
      refine ⟨g1,_,⟨d1,d2⟩,_,ih _ hmem _ hmk _ _ _ t1 p0 p1,fun hq=>⟨?_,.refl _⟩,fun hq=>?_⟩
      · simp only [bls] at hq
        have hgt:¬ ((cntB (nth (nth b.steps i).kids k):Int)≤l'):=fun hh=>by rw [if_pos hh] at hq;omega
        rw [if_neg (by omega)]
      · simp only [bls] at hq
        have hle:(cntB (nth (nth b.steps i).kids k):Int)≤l':=Classical.byContradiction fun hh=>by rw [if_neg hh] at hq;omega
        rw [if_pos hle] at hq ⊢
        refine go_wr (by omega) (by omega) ?_
        exact ⟨rfl,rfl,⟨rfl,by omega,by omega,by omega,by omega,by omega⟩,by omega⟩
    · simp only [bls] at hc
      rw [drop_end (by omega),cntK_nil] at hk
      refine go_wr (by omega) (by omega) ?_
      exact ⟨rfl,rfl,⟨rfl,by omega,by omega,by omega,by omega,by omega⟩,by omega⟩
  · simp only [bls] at hc
    rw [drop_end (by omega),cntL_nil] at hl
    refine ⟨?_,.refl _⟩
    rw [if_pos (by omega)]
    congr 1;omega
theorem c_stepsOf (hxs:Read v xs b.steps):Fn Tryz.prog 19 #[.agg #[xs.val,iV b.result]] v (iV (if cntB b≤600 then cntB b else -1)):=by
  refine of19 _ _ _ _ ?_
  unfold vc19
  refine ⟨_,c_stepsLeft b v xs 600 hxs (by omega) (by omega),fun hq=>⟨?_,.refl v⟩,fun hq=>?_⟩
  · simp only [bls] at hq
    rw [if_neg fun hh=>by rw [if_pos (by omega)] at hq;omega]
  · simp only [bls] at hq
    have hle:cntB b≤600:=Classical.byContradiction fun hh=>by rw [if_neg (by omega)] at hq;omega
    rw [if_pos (by omega)] at hq ⊢
    refine go_wr (by omega) (by omega) ?_
    refine ⟨?_,.refl v⟩
    rw [if_pos hle]
    congr 1;omega
theorem c_countSteps (b:BlockD):CntQ b:=by
  refine blk_ind (P:=CntQ) (fun b ih=>?_) b
  intro u w xs n a I R hxs h0 h6 hC hS
  refine of18 _ _ _ _ _ ?_
  unfold vc18
  have hxn:=hxs.n
  have hxl:=hxs.le
  rw [cntB_eq]
  refine ⟨fun i w=>∃ (I:Items) (m:Int),Cel a [iV m] I∧St u w (I++R)∧0≤i∧i≤b.steps.length∧0≤m∧m≤600∧m+cntL (b.steps.drop i.toNat)=n+cntL b.steps,fun i _=>(b.steps.length - i).toNat,⟨I,n,hC,hS,by omega,by omega,h0,h6,by rfl⟩,?_⟩
  clear hC hS
  rintro i w ⟨I,m,hC,hS,i0,i1,m0,m1,hm⟩
  dsimp only
  refine ⟨fun hc=>?_,fun hc=>?_⟩
  · simp only [bls] at hc
    have hil:i < b.steps.length:=by omega
    have hmem:=nth_mem (l:=b.steps) i0 hil
    rw [drop_cons i0 hil,cntL_cons,cntS_eq] at hm
    obtain ⟨f1,f2,e1,e2,e3,e4,e5,j1,j2,j3,r1,r2⟩:=(hxs.src hS.sub).ofStepD i0 hil
    have r2n:=r2.n
    have r2l:=r2.le
    refine go_ix hxs i0 hil ?_
    refine ⟨_,_,_,f1,f2,⟨e1,e2,e3,e4,e5⟩,_,hC.load hS rfl,?_⟩
    refine go_wr (by omega) (by omega) ?_
    refine hC.store hS (by simp) ?_
    intro w1 I1 hC hS
    simp [putR] at hC
    refine ⟨_,hC.load hS rfl,fun hq=>?_,fun hq=>?_⟩
    · simp only [bls] at hq
      exact ⟨fun hh=>by omega,fun _=>⟨rfl,hS.sub⟩⟩
    simp only [bls] at hq
    refine ⟨fun k w=>∃ (I:Items) (m':Int),Cel a [iV m'] I∧St u w (I++R)∧0≤k∧k≤(nth b.steps i).kids.length∧0≤m'∧m'≤600∧m'+cntK ((nth b.steps i).kids.drop k.toNat)=m+1+cntK (nth b.steps i).kids,fun k _=>((nth b.steps i).kids.length - k).toNat,⟨I1,m+1,hC,hS,by omega,by omega,by omega,by omega,by rfl⟩,?_⟩
    clear hC hS
    rintro k w2 ⟨I2,m',hC,hS,k0,k1,p0,p1,hk⟩
    dsimp only
    refine ⟨fun hc=>?_,fun hc=>?_⟩
    · simp only [bls] at hc
      have hkl:k < (nth b.steps i).kids.length:=by omega
      have hmk:=nth_mem (l:=(nth b.steps i).kids) k0 hkl
      rw [drop_cons k0 hkl,cntK_cons] at hk
      obtain ⟨g1,d1,d2,q1,t1⟩:=(r2.src hS.sub).ofBlockD k0 hkl
      refine go_ix r2 k0 hkl ?_
      refine ⟨g1,_,⟨d1,d2⟩,?_⟩
      refine (ih _ hmem _ hmk _ _ _ _ _ _ _ t1 p0 p1 hC hS).mono' ?_
      rintro r w3 ⟨hA,hB⟩
      rcases Int.lt_or_le 600 (m'+cntB (nth (nth b.steps i).kids k)) with hgt|hle
      · obtain ⟨rfl,hs3⟩:=hB hgt
        refine ⟨false,rfl,fun _=>⟨fun hh=>by omega,fun _=>⟨rfl,hs3⟩⟩,fun hq=>(by cases hq)⟩
      · obtain ⟨rfl,I3,hC3,hS3⟩:=hA hle
        refine ⟨true,rfl,fun hq=>(by cases hq),fun _=>?_⟩
        refine go_wr (by omega) (by omega) ?_
        exact ⟨rfl,rfl,rfl,rfl,rfl,rfl,rfl,⟨I3,_,hC3,hS3,by omega,by omega,by omega,by omega,by omega⟩,by omega⟩
    · simp only [bls] at hc
      rw [drop_end (by omega),cntK_nil] at hk
      refine go_wr (by omega) (by omega) ?_
      exact ⟨rfl,rfl,⟨I2,m',hC,hS,by omega,by omega,by omega,by omega,by omega⟩,by omega⟩
  · simp only [bls] at hc
    rw [drop_end (by omega),cntL_nil] at hm
    have e:m=n+cntL b.steps:=by omega
    subst e
    exact ⟨fun _=>⟨rfl,I,hC,hS⟩,fun hh=>by omega⟩
theorem c_implStepsOf (hxs:Read v xs b.steps):Fn Tryz.prog 7 #[.agg #[xs.val,iV b.result]] v (iV (if cntB b≤600 then cntB b else -1)):=by
  refine of7 _ _ _ _ ?_
  unfold vc7
  refine St.box (vals:=[iV 0]) (St.refl v) fun a w1 I1 hC hS hs=>?_
  refine hC.store hS (by simp) ?_
  intro w2 I2 hC hS
  simp [putR] at hC
  refine (c_countSteps b v w2 xs 0 a I2 [] hxs (by omega) (by omega) hC hS).mono' ?_
  rintro r w3 ⟨hA,hB⟩
  by_cases hle:cntB b≤600
  · obtain ⟨rfl,I3,hC3,hS3⟩:=hA (by omega)
    refine ⟨true,rfl,fun hq=>(by cases hq),fun _=>⟨_,hC3.load hS3 rfl,?_,hS3.sub⟩⟩
    rw [if_pos hle]
    congr 1;omega
  · obtain ⟨rfl,hs3⟩:=hB (by omega)
    refine ⟨false,rfl,fun _=>⟨?_,hs3⟩,fun hq=>(by cases hq)⟩
    rw [if_neg hle]
end
section
variable {P:Program} {f:FuncId} {args:Array Value} {u u' w:World} {L J R:Items} {K:Value→World→Prop}
def Fz (P:Program) (f:FuncId) (args:Array Value) (u:World) (Φ:Value→World→Prop):Prop:=Trip P f args u fun r u'=>Sub u u'∧Φ r u'
theorem Fz.use {Φ:Value→World→Prop} (h:Fz P f args u Φ) (hS:St u w L) (k:∀ r w' u',Sub u u'→Sub w w'→St u' w' L→Φ r u'→K r w'):Trip P f args w K:=
  Trip.fr h hS fun r u' w' ⟨h1,h2⟩ h3 h4=>k r w' u' h1 (h4 h1) h3 h2
def Fo (P:Program) (f:FuncId) (args:Array Value) (u:World) (Φ:Value→World→Items→Prop):Prop:=Trip P f args u fun r w'=>∃ u' J,Sub u u'∧St u' w' J∧Φ r u' J
theorem Fo.use {Φ:Value→World→Items→Prop} (h:Fo P f args u Φ) (hS:St u w L) (k:∀ r w' u' J,Sub u u'→Sub w w'→St u' w' (J++L)→Φ r u' J→K r w'):Trip P f args w K:=
  Trip.fr h hS fun r v' w' ⟨u',J,h1,h2,h5⟩ h3 h4=>k r w' u' J h1 (h4 (h1.trans h2.sub)) (h2.glue h3) h5
theorem Mk.fz {α:Type} [Dat α] {l:List α} (h:Mk P f args u fun r J=>∃ y:Sl,r=y.val∧Own u y l J):Fz P f args u fun r u'=>∃ y:Sl,r=y.val∧Read u' y l:=
  h.mono' fun r w' ⟨J,h1,y,h2,h3⟩=>⟨h1.sub,y,h2,h3.read1 h1⟩
theorem st_push {α:Type} [Dat α] {t bytes:Nat} {zc:List Value} [hT:SlT P t (Dat.sz α) bytes zc] {l:List α} {y:Sl} {e:α} {ev:Value} (hS:St u w (J++R)) (hO:Own u y l J) (hv:VOf u ev e) (hb:l.length+1≤1099511627776) (hsz:Dat.sz α≤128) (hby:bytes≤128) {K:Sl→World→Prop} (k:∀ y' w' J',St u w' (J'++R)→Own u y' (l++[e]) J'→K y' w'):
    StepT P (Instr.buildSlice t 1 #[(0,ev)]) w fun r1 w1=>∃ z:Sl,r1=z.val∧StepT P (Builtin.append_ #[t,t] t #[y.val,z.val]) w1 fun r2 w2=>∃ y':Sl,r2=y'.val∧K y' w2:=by
  refine St.build (α:=α) (l:=[e]) hS (by exact VsOf.cons hv VsOf.nil) rfl (by omega) fun z w1 J1 hO1 hS1 hs=>⟨z,rfl,?_⟩
  exact Own.append hO hS1 (Own.src hO1 hS1) (by simpa using hb) hby fun y' w2 J2 hO2 hS2=>⟨y',rfl,k y' w2 J2 hS2.to hO2⟩
theorem st_pushS {α:Type} [Dat α] {t bytes:Nat} {zc:List Value} [hT:SlT P t (Dat.sz α) bytes zc] {l:List α} {y:Sl} {e:α} {ev:Value} (hS:St u w (J++R)) (hO:Own u y l J) (hv:VOf u ev e) (hb:l.length+1≤1099511627776) (hsz:Dat.sz α≤128) (hby:bytes≤128) {K:Sl→World→Prop} (k:∀ y' w' J',St u w' (J'++R)→Own u y' (l++[e]) J'→K y' w'):
    StepT P (Instr.buildSlice t 1 #[(0,ev)]) w fun r1 w1=>∃ z:Sl,r1=z.val∧Sub w w1∧StepT P (Builtin.append_ #[t,t] t #[y.val,z.val]) w1 fun r2 w2=>∃ y':Sl,r2=y'.val∧K y' w2:=by
  refine St.build (α:=α) (l:=[e]) hS (by exact VsOf.cons hv VsOf.nil) rfl (by omega) fun z w1 J1 hO1 hS1 hs=>⟨z,rfl,hs,?_⟩
  exact Own.append hO hS1 (Own.src hO1 hS1) (by simpa using hb) hby fun y' w2 J2 hO2 hS2=>⟨y',rfl,k y' w2 J2 hS2.to hO2⟩
theorem st_bld {α:Type} [Dat α] {t bytes c:Nat} {zc:List Value} [hT:SlT P t (Dat.sz α) bytes zc] {l:List α} {ps:Array (Nat×Value)} (hS:St u w L) (hv:VsOf u (ps.toList.map (·.2)) l) (hi:ps.toList.map (·.1)=List.range c) (hsz:c * Dat.sz α≤16777216) {K:Sl→World→Prop} (k:∀ y w' u',Sub u u'→Sub w w'→St u' w' L→Read u' y l→K y w'):
    StepT P (Instr.buildSlice t c ps) w fun r1 w1=>∃ z:Sl,r1=z.val∧K z w1:=by
  refine St.build (α:=α) hS hv hi hsz fun z w1 J hO hS hs=>⟨z,rfl,?_⟩
  obtain ⟨u2,hu,hS2,hJ⟩:=hS.freeze J
  exact k z w1 u2 hu hs hS2 (hO.read1 hJ)
theorem st_own {α:Type} [Dat α] {t bytes c:Nat} {zc:List Value} [hT:SlT P t (Dat.sz α) bytes zc] {l:List α} {ps:Array (Nat×Value)} (hS:St u w L) (hv:VsOf u (ps.toList.map (·.2)) l) (hi:ps.toList.map (·.1)=List.range c) (hsz:c * Dat.sz α≤16777216) {K:Sl→World→Prop} (k:∀ y w' J,Sub w w'→St u w' (J++L)→Own u y l J→K y w'):
    StepT P (Instr.buildSlice t c ps) w fun r1 w1=>∃ z:Sl,r1=z.val∧K z w1:=
  St.build (α:=α) hS hv hi hsz fun z w1 J hO hS hs=>⟨z,rfl,k z w1 J hs hS hO⟩
end
section
variable {u u' v w:World} {x y xa xk xs px lx:Sl} {J:Items} {m n op num into result:Int} {l args params lent:List Int} {kids:List BlockD} {steps:List StepD} {b:BlockD} {c:StepD}
theorem vofS (h1:InI op) (h2:InI num) (h3:InI into) (ha:Read u xa args) (hk:Read u xk kids):VOf u (.agg #[iV op,iV num,iV into,xa.val,xk.val]) (⟨op,num,into,args,kids⟩:StepD):=⟨rfl,step_cells.2 ⟨xa,xk,rfl,h1,h2,h3,ha,hk⟩⟩
theorem vofB (h1:InI result) (hs:Read u xs steps):VOf u (.agg #[xs.val,iV result]) (⟨steps,result⟩:BlockD):=⟨rfl,block_cells.2 ⟨xs,rfl,h1,hs⟩⟩
theorem vofSc (h1:InI c.op) (h2:InI c.num) (h3:InI c.into) (ha:Read u xa c.args) (hk:Read u xk c.kids):VOf u (.agg #[iV c.op,iV c.num,iV c.into,xa.val,xk.val]) c:=⟨rfl,step_cells.2 ⟨xa,xk,rfl,h1,h2,h3,ha,hk⟩⟩
theorem vofBb (h1:InI b.result) (hs:Read u xs b.steps):VOf u (.agg #[xs.val,iV b.result]) b:=⟨rfl,block_cells.2 ⟨xs,rfl,h1,hs⟩⟩
theorem cutOkD {α:Type} [Dat α] {l:List α} (h:Read w x l) (h0:0≤n) (h1:n≤l.length):CutOk x 0 n:=⟨by omega,h0,by have h3:=h.n;obtain ⟨_,hr,_⟩:=h;have h2:=hr.2.1;omega⟩
theorem vofR (h1:InI result) (h2:InI b.result) (hp:Read u px params) (hl:Read u lx lent) (hs:Read u xs b.steps):VOf u (.agg #[px.val,lx.val,iV result,xs.val,iV b.result]) (⟨params,lent,result,b⟩:RoutD):=⟨rfl,px,lx,xs,rfl,h1,h2,hp,hl,hs⟩
theorem c_isCountingS:Fn Tryz.prog 31 #[iV n] v (.bool (decide (14≤n) && decide (n≤17))):=by
  refine of31 _ _ _ ?_
  unfold vc31
  exact ⟨_,c_inRange,rfl,.refl v⟩
theorem c_isPair:Fn Tryz.prog 92 #[.agg #[iV op,iV num,iV into,xa.val,xk.val]] v (.bool (decide (op=14) || decide (op=15))):=by
  refine of92 _ _ _ _ _ _ _ ?_
  unfold vc92
  exact ⟨rfl,.refl v⟩
theorem c_counting (hn:InI n):Fz Tryz.prog 55 #[iV op,iV n] u fun r u'=>∃ xa xk:Sl,r=.agg #[iV op,iV 0,iV 0,xa.val,xk.val]∧Read u' xa [n]∧Read u' xk ([]:List BlockD):=by
  refine of55 _ _ _ _ ?_
  unfold vc55
  refine st_bld (α:=Int) (l:=[n]) (.refl u) (by exact VsOf.cons (VOf.int hn) VsOf.nil) rfl (by decide) fun xa w1 u1 hu1 hs1 hS hxa=>?_
  refine st_bld (α:=BlockD) (l:=[]) hS VsOf.nil rfl (by decide) fun xk w2 u2 hu2 hs2 hS hxk=>?_
  exact ⟨hu1.trans (hu2.trans hS.sub),xa,xk,rfl,(hxa.mono hu2).mono hS.sub,hxk.mono hS.sub⟩
def ctgS (op:Int) (l:List Int):List StepD:=l.map fun n=>⟨op,0,0,[n],[]⟩
theorem cntS_take (h0:0≤n) (h1:n < l.length):ctgS op (l.take (n+1).toNat)=ctgS op (l.take n.toNat)++[⟨op,0,0,[nth l n],[]⟩]:=by
  unfold ctgS
  rw [take_nth h0 h1,List.map_append]
  rfl
theorem c_countings (hop:InI op) (hx:Read u x l):Fo Tryz.prog 112 #[iV op,x.val] u fun r u' J=>∃ y:Sl,r=y.val∧Own u' y (ctgS op l) J:=by
  refine of112 _ _ _ _ ?_
  unfold vc112
  have hxn:=hx.n
  have hxl:=hx.le
  refine st_own (α:=StepD) (l:=[]) (.refl u) VsOf.nil rfl (by decide) fun y0 w0 J0 hs0 hS hO=>?_
  refine ⟨fun y i w=>∃ (u1:World) (J:Items),Sub u u1∧St u1 w (J++[])∧Own u1 y (ctgS op (l.take i.toNat)) J∧0≤i∧i≤l.length,fun _ i _=>(l.length - i).toNat,⟨u,J0,.refl u,hS,by simpa [ctgS] using hO,by omega,by omega⟩,?_⟩
  clear hS hO hs0
  rintro y i w ⟨u1,J,hu1,hS,hO,i0,i1⟩
  dsimp only
  refine ⟨fun hc=>?_,fun hc=>?_⟩
  · simp only [bls] at hc
    have hil:i < l.length:=by omega
    refine go_ix hx i0 hil ?_
    refine ld_int ((hx.mono hu1).mono hS.sub) i0 hil ?_
    intro hlo hhi
    refine (c_counting ⟨hlo,hhi⟩).use hS ?_
    rintro _ w2 u2 hu2 hs2 hS ⟨xa,xk,rfl,ha,hk⟩
    refine ⟨_,_,_,xa,xk,rfl,?_⟩
    refine st_push (α:=StepD) hS (hO.mono hu2) (vofS hop (in64_in rfl) (in64_in rfl) ha hk) (by simp [ctgS];omega) (by decide) (by decide) fun y' w3 J3 hS hO=>?_
    refine go_wr (by omega) (by omega) ?_
    exact ⟨⟨u2,J3,hu1.trans hu2,hS,by rw [cntS_take i0 hil];exact hO,by omega,by omega⟩,by omega⟩
  · simp only [bls] at hc
    refine ⟨u1,J,hu1,by simpa using hS,y,rfl,?_⟩
    rw [List.take_of_length_le (by omega)] at hO
    exact hO
def numsF (first many:Int):List Int:=(List.range many.toNat).map fun i:Nat=>first+(i:Int)
theorem numsF_len:(numsF n m).length=m.toNat:=by simp [numsF]
theorem numsF_succ (h:0≤m):numsF n (m+1)=numsF n m++[n+m]:=by
  unfold numsF
  rw [show (m+1).toNat=m.toNat+1 by omega,List.range_succ,List.map_append]
  simp
  omega
theorem numsF_mem {i:Int} (h:i∈numsF n m):n≤i∧i < n+m:=by
  unfold numsF at h
  obtain ⟨j,hj,rfl⟩:=List.mem_map.1 h
  rw [List.mem_range] at hj
  omega
theorem c_numbersFrom (h0:-1000000000000≤n) (h1:n≤1000000000000) (m0:0≤m) (m1:m≤1000000000000):Fo Tryz.prog 59 #[iV n,iV m] u fun r u' J=>∃ y:Sl,r=y.val∧Own u' y (numsF n m) J:=by
  refine of59 _ _ _ _ ?_
  unfold vc59
  refine st_own (α:=Int) (l:=[]) (.refl u) VsOf.nil rfl (by decide) fun y0 w0 J0 hs0 hS hO=>?_
  refine ⟨fun y i w=>∃ (J:Items),St u w (J++[])∧Own u y (numsF n i) J∧0≤i∧i≤m,fun _ i _=>(m - i).toNat,⟨J0,hS,by simpa [numsF] using hO,by omega,by omega⟩,?_⟩
  clear hS hO hs0
  rintro y i w ⟨J,hS,hO,i0,i1⟩
  dsimp only
  refine ⟨fun hc=>?_,fun hc=>?_⟩
  · simp only [bls] at hc
    refine go_wr (by omega) (by omega) ?_
    refine st_push (α:=Int) hS hO (VOf.int ⟨by omega,by omega⟩) (by rw [numsF_len];omega) (by decide) (by decide) fun y' w3 J3 hS hO=>?_
    refine go_wr (by omega) (by omega) ?_
    exact ⟨⟨J3,hS,by rw [numsF_succ i0];exact hO,by omega,by omega⟩,by omega⟩
  · simp only [bls] at hc
    have e:i=m:=by omega
    subst e
    exact ⟨u,J,.refl u,by simpa using hS,y,rfl,hO⟩
end
def CpB (b:BlockD):Prop:=∀ (u:World) (xs:Sl),Read u xs b.steps→InI b.result→Fo Tryz.prog 53 #[.agg #[xs.val,iV b.result]] u fun r u' J=>∃ y:Sl,r=.agg #[y.val,iV b.result]∧Own u' y b.steps J
section
variable {u u' w:World} {x y z f xa xk xs px lx:Sl} {J:Items} {m n op num into result:Int} {l k args params lent:List Int} {kids:List BlockD} {steps:List StepD} {b:BlockD} {c:StepD}
theorem c_copyStepH (H:∀ k∈c.kids,CpB k) (i1:InI c.op) (i2:InI c.num) (i3:InI c.into) (ha:Read u xa c.args) (hk:Read u xk c.kids):Fo Tryz.prog 72 #[.agg #[iV c.op,iV c.num,iV c.into,xa.val,xk.val]] u fun r u' J=>∃ (ya yk:Sl) (Ja Jk:Items),r=.agg #[iV c.op,iV c.num,iV c.into,ya.val,yk.val]∧J=Ja++Jk∧Own u' ya c.args Ja∧Own u' yk c.kids Jk:=by
  refine of72 _ _ _ _ _ _ _ ?_
  unfold vc72
  have hkn:=hk.n
  have hkl:=hk.le
  refine st_own (α:=BlockD) (l:=[]) (.refl u) VsOf.nil rfl (by decide) fun y0 w0 J0 hs0 hS hO=>?_
  refine ⟨fun y i w=>∃ (u1:World) (J:Items),Sub u u1∧St u1 w (J++[])∧Own u1 y (c.kids.take i.toNat) J∧0≤i∧i≤c.kids.length,fun _ i _=>(c.kids.length - i).toNat,⟨u,J0,.refl u,hS,by simpa using hO,by omega,by omega⟩,?_⟩
  clear hS hO hs0
  rintro y i w ⟨u1,J,hu1,hS,hO,j0,j1⟩
  dsimp only
  refine ⟨fun hc=>?_,fun hc=>?_⟩
  · simp only [bls] at hc
    have hil:i < c.kids.length:=by omega
    obtain ⟨f,e1,e2,hr,hf⟩:=((hk.mono hu1).src hS.sub).ofBlockD j0 hil
    refine go_ix hk j0 hil ?_
    refine ⟨f,_,⟨e1,e2⟩,?_⟩
    refine (H _ (nth_mem j0 hil) u1 f hf hr).use hS ?_
    rintro _ w2 u2 J2 hu2 hs2 hS ⟨y2,rfl,hO2⟩
    refine ⟨y2,_,rfl,?_⟩
    obtain ⟨u3,hu3,hS,hJ⟩:=hS.freeze J2
    refine st_push (α:=BlockD) hS ((hO.mono hu2).mono hu3) (vofBb hr (hO2.read1 hJ)) (by simp;omega) (by decide) (by decide) fun y' w3 J3 hS hO=>?_
    refine go_wr (by omega) (by omega) ?_
    exact ⟨rfl,rfl,rfl,rfl,rfl,rfl,rfl,rfl,rfl,rfl,⟨u3,J3,hu1.trans (hu2.trans hu3),hS,by rw [take_nth j0 hil];exact hO,by omega,by omega⟩,by omega⟩
  · simp only [bls] at hc
    rw [List.take_of_length_le (by omega)] at hO
    refine Mk.use (c_copyInts (ha.mono hu1)) hS ?_
    rintro _ w2 Ja ⟨ya,rfl,hOa⟩ hS hs2
    exact ⟨ya,rfl,hs2,u1,Ja++J,hu1,by simpa using hS,ya,y,Ja,J,rfl,rfl,hOa,hO⟩
theorem c_copyBlock (b:BlockD):CpB b:=by
  refine blk_ind (P:=CpB) (fun b H=>?_) b
  intro u xs hx hr
  refine of53 _ _ _ _ ?_
  unfold vc53
  have hxn:=hx.n
  have hxl:=hx.le
  refine st_own (α:=StepD) (l:=[]) (.refl u) VsOf.nil rfl (by decide) fun y0 w0 J0 hs0 hS hO=>?_
  refine ⟨fun i y w=>∃ (u1:World) (J:Items),Sub u u1∧St u1 w (J++[])∧Own u1 y (b.steps.take i.toNat) J∧0≤i∧i≤b.steps.length,fun i _ _=>(b.steps.length - i).toNat,⟨u,J0,.refl u,hS,by simpa using hO,by omega,by omega⟩,?_⟩
  clear hS hO hs0
  rintro i y w ⟨u1,J,hu1,hS,hO,j0,j1⟩
  dsimp only
  refine ⟨fun hc=>?_,fun hc=>?_⟩
  · simp only [bls] at hc
    have hil:i < b.steps.length:=by omega
    obtain ⟨f,g,e1,e2,e3,e4,e5,i1,i2,i3,hf,hg⟩:=((hx.mono hu1).src hS.sub).ofStepD j0 hil
    refine go_ix hx j0 hil ?_
    refine ⟨_,_,_,f,g,⟨e1,e2,e3,e4,e5⟩,?_⟩
    refine (c_copyStepH (H _ (nth_mem j0 hil)) i1 i2 i3 hf hg).use hS ?_
    rintro _ w2 u2 J2 hu2 hs2 hS ⟨ya,yk,Ja,Jk,rfl,rfl,hOa,hOk⟩
    refine ⟨_,_,_,ya,yk,rfl,hs2,?_⟩
    obtain ⟨u3,hu3,hS,hJ⟩:=hS.freeze (Ja++Jk)
    refine st_pushS (α:=StepD) hS ((hO.mono hu2).mono hu3) (vofSc i1 i2 i3 (hOa.read1 hJ.left) (hOk.read1 hJ.right)) (by simp;omega) (by decide) (by decide) fun y' w3 J3 hS hO=>?_
    refine go_wr (by omega) (by omega) ?_
    exact ⟨rfl,rfl,rfl,rfl,rfl,⟨u3,J3,hu1.trans (hu2.trans hu3),hS,by rw [take_nth j0 hil];exact hO,by omega,by omega⟩,by omega⟩
  · simp only [bls] at hc
    rw [List.take_of_length_le (by omega)] at hO
    exact ⟨u1,J,hu1,by simpa using hS,y,rfl,hO⟩
theorem c_withBody (hp:Read u px params) (hl:Read u lx lent):Fz Tryz.prog 49 #[.agg #[px.val,lx.val,iV result,xs.val,iV m],.agg #[x.val,iV n]] u fun r u'=>∃ py ly:Sl,r=.agg #[py.val,ly.val,iV result,x.val,iV n]∧Read u' py params∧Read u' ly lent:=by
  refine of49 _ _ _ _ _ _ _ _ _ ?_
  unfold vc49
  refine (Mk.fz (c_copyInts hp)).use (.refl u) ?_
  rintro _ w1 u1 hu1 hs1 hS ⟨py,rfl,hpy⟩
  refine ⟨py,rfl,hs1,?_⟩
  refine (Mk.fz (c_copyInts (hl.mono hu1))).use hS ?_
  rintro _ w2 u2 hu2 hs2 hS ⟨ly,rfl,hly⟩
  exact ⟨ly,rfl,hs2,hu1.trans (hu2.trans hS.sub),py,ly,rfl,(hpy.mono hu2).mono hS.sub,hly.mono hS.sub⟩
theorem c_putStep (hx:Read u xs steps) (h0:0≤n) (h1:n≤steps.length) (i1:InI c.op) (i2:InI c.num) (i3:InI c.into) (ha:Read u xa c.args) (hk:Read u xk c.kids) (hl:steps.length+1≤1099511627776):Fz Tryz.prog 54 #[.agg #[xs.val,iV result],iV n,.agg #[iV c.op,iV c.num,iV c.into,xa.val,xk.val]] u fun r u'=>∃ y:Sl,r=.agg #[y.val,iV result]∧Read u' y (steps.take n.toNat++[c]++steps.drop n.toNat):=by
  refine of54 _ _ _ _ _ _ _ _ _ _ ?_
  unfold vc54
  have hxn:=hx.n
  have hxc1:=hx.cut (lo:=0) (hi:=n) (by omega) (by omega) (by omega)
  have hxc2:=hx.cut (lo:=n) (hi:=steps.length) (by omega) (by omega) (by omega)
  have e1:(steps.take n.toNat).drop (0:Int).toNat=steps.take n.toNat:=rfl
  have e2:(steps.take (steps.length:Int).toNat).drop n.toNat=steps.drop n.toNat:=by rw [List.take_of_length_le (by omega)]
  rw [e1] at hxc1
  rw [e2] at hxc2
  refine st_own (α:=StepD) (l:=[]) (.refl u) VsOf.nil rfl (by decide) fun y0 w0 J0 hs0 hS hO=>?_
  refine ⟨cutOkD hx h0 h1,?_⟩
  refine Own.append hO hS (hxc1.src hS.sub) (by simp;omega) (by decide) fun y1 w1 J1 hO hS=>⟨y1,rfl,?_⟩
  have hv:VOf u (.agg #[iV c.op,iV c.num,iV c.into,xa.val,xk.val]) c:=vofSc i1 i2 i3 ha hk
  have hb:([]++steps.take n.toNat).length+1≤1099511627776:=by simp;omega
  have ok:(0:Int)≤n∧n≤(xs.n:Int):=⟨h0,by omega⟩
  have fin:∀ {y':Sl} {w':World} {J':Items},St u w' (J'++[])→Own u y' ([]++steps.take n.toNat++[c]) J'→StepT Tryz.prog (Builtin.append_ #[23,23] 23 #[(y'.val),((xs.cut n (xs.n:Int) 5).val)]) w' fun r13 w14=>∃ x15:Sl,r13=x15.val∧Sub u w14∧∃ y:Sl,(Value.agg #[x15.val,iV result])=.agg #[y.val,iV result]∧Read w14 y (steps.take n.toNat++[c]++steps.drop n.toNat):=by
    intro y' w' J' hS hO
    rw [hxn]
    refine Own.append hO hS (hxc2.src hS.sub) (by simp;omega) (by decide) fun y2 w2 J2 hO hS=>⟨y2,rfl,hS.sub,y2,rfl,?_⟩
    exact hO.read1 (by simpa using hS)
  refine ⟨?_,ok,?_⟩
  · refine St.build (α:=StepD) (l:=[c]) hS (by exact VsOf.cons hv VsOf.nil) rfl (by decide) fun z w2 J2 hO2 hS2 hs=>⟨z,rfl,?_,ok,?_⟩
    · exact Own.append hO hS2 (Own.src hO2 hS2) (by simpa using hb) (by decide) fun y2 w3 J3 hS3 hO3=>⟨y2,rfl,ok,fin hO3.to hS3⟩
    · exact Own.append hO hS2 (Own.src hO2 hS2) (by simpa using hb) (by decide) fun y2 w3 J3 hS3 hO3=>⟨y2,rfl,fin hO3.to hS3⟩
  · exact st_push (α:=StepD) hS hO hv hb (by decide) (by decide) fun y2 w3 J3 hS3 hO3=>fin hS3 hO3
end
theorem Src.int {u w:World} {x:Sl} {l:List Int} {i:Int} (h:Src u w x l) (h0:0≤i) (h1:i < l.length):w.cell? ((elA x i 1).add 0)=some (iV (nth l i))∧InI (nth l i):=by
  obtain ⟨r,hr,h5⟩:=h.row h0 h1
  obtain ⟨rfl,h2⟩:=hr
  exact ⟨h5 0 _ rfl,h2⟩
theorem dropC {α:Type} [Inhabited α] {l:List α} {i:Int} (h0:0≤i) (h1:i < l.length):l.drop i.toNat=nth l i ::l.drop (i+1).toNat:=by
  have hi:i.toNat < l.length:=by omega
  rw [List.drop_eq_getElem_cons hi,show (i+1).toNat=i.toNat+1 by omega,nth_of (List.getElem?_eq_getElem hi)]
theorem asc_snoc {l:List Int} {n:Int} (h:l.Pairwise (· < ·)) (hn:∀ x∈l,x < n):(l++[n]).Pairwise (· < ·):=by
  refine List.pairwise_append.2 ⟨h,by simp,fun a ha b hb=>?_⟩
  rw [List.mem_singleton.1 hb]
  exact hn a ha
section
variable {u w:World} {x y z:Sl} {J:Items} {m n:Int} {l k:List Int}
theorem c_insert (hx:Read u x l) (hp:l.Pairwise (· < ·)) (hn:InI n) (hl:l.length≤1000000000):Mk Tryz.prog 133 #[x.val,iV n] u fun r J=>∃ (y:Sl) (l':List Int),r=y.val∧Own u y l' J∧l'.Pairwise (· < ·)∧(∀ z∈l',z=n∨z∈l)∧l'.length≤l.length+1:=by
  refine of133 _ _ _ _ ?_
  unfold vc133
  have hxn:=hx.n
  refine st_own (α:=Int) (l:=[]) (.refl u) VsOf.nil rfl (by decide) fun y0 w0 J0 hs0 hS hO=>?_
  refine ⟨fun y q i w=>∃ (J:Items) (o:List Int),St u w (J++[])∧Own u y o J∧0≤i∧i≤l.length∧o.Pairwise (· < ·)∧(∀ z∈o,z=n∨z∈l)∧(q=false→o=l.take i.toNat∧∀ z∈o,z < n)∧(o.length:Int)≤i+1∧∀ y∈o,∀ z∈l.drop i.toNat,y < z,fun _ _ i _=>(l.length - i).toNat,⟨J0,[],hS,hO,by omega,by omega,.nil,by simp,fun _=>by simp,by simp,by simp⟩,?_⟩
  clear hS hO hs0
  rintro y q i w ⟨J,o,hS,hO,i0,i1,ho,hm,hq,hlen,hlt⟩
  dsimp only
  refine ⟨fun hc=>?_,fun hc=>?_⟩
  · simp only [bls] at hc
    have hil:i < l.length:=by omega
    obtain ⟨e1,hIn⟩:=(hx.src hS.sub).int i0 hil
    have hix:=hx.ix i0 hil
    have hd:=dropC i0 hil
    have hmem:nth l i∈l:=nth_mem i0 hil
    have hdp:(nth l i ::l.drop (i+1).toNat).Pairwise (· < ·):=by rw [←hd];exact hp.drop
    have hdp2:=(List.pairwise_cons.1 hdp).1
    rw [hd] at hlt
    refine ⟨fun _=>hix,nth l i,fun _=>e1,fun hc2=>?_,fun hc2=>?_⟩
    · simp only [Bool.and_eq_true,Bool.not_eq_true',decide_eq_true_eq] at hc2
      obtain ⟨rfl,hge⟩:=hc2
      obtain ⟨rfl,hon⟩:=hq rfl
      refine ⟨hix,nth l i,e1,fun hc3=>?_,fun hc3=>?_⟩
      · simp only [bls] at hc3
        refine st_push (α:=Int) hS hO (VOf.int hn) (by omega) (by decide) (by decide) fun y1 w1 J1 hS hO=>⟨hix,nth l i,((hx.src hS.sub).int i0 hil).1,?_⟩
        refine st_push (α:=Int) hS hO (VOf.int hIn) (by simp only [List.length_append,List.length_singleton];omega) (by decide) (by decide) fun y2 w2 J2 hS hO=>?_
        refine go_wr (by omega) (by omega) ?_
        refine ⟨⟨J2,_,hS,hO,by omega,by omega,asc_snoc (asc_snoc ho hon) ?_,?_,fun h=>(by cases h),by simp only [List.length_append,List.length_singleton,List.length_take];omega,?_⟩,by omega⟩
        · intro z hz
          rcases List.mem_append.1 hz with hz|hz
          · exact hlt z hz _ List.mem_cons_self
          · rw [List.mem_singleton.1 hz];exact hc3
        · intro z hz
          rcases List.mem_append.1 hz with hz|hz
          · rcases List.mem_append.1 hz with hz|hz
            · exact hm z hz
            · exact .inl (List.mem_singleton.1 hz)
          · rw [List.mem_singleton.1 hz];exact .inr hmem
        · intro z hz t ht
          rcases List.mem_append.1 hz with hz|hz
          · rcases List.mem_append.1 hz with hz|hz
            · exact hlt z hz t (List.mem_cons_of_mem _ ht)
            · rw [List.mem_singleton.1 hz];have:=hdp2 t ht;omega
          · rw [List.mem_singleton.1 hz];exact hdp2 t ht
      · simp only [bls] at hc3
        have e:nth l i=n:=by omega
        refine ⟨hix,nth l i,e1,?_⟩
        refine st_push (α:=Int) hS hO (VOf.int hIn) (by omega) (by decide) (by decide) fun y2 w2 J2 hS hO=>?_
        refine go_wr (by omega) (by omega) ?_
        refine ⟨⟨J2,_,hS,hO,by omega,by omega,asc_snoc ho fun z hz=>hlt z hz _ List.mem_cons_self,?_,fun h=>(by cases h),by simp only [List.length_append,List.length_singleton,List.length_take];omega,?_⟩,by omega⟩
        · intro z hz
          rcases List.mem_append.1 hz with hz|hz
          · exact hm z hz
          · rw [List.mem_singleton.1 hz];exact .inr hmem
        · intro z hz t ht
          rcases List.mem_append.1 hz with hz|hz
          · exact hlt z hz t (List.mem_cons_of_mem _ ht)
          · rw [List.mem_singleton.1 hz];exact hdp2 t ht
    · refine ⟨hix,nth l i,e1,?_⟩
      refine st_push (α:=Int) hS hO (VOf.int hIn) (by omega) (by decide) (by decide) fun y2 w2 J2 hS hO=>?_
      refine go_wr (by omega) (by omega) ?_
      refine ⟨⟨J2,_,hS,hO,by omega,by omega,asc_snoc ho fun z hz=>hlt z hz _ List.mem_cons_self,?_,?_,by simp only [List.length_append,List.length_singleton];omega,?_⟩,by omega⟩
      · intro z hz
        rcases List.mem_append.1 hz with hz|hz
        · exact hm z hz
        · rw [List.mem_singleton.1 hz];exact .inr hmem
      · intro hqf
        subst hqf
        obtain ⟨rfl,hon⟩:=hq rfl
        refine ⟨(take_nth i0 hil).symm,fun z hz=>?_⟩
        rcases List.mem_append.1 hz with hz|hz
        · exact hon z hz
        · rw [List.mem_singleton.1 hz]
          simp at hc2
          exact hc2
      · intro z hz t ht
        rcases List.mem_append.1 hz with hz|hz
        · exact hlt z hz t (List.mem_cons_of_mem _ ht)
        · rw [List.mem_singleton.1 hz];exact hdp2 t ht
  · simp only [bls] at hc
    have hS':St u w J:=by simpa using hS
    refine ⟨fun hc2=>?_,fun hc2=>?_⟩
    · simp only [Bool.not_eq_true'] at hc2
      subst hc2
      obtain ⟨rfl,hon⟩:=hq rfl
      refine st_push (α:=Int) hS hO (VOf.int hn) (by omega) (by decide) (by decide) fun y2 w2 J2 hS hO=>?_
      refine ⟨J2,by simpa using hS,y2,_,rfl,hO,asc_snoc ho hon,?_,by simp;omega⟩
      intro z hz
      rcases List.mem_append.1 hz with hz|hz
      · exact hm z hz
      · exact .inl (List.mem_singleton.1 hz)
    · exact ⟨J,hS',y,o,rfl,hO,ho,hm,by omega⟩
theorem Asc.sub (h:Asc n l) (hk:k.Sublist l):Asc n k:=⟨h.1.sublist hk,fun x hx=>h.2 x (hk.subset hx)⟩
theorem Asc.mono (h:Asc n l) (hm:n≤m):Asc m l:=⟨h.1,fun x hx=>by have:=h.2 x hx;omega⟩
theorem c_insertA (hx:Read u x l) (hl:Asc m l) (h0:0≤n) (h1:n < m) (hm:m≤1000000000):Mk Tryz.prog 133 #[x.val,iV n] u fun r J=>∃ (y:Sl) (l':List Int),r=y.val∧Own u y l' J∧Asc m l':=by
  have hlen:=hl.len (by omega)
  refine (c_insert hx hl.1 ⟨by omega,by omega⟩ (by omega)).mono' ?_
  rintro _ w' ⟨J,hS,y,l',rfl,hO,h2,h3,_⟩
  refine ⟨J,hS,y,l',rfl,hO,h2,fun z hz=>?_⟩
  rcases h3 z hz with rfl|h
  · exact ⟨h0,h1⟩
  · exact hl.2 z h
theorem c_common (hx:Read u x l) (hy:Read u y k):Mk Tryz.prog 168 #[x.val,y.val] u fun r J=>∃ z:Sl,r=z.val∧Own u z (l.filter fun i=>decide (i∈k)) J:=by
  refine of168 _ _ _ _ ?_
  unfold vc168
  have hxn:=hx.n
  have hxl:=hx.le
  refine st_own (α:=Int) (l:=[]) (.refl u) VsOf.nil rfl (by decide) fun y0 w0 J0 hs0 hS hO=>?_
  refine ⟨fun z i w=>∃ (J:Items),St u w (J++[])∧Own u z ((l.take i.toNat).filter fun i=>decide (i∈k)) J∧0≤i∧i≤l.length,fun _ i _=>(l.length - i).toNat,⟨J0,hS,by simpa using hO,by omega,by omega⟩,?_⟩
  clear hS hO hs0
  rintro z i w ⟨J,hS,hO,i0,i1⟩
  dsimp only
  refine ⟨fun hc=>?_,fun hc=>?_⟩
  · simp only [bls] at hc
    have hil:i < l.length:=by omega
    obtain ⟨e1,hIn⟩:=(hx.src hS.sub).int i0 hil
    have hix:=hx.ix i0 hil
    have hlen:=List.length_filter_le (fun i=>decide (i∈k)) (l.take i.toNat)
    rw [List.length_take] at hlen
    refine ⟨hix,nth l i,e1,_,c_specIsIn (hy.mono hS.sub),fun hc2=>⟨hix,nth l i,e1,?_⟩,fun hc2=>?_⟩
    · refine st_push (α:=Int) hS hO (VOf.int hIn) (by omega) (by decide) (by decide) fun y2 w2 J2 hS hO=>?_
      refine go_wr (by omega) (by omega) ?_
      refine ⟨⟨J2,hS,?_,by omega,by omega⟩,by omega⟩
      rw [take_nth i0 hil,List.filter_append,List.filter_cons_of_pos (by simpa using hc2),List.filter_nil]
      exact hO
    · refine go_wr (by omega) (by omega) ?_
      refine ⟨⟨J,hS,?_,by omega,by omega⟩,by omega⟩
      rw [take_nth i0 hil,List.filter_append,List.filter_cons_of_neg (by simpa using hc2),List.filter_nil,List.append_nil]
      exact hO
  · simp only [bls] at hc
    rw [List.take_of_length_le (by omega)] at hO
    exact ⟨J,by simpa using hS,z,rfl,hO⟩
theorem c_below (hx:Read u x l):Mk Tryz.prog 175 #[x.val,iV n] u fun r J=>∃ z:Sl,r=z.val∧Own u z (l.filter fun i=>decide (i < n)) J:=by
  refine of175 _ _ _ _ ?_
  unfold vc175
  have hxn:=hx.n
  have hxl:=hx.le
  refine st_own (α:=Int) (l:=[]) (.refl u) VsOf.nil rfl (by decide) fun y0 w0 J0 hs0 hS hO=>?_
  refine ⟨fun z i w=>∃ (J:Items),St u w (J++[])∧Own u z ((l.take i.toNat).filter fun i=>decide (i < n)) J∧0≤i∧i≤l.length,fun _ i _=>(l.length - i).toNat,⟨J0,hS,by simpa using hO,by omega,by omega⟩,?_⟩
  clear hS hO hs0
  rintro z i w ⟨J,hS,hO,i0,i1⟩
  dsimp only
  refine ⟨fun hc=>?_,fun hc=>?_⟩
  · simp only [bls] at hc
    have hil:i < l.length:=by omega
    obtain ⟨e1,hIn⟩:=(hx.src hS.sub).int i0 hil
    have hix:=hx.ix i0 hil
    have hlen:=List.length_filter_le (fun i=>decide (i < n)) (l.take i.toNat)
    rw [List.length_take] at hlen
    refine ⟨hix,nth l i,e1,fun hc2=>⟨hix,nth l i,e1,?_⟩,fun hc2=>?_⟩
    · refine st_push (α:=Int) hS hO (VOf.int hIn) (by omega) (by decide) (by decide) fun y2 w2 J2 hS hO=>?_
      refine go_wr (by omega) (by omega) ?_
      refine ⟨⟨J2,hS,?_,by omega,by omega⟩,by omega⟩
      rw [take_nth i0 hil,List.filter_append,List.filter_cons_of_pos (by simpa using hc2),List.filter_nil]
      exact hO
    · refine go_wr (by omega) (by omega) ?_
      refine ⟨⟨J,hS,?_,by omega,by omega⟩,by omega⟩
      rw [take_nth i0 hil,List.filter_append,List.filter_cons_of_neg (by simpa using hc2),List.filter_nil,List.append_nil]
      exact hO
  · simp only [bls] at hc
    rw [List.take_of_length_le (by omega)] at hO
    exact ⟨J,by simpa using hS,z,rfl,hO⟩
theorem c_without (hx:Read u x l):Mk Tryz.prog 149 #[x.val,iV n] u fun r J=>∃ z:Sl,r=z.val∧Own u z (l.filter fun i=>decide (i≠n)) J:=by
  refine of149 _ _ _ _ ?_
  unfold vc149
  have hxn:=hx.n
  have hxl:=hx.le
  refine st_own (α:=Int) (l:=[]) (.refl u) VsOf.nil rfl (by decide) fun y0 w0 J0 hs0 hS hO=>?_
  refine ⟨fun z i w=>∃ (J:Items),St u w (J++[])∧Own u z ((l.take i.toNat).filter fun i=>decide (i≠n)) J∧0≤i∧i≤l.length,fun _ i _=>(l.length - i).toNat,⟨J0,hS,by simpa using hO,by omega,by omega⟩,?_⟩
  clear hS hO hs0
  rintro z i w ⟨J,hS,hO,i0,i1⟩
  dsimp only
  refine ⟨fun hc=>?_,fun hc=>?_⟩
  · simp only [bls] at hc
    have hil:i < l.length:=by omega
    obtain ⟨e1,hIn⟩:=(hx.src hS.sub).int i0 hil
    have hix:=hx.ix i0 hil
    have hlen:=List.length_filter_le (fun i=>decide (i≠n)) (l.take i.toNat)
    rw [List.length_take] at hlen
    refine ⟨hix,nth l i,e1,fun hc2=>⟨hix,nth l i,e1,?_⟩,fun hc2=>?_⟩
    · refine st_push (α:=Int) hS hO (VOf.int hIn) (by omega) (by decide) (by decide) fun y2 w2 J2 hS hO=>?_
      refine go_wr (by omega) (by omega) ?_
      refine ⟨⟨J2,hS,?_,by omega,by omega⟩,by omega⟩
      rw [take_nth i0 hil,List.filter_append,List.filter_cons_of_pos (by simpa using hc2),List.filter_nil]
      exact hO
    · refine go_wr (by omega) (by omega) ?_
      refine ⟨⟨J,hS,?_,by omega,by omega⟩,by omega⟩
      rw [take_nth i0 hil,List.filter_append,List.filter_cons_of_neg (by simpa using hc2),List.filter_nil,List.append_nil]
      exact hO
  · simp only [bls] at hc
    rw [List.take_of_length_le (by omega)] at hO
    exact ⟨J,by simpa using hS,z,rfl,hO⟩
end
def AuB (b:BlockD):Prop:=∀ (u:World) (xs x:Sl) (l:List Int) (n fr:Int),Read u xs b.steps→Read u x l→Asc n l→n≤1000000000→0≤fr→fr≤1000000000000→
  Fz Tryz.prog 143 #[.agg #[xs.val,iV b.result],iV n,iV fr,x.val] u fun r u'=>∃ (z:Sl) (l':List Int),r=z.val∧Read u' z l'∧Asc n l'
section
variable {u u' w:World} {x z f xa xk xs:Sl} {n op num into result fr:Int} {l k args:List Int} {kids:List BlockD} {steps:List StepD} {b:BlockD} {c:StepD}
theorem c_addStepUsesH (H:∀ k∈c.kids,AuB k) (ha:Read u xa c.args) (hk:Read u xk c.kids) (hx:Read u x l) (hl:Asc n l) (hn:n≤1000000000):Fz Tryz.prog 165 #[.agg #[iV c.op,iV c.num,iV c.into,xa.val,xk.val],iV n,x.val] u fun r u'=>∃ (z:Sl) (l':List Int),r=z.val∧Read u' z l'∧Asc n l':=by
  refine of165 _ _ _ _ _ _ _ _ _ ?_
  unfold vc165
  have han:=ha.n
  have hal:=ha.le
  have hkn:=hk.n
  have hkl:=hk.le
  refine ⟨_,c_isCountingS,fun _=>⟨.refl u,x,l,rfl,hx,hl⟩,fun _=>?_⟩
  refine ⟨fun z i w=>∃ (u1:World) (l':List Int),Sub u u1∧St u1 w []∧Read u1 z l'∧Asc n l'∧0≤i∧i≤c.args.length,fun _ i _=>(c.args.length - i).toNat,⟨u,l,.refl u,.refl u,hx,hl,by omega,by omega⟩,?_⟩
  rintro z i w ⟨u1,l',hu1,hS,hz,hA,i0,i1⟩
  dsimp only
  refine ⟨fun hc=>?_,fun hc=>?_⟩
  · simp only [bls] at hc
    have hil:i < c.args.length:=by omega
    obtain ⟨e1,hIn⟩:=((ha.mono hu1).src hS.sub).int i0 hil
    have hix:=ha.ix i0 hil
    refine ⟨hix,_,e1,fun _=>hix,_,fun _=>e1,fun hc2=>?_,fun hc2=>?_⟩
    · simp only [bls] at hc2
      refine ⟨hix,_,e1,?_⟩
      refine Mk.use (c_insertA hz hA hc2.1 hc2.2 hn) hS ?_
      rintro _ w2 J2 ⟨z2,l2,rfl,hO2,ha2⟩ hS hs2
      obtain ⟨u3,hu3,hS,hJ⟩:=hS.freeze J2
      refine ⟨z2,rfl,?_⟩
      refine go_wr (by omega) (by omega) ?_
      exact ⟨rfl,rfl,rfl,rfl,rfl,⟨u3,l2,hu1.trans hu3,hS,hO2.read1 hJ,ha2,by omega,by omega⟩,by omega⟩
    · refine go_wr (by omega) (by omega) ?_
      exact ⟨rfl,rfl,rfl,rfl,rfl,⟨u1,l',hu1,hS,hz,hA,by omega,by omega⟩,by omega⟩
  · refine ⟨fun z i w=>∃ (u1:World) (l':List Int),Sub u u1∧St u1 w []∧Read u1 z l'∧Asc n l'∧0≤i∧i≤c.kids.length,fun _ i _=>(c.kids.length - i).toNat,⟨u1,l',hu1,hS,hz,hA,by omega,by omega⟩,?_⟩
    clear hS hz hA hu1 i0 i1 hc
    rintro z i w ⟨u1,l',hu1,hS,hz,hA,i0,i1⟩
    dsimp only
    refine ⟨fun hc=>?_,fun hc=>?_⟩
    · simp only [bls] at hc
      have hil:i < c.kids.length:=by omega
      obtain ⟨f,e1,e2,hr,hf⟩:=((hk.mono hu1).src hS.sub).ofBlockD i0 hil
      refine ⟨hk.ix i0 hil,f,_,⟨e1,e2⟩,?_⟩
      refine (H _ (nth_mem i0 hil) u1 f z l' n 0 hf hz hA hn (by omega) (by omega)).use hS ?_
      rintro _ w2 u2 hu2 hs2 hS ⟨z2,l2,rfl,hz2,hA2⟩
      refine ⟨z2,rfl,?_⟩
      refine go_wr (by omega) (by omega) ?_
      exact ⟨rfl,rfl,rfl,rfl,rfl,⟨u2,l2,hu1.trans hu2,hS,hz2,hA2,by omega,by omega⟩,by omega⟩
    · exact ⟨hu1.trans hS.sub,z,l',rfl,hz.mono hS.sub,hA⟩
theorem c_addUses (b:BlockD):AuB b:=by
  refine blk_ind (P:=AuB) (fun b H=>?_) b
  intro u xs x l n fr hxs hx hl hn f0 f1
  refine of143 _ _ _ _ _ _ _ ?_
  unfold vc143
  have hxn:=hxs.n
  have hxl:=hxs.le
  refine ⟨fun z i w=>∃ (u1:World) (l':List Int),Sub u u1∧St u1 w []∧Read u1 z l'∧Asc n l'∧0≤i,fun _ i _=>(b.steps.length - i).toNat,⟨u,l,.refl u,.refl u,hx,hl,f0⟩,?_⟩
  rintro z i w ⟨u1,l',hu1,hS,hz,hA,i0⟩
  dsimp only
  refine ⟨fun hc=>?_,fun hc=>⟨fun hc2=>?_,fun hc2=>⟨hu1.trans hS.sub,z,l',rfl,hz.mono hS.sub,hA⟩⟩⟩
  · simp only [bls] at hc
    have hil:i < b.steps.length:=by omega
    obtain ⟨f,g,e1,e2,e3,e4,e5,i1,i2,i3,hf,hg⟩:=((hxs.mono hu1).src hS.sub).ofStepD i0 hil
    refine ⟨hxs.ix i0 hil,_,_,_,f,g,⟨e1,e2,e3,e4,e5⟩,?_⟩
    refine (c_addStepUsesH (H _ (nth_mem i0 hil)) hf hg hz hA hn).use hS ?_
    rintro _ w2 u2 hu2 hs2 hS ⟨z2,l2,rfl,hz2,hA2⟩
    refine ⟨z2,rfl,?_⟩
    refine go_wr (by omega) (by omega) ?_
    exact ⟨rfl,rfl,⟨u2,l2,hu1.trans hu2,hS,hz2,hA2,by omega⟩,by omega⟩
  · simp only [bls] at hc2
    refine Mk.use (c_insertA hz hA (by omega) hc2.2 hn) hS ?_
    rintro _ w2 J2 ⟨z2,l2,rfl,hO2,ha2⟩ hS hs2
    obtain ⟨u3,hu3,hS,hJ⟩:=hS.freeze J2
    exact ⟨z2,rfl,hu1.trans (hu3.trans hS.sub),z2,l2,rfl,(hO2.read1 hJ).mono hS.sub,ha2⟩
theorem c_usedIn (hx:Read u xs b.steps) (hn:n≤1000000000):Fz Tryz.prog 110 #[.agg #[xs.val,iV b.result],iV n] u fun r u'=>∃ (z:Sl) (l':List Int),r=z.val∧Read u' z l'∧Asc n l':=by
  refine of110 _ _ _ _ _ ?_
  unfold vc110
  refine st_bld (α:=Int) (l:=[]) (.refl u) VsOf.nil rfl (by decide) fun y0 w0 u0 hu0 hs0 hS hy=>?_
  refine (c_addUses b u0 xs y0 [] n 0 (hx.mono hu0) hy Asc.nil hn (by omega) (by omega)).use hS ?_
  rintro _ w2 u2 hu2 hs2 hS ⟨z2,l2,rfl,hz2,hA2⟩
  exact ⟨z2,rfl,hu0.trans (hu2.trans hS.sub),z2,l2,rfl,hz2.mono hS.sub,hA2⟩
end
def LwQ (u:World) (a:Addr) (R:Items) (ds:List DeclD) (nf:Int) (d m:Nat) (sts:List StepD) (v:Int) (w:World):Prop:=
  ∃ (u':World) (xs':Sl) (news:List StepD) (I' J':Items),Sub u u'∧St u' w (I'++(J'++R))∧Cel a [xs'.val,iV ((m+news.length:Nat):Int)] I'∧Own u' xs' (sts++news) J'∧PlL ds nf d m news∧0≤v∧v < ((m+news.length:Nat):Int)
def LwP (ds:List DeclD) (nf:Int) (e:ExprD):Prop:=∀ (u w:World) (a:Addr) (x y z f xs:Sl) (env:List Int) (m:Nat) (sts:List StepD) (I J R:Items),Read u x ds→typesOk ds→Read u f e.kids→Read u z env→cE ⟨ds,nf,env.length⟩ e→nodesE e≤5000→(∀ v∈env,0≤v∧v < (m:Int))→env.length+4 * nodesE e≤40000→m+4 * nodesE e≤40000→sts.length+nodesE e≤40000→
  Cel a [xs.val,iV (m:Int)] I→Own u xs sts J→St u w (I++(J++R))→
  Trip Tryz.prog 73 #[(pt a),.agg #[x.val,y.val],.agg #[iV e.op,iV e.num,f.val],z.val] w fun r w'=>∃ v:Int,r=iV v∧LwQ u a R ds nf (nodesE e) m sts v w'
noncomputable def armW (ds:List DeclD) (op num:Int) (m i:Nat):Nat:=if op=8 then m+(conF ds (nth (consL ds num) (i:Int))).length else m
section
variable {u u' v w:World} {x y z f xa xk xs:Sl} {ds:List DeclD} {a:Addr} {I J R:Items} {n op num result nf:Int} {m V:Nat} {l k args env:List Int} {kids:List BlockD} {steps sts:List StepD} {b:BlockD} {e:ExprD}
theorem c_conFieldsZ (hx:Read u x ds) (hd:SmDs ds) (hn:InI n):Fz Tryz.prog 95 #[x.val,iV n] u fun r u'=>∃ z:Sl,r=z.val∧Read u' z (conF ds n):=
  (c_conFieldsR hx hd hn).mono' fun r w' ⟨J,hS,z,h1,h2⟩=>⟨hS.sub,z,h1,h2 w' hS⟩
theorem low_add {num:Int} (hC:Cel a [xs.val,iV (m:Int)] I) (hO:Own u xs sts J) (hS:St u w (I++(J++R))) (i1:InI op) (i2:InI num) (ha:Read u xa args) (hk:Read u xk kids) (hm:m≤1000000) (hl:sts.length≤1000000):
    Trip Tryz.prog 100 #[(pt a),.agg #[iV op,iV num,iV 0,xa.val,xk.val]] w fun r w'=>r=iV (m:Int)∧∃ (xs':Sl) (I' J':Items),Cel a [xs'.val,iV ((m+1:Nat):Int)] I'∧Own u xs' (sts++[⟨op,num,0,args,kids⟩]) J'∧St u w' (I'++(J'++R)):=by
  refine of100 _ _ _ _ _ _ _ _ ?_
  unfold vc100
  refine ⟨xs,hC.load hS rfl,?_⟩
  refine st_pushS (α:=StepD) (R:=I++R) (hS.to) hO (vofS i1 i2 (in64_in rfl) ha hk) (by omega) (by decide) (by decide) fun y' w1 J1 hS hO=>?_
  refine hC.store hS (by simp) ?_
  intro w2 I2 hC hS
  simp [putR] at hC
  refine ⟨_,hC.load hS rfl,?_⟩
  refine go_wr (by omega) (by omega) ?_
  refine hC.store hS (by simp) ?_
  intro w3 I3 hC hS
  simp [putR] at hC
  refine ⟨_,hC.load hS rfl,?_⟩
  refine go_wr (by omega) (by omega) ?_
  refine ⟨by congr 1;omega,y',I3,J1,?_,hO,hS.to⟩
  rw [show ((m+1:Nat):Int)=(m:Int)+1 by omega]
  exact hC
theorem c_lowerBlockH (H:LwP ds nf e) (hx:Read u x ds) (ht:typesOk ds) (hf:Read u f e.kids) (hz:Read u z env) (hc:cE ⟨ds,nf,env.length⟩ e) (hn:nodesE e≤5000) (hv:∀ v∈env,0≤v∧v < (m:Int)) (h1:env.length+4 * nodesE e≤40000) (h2:m+4 * nodesE e≤40000):
    Fz Tryz.prog 58 #[.agg #[x.val,y.val],.agg #[iV e.op,iV e.num,f.val],z.val,iV (m:Int)] u fun r u'=>∃ (ys:Sl) (b:BlockD),r=.agg #[ys.val,iV b.result]∧Read u' ys b.steps∧InI b.result∧PlB ds nf (nodesE e) m b:=by
  refine of58 _ _ _ _ _ _ _ _ _ ?_
  unfold vc58
  refine st_own (α:=StepD) (l:=[]) (.refl u) VsOf.nil rfl (by decide) fun y0 w0 J0 hs0 hS hO=>?_
  refine St.box (vals:=[y0.val,iV (m:Int)]) hS fun a w1 I1 hC hS hs1=>?_
  refine (H u w1 a x y z f y0 env m [] I1 J0 [] hx ht hf hz hc hn hv h1 h2 (by simp;omega) hC hO hS).mono' ?_
  rintro _ w2 ⟨v,rfl,u2,xs',news,I2,J2,hu2,hS,hC,hO,hP,v0,v1⟩
  refine ⟨v,rfl,xs',hC.load hS rfl,hu2.trans hS.sub,xs',⟨news,v⟩,rfl,?_,⟨?_,?_⟩,hP,v0,v1⟩
  · have hS':St u2 w2 J2:=by simpa using hS.right
    simpa using hO.read1 hS'
  · show -9223372036854775808≤v
    omega
  · show v≤9223372036854775807
    have:=hP.len
    omega
theorem sc13 (h:scX ds nf e V) (ho:e.op=13):e.kids.length=2∧scX ds nf (nth e.kids 0) V∧scX ds nf (nth e.kids 1) (V+1):=by
  rw [scX_eq] at h
  unfold scN at h
  rw [if_neg (by omega),if_pos ho] at h
  obtain ⟨k0,e0,h0⟩:=kp_some h.2.1
  obtain ⟨k1,e1,h1⟩:=kp_some h.2.2
  rw [nth_of (i:=0) e0,nth_of (i:=1) e1]
  exact ⟨by simpa using h.1,h0,h1⟩
theorem sc12 (h:scX ds nf e V) (ho:e.op=12):0≤e.num∧e.num < V:=by
  rw [scX_eq] at h
  unfold scN at h
  rw [if_pos ho] at h
  exact h
theorem sc8 (h:scX ds nf e V) (ho:e.op=8):e.kids.length=1+(consL ds e.num).length∧scX ds nf (nth e.kids 0) V∧∀ i:Nat,i < (consL ds e.num).length→scX ds nf (nth e.kids ((i+1:Nat):Int)) (V+(conF ds (nth (consL ds e.num) (i:Int))).length):=by
  rw [scX_eq] at h
  unfold scN at h
  rw [if_neg (by omega),if_neg (by omega),if_pos ho] at h
  obtain ⟨k0,e0,h0⟩:=kp_some h.2.1
  refine ⟨by simpa using h.1,by rw [nth_of (i:=0) e0];exact h0,fun i hi=>?_⟩
  obtain ⟨k1,e1,h1⟩:=kp_some (h.2.2 i hi)
  rw [nth_of (i:=((i+1:Nat):Int)) e1]
  exact h1
theorem scG (h:scX ds nf e V) (h12:e.op≠12) (h13:e.op≠13) (h8:e.op≠8):(e.op=7→1≤e.kids.length)∧(e.op=9∨e.op=10→0≤e.num∧e.num < nf)∧∀ k∈e.kids,scX ds nf k V:=by
  rw [scX_eq] at h
  unfold scN at h
  rw [if_neg h12,if_neg h13,if_neg h8] at h
  exact ⟨by simpa using h.1,h.2.1,fun k hk=>h.2.2 _ (List.mem_map_of_mem hk)⟩
theorem can_op (h:canE e=true):0≤e.op∧e.op≤13:=by
  rw [canE_eq,Bool.and_eq_true,okN_iff] at h
  omega
theorem can_kid {k:ExprD} (h:canE e=true) (hk:k∈e.kids):canE k=true:=by
  have key:∀ l:List ExprD,canL l=true→∀ k∈l,canE k=true:=by
    intro l
    induction l with
    | nil=>intro _ k hk;cases hk
    | cons a r ih=>
      intro h k hk
      rw [canL_cons,Bool.and_eq_true] at h
      rcases List.mem_cons.1 hk with rfl|hk
      · exact h.1
      · exact ih h.2 k hk
  rw [canE_eq,Bool.and_eq_true] at h
  exact key _ h.2 k hk
theorem c_lower (e:ExprD):LwP ds nf e:=by
  refine ex_ind (P:=LwP ds nf) (fun e H=>?_) e
  intro u w a x yp z f xs env m sts I J R hx ht hf hz hc hn hv h1 h2 h3 hC hO hS
  refine of73 _ _ _ _ _ _ _ _ _ ?_
  unfold vc73
  have hfn:=hf.n
  have hfl:=hf.le
  have hop:=can_op hc.1
  have hin:=can_in hc.1
  have hnl:=nodesL_len e.kids
  have hnE:=nodesE_eq e
  refine ⟨fun h12=>?_,fun h12=>⟨fun h13=>?_,fun h13=>⟨fun h7=>?_,fun h7=>⟨fun h8=>?_,fun h8=>?_⟩⟩⟩⟩
  ·
    simp only [bls] at h12
    have hr:=sc12 (show scX ds nf e env.length from hc.2) h12
    have hmv:=hv _ (nth_mem hr.1 hr.2)
    refine go_ix hz hr.1 hr.2 ?_
    refine ⟨_,((hz.src hS.sub).int hr.1 hr.2).1,_,rfl,u,xs,[],I,J,.refl u,hS,by simpa using hC,by simpa using hO,.nil,hmv.1,by simp;omega⟩
  ·
    simp only [bls] at h13
    obtain ⟨hk,s0,s1⟩:=sc13 (show scX ds nf e env.length from hc.2) h13
    have m0:nth e.kids 0∈e.kids:=nth_mem (by omega) (by omega)
    have m1:nth e.kids 1∈e.kids:=nth_mem (by omega) (by omega)
    have hd0:=nodesL_drop (l:=e.kids) (i:=0) (by omega) (by omega)
    have hd1:=nodesL_drop (l:=e.kids) (i:=1) (by omega) (by omega)
    rw [show e.kids.drop (0:Int).toNat=e.kids from rfl,show ((0:Int)+1).toNat=(1:Int).toNat from rfl] at hd0
    obtain ⟨g0,a1,a2,a3,j1,j2,r0⟩:=(hf.src hS.sub).ofExprD (i:=0) (by omega) (by omega)
    refine go_ix hf (by omega) (by omega) ?_
    refine ⟨_,_,g0,⟨a1,a2,a3⟩,?_⟩
    refine (H _ m0 u w a x yp z g0 xs env m sts I J R hx ht r0 hz ⟨can_kid hc.1 m0,s0⟩ (by omega) hv (by omega) (by omega) (by omega) hC hO hS).mono' ?_
    rintro _ w1 ⟨v0,rfl,u1,xs1,n0,I1,J1,hu1,hS,hC,hO,hP0,p0,p1⟩
    have hn0:=hP0.len
    refine ⟨v0,rfl,?_⟩
    obtain ⟨g1,a1,a2,a3,j1,j2,r1⟩:=((hf.mono hu1).src hS.sub).ofExprD (i:=1) (by omega) (by omega)
    refine go_ix hf (by omega) (by omega) ?_
    refine ⟨_,_,g1,⟨a1,a2,a3⟩,?_⟩
    refine st_bld (α:=Int) (l:=[v0]) hS (by exact VsOf.cons (VOf.int ⟨by omega,by omega⟩) VsOf.nil) rfl (by decide) fun xv w2 u2 hu2 hs2 hS hxv=>⟨hs2,?_⟩
    refine (Mk.fz (c_extend ((hz.mono hu1).mono hu2) hxv (by simp;omega))).use hS ?_
    rintro _ w3 u3 hu3 hs3 hS ⟨z3,rfl,hz3⟩
    refine ⟨z3,rfl,hs3,?_⟩
    have hU:=hu1.trans (hu2.trans hu3)
    refine (H _ m1 u3 w3 a x yp z3 g1 xs1 (env++[v0]) (m+n0.length) (sts++n0) I1 J1 R (hx.mono hU) ht ((r1.mono hu2).mono hu3) hz3 ⟨can_kid hc.1 m1,by rw [List.length_append];exact s1⟩ (by omega) ?_ (by simp;omega) (by omega) (by simp;omega) hC ((hO.mono hu2).mono hu3) hS).mono' ?_
    · intro t ht
      rcases List.mem_append.1 ht with ht|ht
      · have:=hv t ht;omega
      · rw [List.mem_singleton.1 ht];exact ⟨p0,p1⟩
    rintro _ w4 ⟨v1,rfl,u4,xs4,n1,I4,J4,hu4,hS,hC,hO,hP1,q0,q1⟩
    refine ⟨v1,rfl,_,rfl,u4,xs4,n0++n1,I4,J4,hU.trans hu4,hS,?_,?_,(hP0.app hP1).le (by omega),q0,?_⟩
    · rw [List.length_append,←Nat.add_assoc];exact hC
    · rw [←List.append_assoc];exact hO
    · rw [List.length_append,←Nat.add_assoc];exact q1
  ·
    simp only [bls] at h7
    obtain ⟨hk1,_,hsk⟩:=scG (show scX ds nf e env.length from hc.2) (by omega) (by omega) (by omega)
    have hk1:=hk1 h7
    have s0:=hsk _ (nth_mem (l:=e.kids) (i:=0) (by omega) (by omega))
    have m0:nth e.kids 0∈e.kids:=nth_mem (by omega) (by omega)
    have hd0:=nodesL_drop (l:=e.kids) (i:=0) (by omega) (by omega)
    rw [show e.kids.drop (0:Int).toNat=e.kids from rfl] at hd0
    replace hd0:nodesL e.kids=nodesE (nth e.kids 0)+nodesL (e.kids.drop 1):=hd0
    obtain ⟨g0,a1,a2,a3,j1,j2,r0⟩:=(hf.src hS.sub).ofExprD (i:=0) (by omega) (by omega)
    refine ⟨fun _=>?_,fun hh=>(by simp [h7] at hh)⟩
    refine go_ix hf (by omega) (by omega) ?_
    refine ⟨_,_,g0,⟨a1,a2,a3⟩,?_⟩
    refine (H _ m0 u w a x _ z g0 xs env m sts I J R hx ht r0 hz ⟨can_kid hc.1 m0,s0⟩ (by omega) hv (by omega) (by omega) (by omega) hC hO hS).mono' ?_
    rintro _ w1 ⟨v0,rfl,u1,xs1,n0,I1,J1,hu1,hS,hC,hO,hP0,p0,p1⟩
    have hn0:=hP0.len
    refine ⟨v0,rfl,?_⟩
    refine st_own (α:=BlockD) (l:=[]) hS VsOf.nil rfl (by decide) fun y0 w2 K0 hs2 hS hOk=>?_
    refine (Mk.fz (c_consOfB (hx.mono hu1) ht.sm hin.2)).use hS ?_
    rintro _ w3 u3 hu3 hs3 hS ⟨zc,rfl,hzc⟩
    have hcn:=hzc.n
    refine ⟨zc,rfl,?_⟩
    have hU:=hu1.trans hu3
    refine ⟨fun y i w=>∃ (u4:World) (I J Kb:Items) (bs:List BlockD),Sub u3 u4∧St u4 w (Kb++(I++(J++R)))∧Own u4 y bs Kb∧Cel a [xs1.val,iV ((m+n0.length:Nat):Int)] I∧Own u4 xs1 (sts++n0) J∧(bs.length:Int)=i - 1∧(∀ j:Nat,∀ k:BlockD,bs[j]?=some k→PlB ds nf (nodesL (e.kids.drop 1)) (armW ds e.op e.num (m+n0.length) j) k)∧1≤i∧i≤e.kids.length,fun _ i _=>(e.kids.length - i).toNat,⟨u3,I1,J1,K0,[],.refl u3,hS,hOk.mono hu3,hC,hO.mono hu3,by simp,by simp,by omega,by omega⟩,?_⟩
    clear hS hOk hC hO
    rintro y i w ⟨u4,I,J,Kb,bs,hu4,hS,hOk,hC,hO,hbl,hbs,i0,i1⟩
    dsimp only
    refine ⟨fun hi=>?_,fun hi=>?_⟩
    · simp only [bls] at hi
      have hil:i < e.kids.length:=by omega
      have hmem:=nth_mem (l:=e.kids) (by omega) hil
      have hdi:=nodesL_drop (l:=e.kids) (i:=i) (by omega) hil
      have hle:nodesE (nth e.kids i)≤nodesL (e.kids.drop 1):=by
        refine nodes_mem ?_
        refine List.mem_of_getElem? (i:=i.toNat - 1) ?_
        rw [List.getElem?_drop,show 1+(i.toNat - 1)=i.toNat by omega]
        exact nth_get (by omega) hil
      obtain ⟨g,a1,a2,a3,j1,j2,rg⟩:=(((hf.mono hU).mono hu4).src hS.sub).ofExprD (i:=i) (by omega) hil
      refine ⟨fun hq=>?_,fun hq=>?_⟩
      · simp only [bls] at hq
        omega
      · refine go_ix hf (by omega) hil ?_
        refine ⟨_,_,g,⟨a1,a2,a3⟩,?_⟩
        refine ⟨_,hC.load hS rfl,_,hC.load hS rfl,?_⟩
        refine go_wr (by omega) (by omega) ?_
        refine (c_numbersFrom (by omega) (by omega) (by omega) (by omega)).use hS ?_
        rintro _ w6 u6 J6 hu6 hs6 hS ⟨y6,rfl,hO6⟩
        refine ⟨y6,rfl,hs6,?_⟩
        obtain ⟨u7,hu7,hS,hJ⟩:=hS.freeze J6
        have hr6:=hO6.read1 hJ
        have hU7:=hu6.trans hu7
        have hnl6:(numsF ((m+n0.length:Nat):Int) 0).length=0:=by rw [numsF_len];omega
        refine (Mk.fz (c_extend (((hz.mono hU).mono hu4).mono hU7) hr6 (by rw [hnl6];omega))).use hS ?_
        rintro _ w8 u8 hu8 hs8 hS ⟨z8,rfl,hz8⟩
        refine ⟨z8,rfl,hs8,?_⟩
        have hlow:=c_lowerBlockH (y:=yp) (m:=m+n0.length+0) (H _ hmem) ((((hx.mono hU).mono hu4).mono hU7).mono hu8) ht ((rg.mono (hu6.trans hu7)).mono hu8) hz8 ⟨can_kid hc.1 hmem,by rw [List.length_append,hnl6];exact hsk _ hmem⟩ (by omega) (fun t ht=>by
          rcases List.mem_append.1 ht with ht|ht
          · have:=hv t ht;omega
          · have:=numsF_mem ht;omega) (by rw [List.length_append,hnl6];omega) (by omega)
        rw [show ((m+n0.length+0:Nat):Int)=((m+n0.length:Nat):Int)+0 by omega] at hlow
        refine hlow.use hS ?_
        rintro _ w9 u9 hu9 hs9 hS ⟨y9,b9,rfl,hy9,hb9,hP9⟩
        refine ⟨y9,_,rfl,?_⟩
        have hV:=hU7.trans (hu8.trans hu9)
        refine st_push (α:=BlockD) hS (hOk.mono hV) (vofBb hb9 hy9) (by omega) (by decide) (by decide) fun y10 w10 K10 hS hOk=>?_
        refine go_wr (by omega) (by omega) ?_
        refine ⟨rfl,rfl,rfl,rfl,rfl,⟨u9,I,J,K10,bs++[b9],hu4.trans hV,hS,hOk,hC,hO.mono hV,by simp;omega,?_,by omega,by omega⟩,by omega⟩
        intro j k hk
        by_cases hj:j < bs.length
        · rw [List.getElem?_append_left hj] at hk
          exact hbs j k hk
        · have hj2:j=bs.length:=by
            have:=(List.getElem?_eq_some_iff.1 hk).1
            simp at this
            omega
          subst hj2
          rw [List.getElem?_append_right (Nat.le_refl _),Nat.sub_self] at hk
          have hk:b9=k:=by simpa using hk
          subst hk
          refine PlB.le ?_ hle
          unfold armW
          rw [if_neg (by omega)]
          exact hP9
    · simp only [bls] at hi
      refine st_bld (α:=Int) (l:=[v0]) hS (by exact VsOf.cons (VOf.int ⟨by omega,by omega⟩) VsOf.nil) rfl (by decide) fun xv w5 u5 hu5 hs5 hS hxv=>?_
      obtain ⟨u6,hu6,hS,hJ⟩:=hS.freeze Kb
      have hrk:=(hOk.mono hu5).read1 hJ
      refine (low_add hC ((hO.mono hu5).mono hu6) hS hin.1 hin.2 (hxv.mono hu6) hrk (by omega) (by simp;omega)).mono' ?_
      rintro _ w7 ⟨rfl,xs7,I7,J7,hC,hO,hS⟩
      have hone:PlL ds nf (nodesL (e.kids.drop 1)+1) (m+n0.length) [(⟨e.op,e.num,0,[v0],bs⟩:StepD)]:=by
        refine PlL.one ⟨by show 1≤5000;omega,by show bs.length≤5000;omega,hop.1,by show e.op≤11;omega,?_,fun h=>absurd (show e.op=9 from h) (by omega),fun h=>absurd (show e.op=8 from h) (by omega)⟩ hbs
        intro t ht
        rw [List.mem_singleton.1 ht]
        exact ⟨p0,p1⟩
      have hsum:nodesL (e.kids.drop 1)+nodesE (nth e.kids 0)=nodesL e.kids:=by
        omega
      refine ⟨_,rfl,_,rfl,u6,xs7,n0++[⟨e.op,e.num,0,[v0],bs⟩],I7,J7,hU.trans (hu4.trans (hu5.trans hu6)),hS,?_,?_,(hP0.app hone).le (by omega),by omega,?_⟩
      · rw [List.length_append,←Nat.add_assoc];exact hC
      · rw [←List.append_assoc];exact hO
      · rw [List.length_append,List.length_singleton];omega
  ·
    simp only [bls] at h8
    obtain ⟨hk1,s0,hsk⟩:=sc8 (show scX ds nf e env.length from hc.2) h8
    have m0:nth e.kids 0∈e.kids:=nth_mem (by omega) (by omega)
    have hd0:=nodesL_drop (l:=e.kids) (i:=0) (by omega) (by omega)
    rw [show e.kids.drop (0:Int).toNat=e.kids from rfl] at hd0
    replace hd0:nodesL e.kids=nodesE (nth e.kids 0)+nodesL (e.kids.drop 1):=hd0
    obtain ⟨g0,a1,a2,a3,j1,j2,r0⟩:=(hf.src hS.sub).ofExprD (i:=0) (by omega) (by omega)
    refine go_ix hf (by omega) (by omega) ?_
    refine ⟨_,_,g0,⟨a1,a2,a3⟩,?_⟩
    refine (H _ m0 u w a x _ z g0 xs env m sts I J R hx ht r0 hz ⟨can_kid hc.1 m0,s0⟩ (by omega) hv (by omega) (by omega) (by omega) hC hO hS).mono' ?_
    rintro _ w1 ⟨v0,rfl,u1,xs1,n0,I1,J1,hu1,hS,hC,hO,hP0,p0,p1⟩
    have hn0:=hP0.len
    refine ⟨v0,rfl,?_⟩
    refine st_own (α:=BlockD) (l:=[]) hS VsOf.nil rfl (by decide) fun y0 w2 K0 hs2 hS hOk=>?_
    refine (Mk.fz (c_consOfB (hx.mono hu1) ht.sm hin.2)).use hS ?_
    rintro _ w3 u3 hu3 hs3 hS ⟨zc,rfl,hzc⟩
    have hcn:=hzc.n
    refine ⟨zc,rfl,?_⟩
    have hU:=hu1.trans hu3
    refine ⟨fun y i w=>∃ (u4:World) (I J Kb:Items) (bs:List BlockD),Sub u3 u4∧St u4 w (Kb++(I++(J++R)))∧Own u4 y bs Kb∧Cel a [xs1.val,iV ((m+n0.length:Nat):Int)] I∧Own u4 xs1 (sts++n0) J∧(bs.length:Int)=i - 1∧(∀ j:Nat,∀ k:BlockD,bs[j]?=some k→PlB ds nf (nodesL (e.kids.drop 1)) (armW ds e.op e.num (m+n0.length) j) k)∧1≤i∧i≤e.kids.length,fun _ i _=>(e.kids.length - i).toNat,⟨u3,I1,J1,K0,[],.refl u3,hS,hOk.mono hu3,hC,hO.mono hu3,by simp,by simp,by omega,by omega⟩,?_⟩
    clear hS hOk hC hO
    rintro y i w ⟨u4,I,J,Kb,bs,hu4,hS,hOk,hC,hO,hbl,hbs,i0,i1⟩
    dsimp only
    refine ⟨fun hi=>?_,fun hi=>?_⟩
    · simp only [bls] at hi
      have hil:i < e.kids.length:=by omega
      have hmem:=nth_mem (l:=e.kids) (by omega) hil
      have hdi:=nodesL_drop (l:=e.kids) (i:=i) (by omega) hil
      have hle:nodesE (nth e.kids i)≤nodesL (e.kids.drop 1):=by
        refine nodes_mem ?_
        refine List.mem_of_getElem? (i:=i.toNat - 1) ?_
        rw [List.getElem?_drop,show 1+(i.toNat - 1)=i.toNat by omega]
        exact nth_get (by omega) hil
      obtain ⟨g,a1,a2,a3,j1,j2,rg⟩:=(((hf.mono hU).mono hu4).src hS.sub).ofExprD (i:=i) (by omega) hil
      refine ⟨fun hq=>?_,fun hq=>?_⟩
      · refine go_wr (by omega) (by omega) ?_
        have hcl:i - 1 < (consL ds e.num).length:=by omega
        refine go_ix hzc (by omega) hcl ?_
        obtain ⟨c1,c2⟩:=((hzc.mono hu4).src hS.sub).int (i:=i - 1) (by omega) hcl
        refine ⟨_,c1,?_⟩
        refine (c_conFieldsZ ((hx.mono hU).mono hu4) ht.sm c2).use hS ?_
        rintro _ w5 u5 hu5 hs5 hS ⟨z5,rfl,hz5⟩
        have hz5n:=hz5.n
        have hc3:=conF_len3 ht (nth (consL ds e.num) (i - 1))
        refine ⟨z5,rfl,?_⟩
        obtain ⟨g,a1,a2,a3,j1,j2,rg⟩:=((((hf.mono hU).mono hu4).mono hu5).src hS.sub).ofExprD (i:=i) (by omega) hil
        refine go_ix hf (by omega) hil ?_
        refine ⟨_,_,g,⟨a1,a2,a3⟩,?_⟩
        generalize hmany:(conF ds (nth (consL ds e.num) (i - 1))).length=many at hz5n hc3
        refine ⟨_,hC.load hS rfl,_,hC.load hS rfl,?_⟩
        refine go_wr (by omega) (by omega) ?_
        refine (c_numbersFrom (by omega) (by omega) (by omega) (by omega)).use hS ?_
        rintro _ w6 u6 J6 hu6 hs6 hS ⟨y6,rfl,hO6⟩
        refine ⟨y6,rfl,hs6,?_⟩
        obtain ⟨u7,hu7,hS,hJ⟩:=hS.freeze J6
        have hr6:=hO6.read1 hJ
        have hU7:=hu5.trans (hu6.trans hu7)
        have hnl6:(numsF ((m+n0.length:Nat):Int) (z5.n:Int)).length=many:=by rw [numsF_len];omega
        refine (Mk.fz (c_extend (((hz.mono hU).mono hu4).mono hU7) hr6 (by rw [hnl6];omega))).use hS ?_
        rintro _ w8 u8 hu8 hs8 hS ⟨z8,rfl,hz8⟩
        refine ⟨z8,rfl,hs8,?_⟩
        have hlow:=c_lowerBlockH (y:=yp) (m:=m+n0.length+many) (H _ hmem) ((((hx.mono hU).mono hu4).mono hU7).mono hu8) ht ((rg.mono (hu6.trans hu7)).mono hu8) hz8 ⟨can_kid hc.1 hmem,by rw [List.length_append,hnl6];rw [←hmany,show i - 1=((i.toNat - 1:Nat):Int) by omega];have hh:=hsk (i.toNat - 1) (by omega);rw [show ((i.toNat - 1+1:Nat):Int)=i by omega] at hh;exact hh⟩ (by omega) (fun t ht=>by
          rcases List.mem_append.1 ht with ht|ht
          · have:=hv t ht;omega
          · have:=numsF_mem ht;omega) (by rw [List.length_append,hnl6];omega) (by omega)
        rw [show ((m+n0.length+many:Nat):Int)=((m+n0.length:Nat):Int)+(z5.n:Int) by omega] at hlow
        refine hlow.use hS ?_
        rintro _ w9 u9 hu9 hs9 hS ⟨y9,b9,rfl,hy9,hb9,hP9⟩
        refine ⟨y9,_,rfl,?_⟩
        have hV:=hU7.trans (hu8.trans hu9)
        refine st_push (α:=BlockD) hS (hOk.mono hV) (vofBb hb9 hy9) (by omega) (by decide) (by decide) fun y10 w10 K10 hS hOk=>?_
        refine go_wr (by omega) (by omega) ?_
        refine ⟨rfl,rfl,rfl,rfl,rfl,⟨u9,I,J,K10,bs++[b9],hu4.trans hV,hS,hOk,hC,hO.mono hV,by simp;omega,?_,by omega,by omega⟩,by omega⟩
        intro j k hk
        by_cases hj:j < bs.length
        · rw [List.getElem?_append_left hj] at hk
          exact hbs j k hk
        · have hj2:j=bs.length:=by
            have:=(List.getElem?_eq_some_iff.1 hk).1
            simp at this
            omega
          subst hj2
          rw [List.getElem?_append_right (Nat.le_refl _),Nat.sub_self] at hk
          have hk:b9=k:=by simpa using hk
          subst hk
          refine PlB.le ?_ hle
          unfold armW
          rw [if_pos h8,show ((bs.length:Nat):Int)=i - 1 by omega,hmany]
          exact hP9
      · simp only [bls] at hq
        omega
    · simp only [bls] at hi
      refine st_bld (α:=Int) (l:=[v0]) hS (by exact VsOf.cons (VOf.int ⟨by omega,by omega⟩) VsOf.nil) rfl (by decide) fun xv w5 u5 hu5 hs5 hS hxv=>?_
      obtain ⟨u6,hu6,hS,hJ⟩:=hS.freeze Kb
      have hrk:=(hOk.mono hu5).read1 hJ
      refine (low_add hC ((hO.mono hu5).mono hu6) hS hin.1 hin.2 (hxv.mono hu6) hrk (by omega) (by simp;omega)).mono' ?_
      rintro _ w7 ⟨rfl,xs7,I7,J7,hC,hO,hS⟩
      have hone:PlL ds nf (nodesL (e.kids.drop 1)+1) (m+n0.length) [(⟨e.op,e.num,0,[v0],bs⟩:StepD)]:=by
        refine PlL.one ⟨by show 1≤5000;omega,by show bs.length≤5000;omega,hop.1,by show e.op≤11;omega,?_,fun h=>absurd (show e.op=9 from h) (by omega),fun _=>⟨by show 1≤1;omega,by show bs.length≤(consL ds e.num).length;omega⟩⟩ hbs
        intro t ht
        rw [List.mem_singleton.1 ht]
        exact ⟨p0,p1⟩
      have hsum:nodesL (e.kids.drop 1)+nodesE (nth e.kids 0)=nodesL e.kids:=by
        omega
      refine ⟨_,rfl,_,rfl,u6,xs7,n0++[⟨e.op,e.num,0,[v0],bs⟩],I7,J7,hU.trans (hu4.trans (hu5.trans hu6)),hS,?_,?_,(hP0.app hone).le (by omega),by omega,?_⟩
      · rw [List.length_append,←Nat.add_assoc];exact hC
      · rw [←List.append_assoc];exact hO
      · rw [List.length_append,List.length_singleton];omega
  ·
    simp only [bls] at h12 h13 h7 h8
    obtain ⟨_,g9,hsk⟩:=scG (show scX ds nf e env.length from hc.2) h12 h13 h8
    refine st_own (α:=Int) (l:=[]) hS VsOf.nil rfl (by decide) fun y0 w0 K0 hs0 hS hOa=>?_
    refine ⟨fun y i w=>∃ (u1:World) (xs1:Sl) (news:List StepD) (I J Ka:Items) (vs:List Int) (dn:Nat),Sub u u1∧St u1 w (Ka++(I++(J++R)))∧Own u1 y vs Ka∧Cel a [xs1.val,iV ((m+news.length:Nat):Int)] I∧Own u1 xs1 (sts++news) J∧PlL ds nf dn m news∧dn+nodesL (e.kids.drop i.toNat)=nodesL e.kids∧(∀ v∈vs,0≤v∧v < ((m+news.length:Nat):Int))∧(vs.length:Int)=i∧0≤i∧i≤e.kids.length,fun _ i _=>(e.kids.length - i).toNat,⟨u,xs,[],I,J,K0,[],0,.refl u,hS,hOa,by simpa using hC,by simpa using hO,.nil,by simp,by simp,by simp,by omega,by omega⟩,?_⟩
    clear hS hOa hs0 hC hO
    rintro y i w ⟨u1,xs1,news,I,J,Ka,vs,dn,hu1,hS,hOa,hC,hO,hP,hdn,hvs,hvl,i0,i1⟩
    dsimp only
    have hnw:=hP.len
    refine ⟨fun hi=>?_,fun hi=>?_⟩
    · simp only [bls] at hi
      have hil:i < e.kids.length:=by omega
      have hmem:=nth_mem (l:=e.kids) i0 hil
      have hdi:=nodesL_drop i0 hil
      obtain ⟨g,a1,a2,a3,j1,j2,rg⟩:=((hf.mono hu1).src hS.sub).ofExprD i0 hil
      refine go_ix hf i0 hil ?_
      refine ⟨_,_,g,⟨a1,a2,a3⟩,?_⟩
      refine (H _ hmem u1 w a x _ z g xs1 env (m+news.length) (sts++news) I J (Ka++R) (hx.mono hu1) ht rg (hz.mono hu1) ⟨can_kid hc.1 hmem,hsk _ hmem⟩ (by omega) (fun t ht=>by have:=hv t ht;omega) (by omega) (by omega) (by simp;omega) hC hO hS.to).mono' ?_
      rintro _ w2 ⟨v2,rfl,u2,xs2,n2,I2,J2,hu2,hS,hC,hO,hP2,q0,q1⟩
      have hn2:=hP2.len
      refine ⟨v2,rfl,?_⟩
      refine st_push (α:=Int) (R:=I2++(J2++R)) hS.to (hOa.mono hu2) (VOf.int ⟨by omega,by omega⟩) (by omega) (by decide) (by decide) fun y' w3 K3 hS hOa=>?_
      refine go_wr (by omega) (by omega) ?_
      refine ⟨rfl,rfl,rfl,rfl,rfl,⟨u2,xs2,news++n2,I2,J2,K3,vs++[v2],dn+nodesE (nth e.kids i),hu1.trans hu2,hS,hOa,?_,?_,hP.app hP2,by omega,?_,by simp;omega,by omega,by omega⟩,by omega⟩
      · rw [List.length_append,←Nat.add_assoc];exact hC
      · rw [←List.append_assoc];exact hO
      · intro t ht
        rcases List.mem_append.1 ht with ht|ht
        · have:=hvs t ht;rw [List.length_append];omega
        · rw [List.mem_singleton.1 ht,List.length_append,←Nat.add_assoc];exact ⟨q0,q1⟩
    · simp only [bls] at hi
      rw [List.drop_eq_nil_of_le (by omega),nodesL_nil] at hdn
      obtain ⟨u2,hu2,hS,hJ⟩:=hS.freeze Ka
      have hra:=hOa.read1 hJ
      refine st_bld (α:=BlockD) (l:=[]) hS VsOf.nil rfl (by decide) fun xk w3 u3 hu3 hs3 hS hxk=>?_
      refine (low_add hC ((hO.mono hu2).mono hu3) hS hin.1 hin.2 (hra.mono hu3) hxk (by omega) (by simp;omega)).mono' ?_
      rintro _ w4 ⟨rfl,xs4,I4,J4,hC,hO,hS⟩
      have hone:PlL ds nf 1 (m+news.length) [(⟨e.op,e.num,0,vs,[]⟩:StepD)]:=by
        refine PlL.one ⟨by show vs.length≤5000;omega,Nat.zero_le _,hop.1,by show e.op≤11;omega,hvs,fun h=>g9 (.inl h),fun h=>absurd h h8⟩ ?_
        intro i k hk
        simp at hk
      refine ⟨_,rfl,_,rfl,u3,xs4,news++[⟨e.op,e.num,0,vs,[]⟩],I4,J4,hu1.trans (hu2.trans hu3),hS,?_,?_,(hP.app hone).le (by omega),by omega,?_⟩
      · rw [List.length_append,←Nat.add_assoc];exact hC
      · rw [←List.append_assoc];exact hO
      · rw [List.length_append,List.length_singleton];omega
end
def fnR (r:RoutD):FuncD:=⟨r.params,r.result⟩
section
variable {v w:World} {x y z:Sl} {ds:List DeclD} {rs:List RoutD} {n i:Int} {b:BlockD} {I:Items}
theorem nth_fnR (rs:List RoutD) (i:Int):nth (rs.map fnR) i=fnR (nth rs i):=by
  unfold nth List.getD
  rw [List.getElem?_map]
  cases rs[i.toNat]?<;>rfl
theorem sig_iff:sigSigs ds (rs.map sgOf)↔rs.length≤4∧fnSigs ds (rs.map fnR)∧∀ i:Int,0≤i→i < rs.length→lentOk (nth rs i).params (nth rs i).lent:=by
  unfold sigSigs fnSigs
  simp only [List.length_map,nth_sg,nth_fnR]
  constructor
  · rintro ⟨h1,h2,h3,h4,h5,h6⟩
    exact ⟨h3,⟨h1,h2,h3,fun i i0 i1=>(h6 i i0 i1).1,h4,h5⟩,fun i i0 i1=>(h6 i i0 i1).2⟩
  · rintro ⟨h3,⟨h1,h2,_,h6,h4,h5⟩,h7⟩
    exact ⟨h1,h2,h3,h4,h5,fun i i0 i1=>⟨h6 i i0 i1,h7 i i0 i1⟩⟩
theorem c_sigsOf (hy:Read v y rs):Mk Tryz.prog 159 #[.agg #[x.val,y.val]] v fun r J=>∃ z,r=.agg #[x.val,z.val]∧Own v z (rs.map fnR) J:=by
  refine of159 _ _ _ _ ?_
  unfold vc159
  have hyn:=hy.n
  have hyl:=hy.le
  have hS:=St.refl v
  refine St.build (α:=FuncD) hS (by (repeat' (first|exact VsOf.nil|apply VsOf.cons|(apply VOf.int;first|assumption|(constructor<;>first|omega|(simp only [lz] at *;omega)))|exact VOf.bool|exact VOf.str))) rfl (by decide) ?_
  intro z0 w0 I0 hO0 hS hs
  refine ⟨_,rfl,?_⟩
  refine ⟨fun i z w=>∃ I,Own v z ((rs.take i.toNat).map fnR) I∧St v w (I++[])∧0≤i∧i≤rs.length,fun i _ _=>(rs.length - i).toNat,⟨I0,hO0,hS,by omega,by omega⟩,?_⟩
  clear hO0 hS hs
  rintro i z w ⟨I,hO,hS,i0,i1⟩
  dsimp only
  refine ⟨fun hi=>?_,fun hi=>?_⟩
  · simp only [bls] at hi
    have hil:i < rs.length:=by omega
    obtain ⟨f1,f2,f3,e1,e2,e3,e4,e5,j1,j2,r1,r2,r3⟩:=(hy.src hS.sub).ofRoutD i0 hil
    refine go_ix hy i0 hil ?_
    refine ⟨f1,e1,?_⟩
    refine go_ix hy i0 hil ?_
    refine ⟨_,e3,?_⟩
    refine St.build (α:=FuncD) (l:=[fnR (nth rs i)]) hS (.cons ⟨rfl,f1,rfl,j1,r1⟩ .nil) rfl (by decide) ?_
    intro x4 w4 I4 hO4 hS hs
    refine ⟨_,rfl,hs,?_⟩
    refine Own.append hO hS (Own.src hO4 hS) (by simp;omega) (by decide) ?_
    intro x5 w5 I5 hO5 hS
    refine ⟨_,rfl,?_⟩
    refine go_wr (by omega) (by omega) ?_
    refine ⟨rfl,rfl,rfl,rfl,rfl,⟨I5,?_,hS.to,by omega,by omega⟩,by omega⟩
    rw [take_nth i0 hil,List.map_append]
    exact hO5
  · simp only [bls] at hi
    rw [take_all (by omega)] at hO
    exact ⟨I,by simpa using hS,z,rfl,hO⟩
theorem c_validNormalSigs (hx:Read v x ds) (hy:Read v y rs):Fn Tryz.prog 116 #[.agg #[x.val,y.val]] v (.bool (pB (sigSigs ds (rs.map sgOf)))):=by
  refine of116 _ _ _ _ ?_
  unfold vc116
  have hyn:=hy.n
  have hyl:=hy.le
  refine ⟨fun hc=>?_,fun hc=>⟨?_,.refl v⟩⟩
  · simp only [bls] at hc
    refine Mk.use (c_sigsOf hy) (.refl v) ?_
    rintro _ w1 J1 ⟨z,rfl,hO⟩ hS hs
    refine ⟨_,_,rfl,_,c_specValidSigs (hx.mono hs) (hO.read hS),fun hq=>⟨?_,hs⟩,fun hq=>?_⟩
    · simp only [bls] at hq
      rw [pB_f]
      intro hh
      rw [pB_t (sig_iff.1 hh).2.1] at hq
      cases hq
    · simp only [bls] at hq
      have hsg:=pB_iff.1 hq
      refine ⟨fun i w=>Sub w1 w∧0≤i∧i≤rs.length∧∀ j:Int,0≤j→j < i→lentOk (nth rs j).params (nth rs j).lent,fun i _=>(rs.length - i).toNat,⟨.refl _,by omega,by omega,fun j j0 j1=>by omega⟩,?_⟩
      rintro i w ⟨hw1,i0,i1,hj⟩
      dsimp only
      have hw:=hs.trans hw1
      refine ⟨fun hi=>?_,fun hi=>?_⟩
      · simp only [bls] at hi
        have hil:i < rs.length:=by omega
        obtain ⟨f1,f2,f3,e1,e2,e3,e4,e5,j1,j2,r1,r2,r3⟩:=(hy.src hw).ofRoutD i0 hil
        refine go_ix hy i0 hil ?_
        refine ⟨f1,e1,?_⟩
        refine go_ix hy i0 hil ?_
        refine ⟨f2,e2,_,c_validLent (r1.mono hw) (r2.mono hw),fun hq=>⟨?_,hw⟩,fun hq=>?_⟩
        · simp only [bls] at hq
          rw [pB_f]
          intro hh
          rw [lentB_iff.2 ((sig_iff.1 hh).2.2 i i0 hil)] at hq
          cases hq
        · simp only [bls] at hq
          refine go_wr (by omega) (by omega) ?_
          refine ⟨rfl,rfl,⟨hw1,by omega,by omega,fun j j0 j1=>?_⟩,by omega⟩
          by_cases e:j=i
          · subst e;exact lentB_iff.1 hq
          · exact hj j j0 (by omega)
      · simp only [bls] at hi
        refine ⟨?_,hw⟩
        rw [pB_t]
        exact sig_iff.2 ⟨by omega,hsg,fun j j0 j1=>hj j j0 (by omega)⟩
  · simp only [bls] at hc
    rw [pB_f]
    intro hh
    have:=(sig_iff.1 hh).1
    omega
theorem nrm_bound (h:sigSigs ds (rs.map sgOf)) (h0:0≤i) (h1:i < rs.length):nonneg (nth rs i).params∧(nth rs i).params.length≤3:=by
  have:=sig_nn (i:=i) h h0 (by rw [List.length_map];exact h1)
  rw [nth_sg] at this
  exact ⟨this.1,this.2.2⟩
theorem c_validNormal (hx:Read v x ds) (hy:Read v y rs):Fn Tryz.prog 88 #[.agg #[x.val,y.val]] v (.bool (pB (nrmOk ds rs))):=by
  refine of88 _ _ _ _ ?_
  unfold vc88
  have hyn:=hy.n
  have hyl:=hy.le
  refine ⟨_,c_validNormalSigs hx hy,fun hq=>⟨?_,.refl v⟩,fun hq=>?_⟩
  · simp only [bls] at hq
    rw [pB_f]
    intro hh
    rw [pB_t hh.1] at hq
    cases hq
  simp only [bls] at hq
  have hsg:=pB_iff.1 hq
  refine ⟨fun i w=>w=v∧0≤i∧i≤rs.length∧∀ j:Int,0≤j→j < i→cntB (nth rs j).body≤600∧blkT ds (rs.map sgOf) (nth rs j).params (nth rs j).body=some (nth rs j).result,fun i _=>(rs.length - i).toNat,⟨rfl,by omega,by omega,fun j j0 j1=>by omega⟩,?_⟩
  rintro i _ ⟨rfl,i0,i1,hj⟩
  dsimp only
  refine ⟨fun hi=>?_,fun hi=>?_⟩
  · simp only [bls] at hi
    have hil:i < rs.length:=by omega
    obtain ⟨f1,f2,f3,e1,e2,e3,e4,e5,j1,j2,r1,r2,r3⟩:=(hy.src (.refl _)).ofRoutD i0 hil
    obtain ⟨hnn,hpl⟩:=nrm_bound hsg i0 hil
    have hrr:=sig_nn (i:=i) hsg i0 (by rw [List.length_map];exact hil)
    rw [nth_sg] at hrr
    refine go_ix hy i0 hil ?_
    refine ⟨f1,f2,_,f3,_,⟨e1,e2,e3,e4,e5⟩,_,c_stepsOf (b:=(nth rs i).body) r3,gD (blkT ds (rs.map sgOf) (nth rs i).params (nth rs i).body),fun hc=>?_,fun hc=>⟨?_,.refl _⟩,fun hc=>?_⟩
    · simp only [bls] at hc
      have hle:cntB (nth rs i).body≤600:=Classical.byContradiction fun hh=>by rw [if_neg hh] at hc;omega
      exact c_blockTypeS (nth rs i).body _ _ _ _ _ _ ⟨hx,hy,hsg⟩ r1 hnn r3 j2 (by omega)
    · rw [pB_f]
      intro hh
      obtain ⟨g1,g2⟩:=hh.2 i i0 hil
      rw [if_pos g1,g2,gD_some] at hc
      simp at hc
      omega
    · simp only [bls] at hc
      have hle:cntB (nth rs i).body≤600:=Classical.byContradiction fun hh=>by rw [if_neg hh] at hc;omega
      refine go_wr (by omega) (by omega) ?_
      refine ⟨rfl,rfl,⟨rfl,by omega,by omega,fun j j0 j1=>?_⟩,by omega⟩
      by_cases e:j=i
      · subst e
        refine ⟨hle,?_⟩
        have hr0:0≤(nth rs j).result:=hrr.2.1.1
        rw [←hc.2]
        exact gD_eq (by rw [hc.2];exact hr0)
      · exact hj j j0 (by omega)
  · simp only [bls] at hi
    refine ⟨?_,.refl _⟩
    rw [pB_t]
    exact ⟨hsg,fun j j0 j1=>hj j j0 (by omega)⟩
end
structure ArmK where
  matched:Int
  first:Int
  con:Int
  fields:List Int
instance:Inhabited ArmK:=⟨⟨0,0,0,[]⟩⟩
instance:Dat ArmK where
  sz:=4
  cells B w cs c:=∃ f:Sl,cs=[intV c.matched,intV c.first,f.val,.bool false]∧InI c.matched∧InI c.first∧ReadB B w f c.fields
  mono:=fun hs ⟨f,h0,i,j,r⟩=>⟨f,h0,i,j,r.mono hs⟩
  len:=fun ⟨f,h0,_⟩=>by rw [h0];rfl
  one:=fun ⟨f,h0,_⟩ v hv=>by
    rw [h0] at hv;simp only [List.mem_cons,List.not_mem_nil,or_false] at hv
    rcases hv with rfl|rfl|rfl|rfl<;>rfl
structure BalS where
  vars:List Int
  own:List Int
  tok:List Int
def inArm (v:Int) (a:ArmK):Bool:=decide (a.first≤v) && decide (v < a.first+a.fields.length)
def armFor (arms:List ArmK) (v:Int):Option ArmK:=arms.find? (inArm v)
def armOf (arms:List ArmK) (v:Int):Option ArmK:=arms.reverse.find? fun a=>decide (a.matched=v)
inductive AlB (arms:List ArmK) (lent own:List Int):Int→Prop where
  | own {v:Int}:0 < nth own v→AlB arms lent own v
  | lent {v:Int}:v∈lent→AlB arms lent own v
  | up {v:Int} {a:ArmK}:armFor arms v=some a→AlB arms lent own a.matched→AlB arms lent own v
theorem AlB.inv {arms:List ArmK} {lent own:List Int} {v:Int} (h:AlB arms lent own v):0 < nth own v∨v∈lent∨∃ a,armFor arms v=some a∧AlB arms lent own a.matched:=by
  cases h with
  | own h=>exact .inl h
  | lent h=>exact .inr (.inl h)
  | up h1 h2=>exact .inr (.inr ⟨_,h1,h2⟩)
def incB (σ:BalS) (v:Int):BalS:=⟨σ.vars,σ.own.set v.toNat (nth σ.own v+1),σ.tok⟩
def takeB (σ:BalS) (v:Int):Option BalS:=if nth σ.own v < 1 then none else some ⟨σ.vars,σ.own.set v.toNat (nth σ.own v - 1),σ.tok⟩
def tokB (σ:BalS) (v k:Int):BalS:=⟨σ.vars,σ.own,σ.tok.set v.toNat k⟩
def incsB (σ:BalS) (first:Int) (fields:List Int):Nat→BalS
  | 0=>σ
  | k+1=>if nth fields (k:Int)≠0 then incB (incsB σ first fields k) (first+k) else incsB σ first fields k
open Classical in
noncomputable def openB (arms:List ArmK) (σ:BalS) (op v:Int):Option BalS:=
  match armOf arms v with
  | none=>none
  | some a=>if op=17∧0≤nth σ.tok v then none else (takeB σ v).map fun σ'=>if op=17 then tokB (incsB σ' a.first a.fields a.fields.length) v a.fields.length else incsB σ' a.first a.fields a.fields.length
def isCons (op:Int):Prop:=op=6∨op=9∨op=10∨op=11
def lentAtB (ss:List SigD) (op num:Int) (i:Int):Prop:=op=9∧i∈(nth ss num).lent
def consAt (ss:List SigD) (vars:List Int) (op num:Int) (args:List Int) (i:Int):Prop:=isCons op∧nth vars (nth args i)≠0∧¬ lentAtB ss op num i
open Classical in
noncomputable def takesB (ss:List SigD) (op num:Int) (args:List Int):Nat→BalS→Option BalS
  | 0,σ=>some σ
  | i+1,σ=>(takesB ss op num args i σ).bind fun σ'=>if consAt ss σ'.vars op num args (i:Int) then takeB σ' (nth args (i:Int)) else some σ'
def lentsOk (ss:List SigD) (lent:List Int) (arms:List ArmK) (op num:Int) (args:List Int) (σ:BalS):Prop:=∀ i:Int,0≤i→i < args.length→lentAtB ss op num i→AlB arms lent σ.own (nth args i)
def intoB (into:Int) (args:List Int) (σ:BalS):Option BalS:=if into=0 then some σ else if nth σ.tok (into - 1)≠args.length then none else some (tokB σ (into - 1) (-1))
open Classical in
noncomputable def handB (ss:List SigD) (lent:List Int) (arms:List ArmK) (op num into:Int) (args:List Int) (σ:BalS):Option BalS:=
  (takesB ss op num args args.length σ).bind fun σ'=>if lentsOk ss lent arms op num args σ' then intoB into args σ' else none
def growB (σ:BalS) (t o:Int):BalS:=⟨σ.vars++[t],σ.own++[o],σ.tok++[-1]⟩
def oneOf (t:Int):Int:=if t≠0 then 1 else 0
def joinB:List (Option (List Int×List Int))→Option (List Int×List Int)
  | some p ::r=>if ∀ q∈r,q=some p then some p else none
  | _=>none
open Classical in
noncomputable def endB (σ:BalS) (result:Int) (m:Nat):Option (List Int×List Int):=
  (if nth σ.vars result≠0 then takeB σ result else some σ).bind fun σ'=>
    if ∀ v:Int,m≤v→v < σ'.vars.length→nth σ'.own v=0∧nth σ'.tok v < 0 then some (σ'.own.take m,σ'.tok.take m) else none
def kidS (σ:BalS) (fields:List Int):BalS:=⟨σ.vars++fields,σ.own++List.replicate fields.length 0,σ.tok++List.replicate fields.length (-1)⟩
noncomputable def kidF (ds:List DeclD) (op c:Int):List Int:=if op=8 then conF ds c else []
noncomputable def kidA (ds:List DeclD) (arms:List ArmK) (op v:Int) (m:Nat) (c:Int):List ArmK:=if op=8 then arms++[⟨v,m,c,conF ds c⟩] else arms
section
open Classical
mutual
noncomputable def bkB (ds:List DeclD) (ss:List SigD) (lent:List Int) (arms:List ArmK) (σ:BalS) (m:Nat):BlockD→Option (List Int×List Int)
  | ⟨steps,result⟩=>match stsB ds ss lent arms σ steps with
    | none=>none
    | some σ'=>endB σ' result m
noncomputable def stsB (ds:List DeclD) (ss:List SigD) (lent:List Int) (arms:List ArmK) (σ:BalS):List (StepP BlockD)→Option BalS
  | []=>some σ
  | s ::r=>match stB ds ss lent arms σ s with
    | none=>none
    | some σ'=>stsB ds ss lent arms σ' r
noncomputable def stB (ds:List DeclD) (ss:List SigD) (lent:List Int) (arms:List ArmK) (σ:BalS):StepP BlockD→Option BalS
  | ⟨op,num,into,args,kids⟩=>
    if op=14 then (if AlB arms lent σ.own (nth args 0) then some (incB σ (nth args 0)) else none)
    else if op=15 then takeB σ (nth args 0)
    else if op=16∨op=17 then openB arms σ op (nth args 0)
    else if op=7∨op=8 then
      (if op=8∧¬ AlB arms lent σ.own (nth args 0) then none
       else match joinB (kdsB ds ss lent arms σ op (nth args 0) (consL ds num) kids) with
        | none=>none
        | some p=>some (growB ⟨σ.vars,p.1,p.2⟩ (gD (stpT ds ss σ.vars ⟨op,num,into,args,kids⟩)) (oneOf (gD (stpT ds ss σ.vars ⟨op,num,into,args,kids⟩)))))
    else match handB ss lent arms op num into args σ with
      | none=>none
      | some σ'=>some (growB σ' (gD (stpT ds ss σ.vars ⟨op,num,into,args,kids⟩)) (oneOf (gD (stpT ds ss σ.vars ⟨op,num,into,args,kids⟩))))
noncomputable def kdsB (ds:List DeclD) (ss:List SigD) (lent:List Int) (arms:List ArmK) (σ:BalS) (op v:Int):List Int→List BlockD→List (Option (List Int×List Int))
  | cs,b ::r=>bkB ds ss lent (kidA ds arms op v σ.vars.length (nth cs 0)) (kidS σ (kidF ds op (nth cs 0))) σ.vars.length b ::kdsB ds ss lent arms σ op v (cs.drop 1) r
  | _,[]=>[]
end
end
structure WfB (ds:List DeclD) (arms:List ArmK) (B:Nat) (σ:BalS):Prop where
  l1:σ.own.length=σ.vars.length
  l2:σ.tok.length=σ.vars.length
  vn:nonneg σ.vars
  ow:∀ n∈σ.own,0≤n∧n≤B
  tk:∀ n∈σ.tok,-1≤n∧n≤3
  ar:∀ a∈arms,0≤a.matched∧a.matched < a.first∧a.first+a.fields.length≤σ.vars.length∧0≤a.con∧a.fields=conF ds a.con
section
variable {ds:List DeclD} {ss:List SigD} {arms:List ArmK} {lent args vars:List Int} {σ σ':BalS} {B B':Nat} {v t o k i op num into:Int} {s:StepD} {b:BlockD} {r:List StepD} {l:List BlockD} {cs:List Int} {a:ArmK} {m:Nat} {p:List Int×List Int}
theorem stsB_nil:stsB ds ss lent arms σ []=some σ:=by rw [stsB]
theorem stsB_cons:stsB ds ss lent arms σ (s ::r)=match stB ds ss lent arms σ s with
    | none=>none
    | some σ'=>stsB ds ss lent arms σ' r:=by rw [stsB]
theorem bkB_eq:bkB ds ss lent arms σ m b=match stsB ds ss lent arms σ b.steps with
    | none=>none
    | some σ'=>endB σ' b.result m:=by cases b;rw [bkB]
open Classical in
theorem stB_eq:stB ds ss lent arms σ s=
    if s.op=14 then (if AlB arms lent σ.own (nth s.args 0) then some (incB σ (nth s.args 0)) else none)
    else if s.op=15 then takeB σ (nth s.args 0)
    else if s.op=16∨s.op=17 then openB arms σ s.op (nth s.args 0)
    else if s.op=7∨s.op=8 then
      (if s.op=8∧¬ AlB arms lent σ.own (nth s.args 0) then none
       else match joinB (kdsB ds ss lent arms σ s.op (nth s.args 0) (consL ds s.num) s.kids) with
        | none=>none
        | some p=>some (growB ⟨σ.vars,p.1,p.2⟩ (gD (stpT ds ss σ.vars s)) (oneOf (gD (stpT ds ss σ.vars s)))))
    else match handB ss lent arms s.op s.num s.into s.args σ with
      | none=>none
      | some σ'=>some (growB σ' (gD (stpT ds ss σ.vars s)) (oneOf (gD (stpT ds ss σ.vars s)))):=by cases s;rw [stB]
theorem kdsB_cons:kdsB ds ss lent arms σ op v cs (b ::l)=bkB ds ss lent (kidA ds arms op v σ.vars.length (nth cs 0)) (kidS σ (kidF ds op (nth cs 0))) σ.vars.length b ::kdsB ds ss lent arms σ op v (cs.drop 1) l:=by rw [kdsB]
theorem kdsB_nil:kdsB ds ss lent arms σ op v cs []=[]:=by rw [kdsB]
theorem kdsB_len:∀ (l:List BlockD) (cs:List Int),(kdsB ds ss lent arms σ op v cs l).length=l.length
  | [],cs=>by rw [kdsB_nil];rfl
  | b ::l,cs=>by rw [kdsB_cons,List.length_cons,List.length_cons,kdsB_len l]
theorem nth_drop1 (cs:List Int) (i:Nat):nth (cs.drop 1) ((i:Nat):Int)=nth cs ((i+1:Nat):Int):=by
  unfold nth;simp only [List.getD,List.getElem?_drop,Int.toNat_natCast];rw [Nat.add_comm]
theorem kdsB_get:∀ (l:List BlockD) (cs:List Int) (i:Nat),(kdsB ds ss lent arms σ op v cs l)[i]?=(l[i]?).map fun b=>bkB ds ss lent (kidA ds arms op v σ.vars.length (nth cs i)) (kidS σ (kidF ds op (nth cs i))) σ.vars.length b
  | [],cs,i=>by rw [kdsB_nil];simp
  | b ::l,cs,0=>by rw [kdsB_cons];simp
  | b ::l,cs,i+1=>by
    rw [kdsB_cons,List.getElem?_cons_succ,kdsB_get l,List.getElem?_cons_succ,nth_drop1]
theorem kdsB_nth {i:Int} (h0:0≤i) (h1:i < l.length):(kdsB ds ss lent arms σ op v cs l)[i.toNat]?=some (bkB ds ss lent (kidA ds arms op v σ.vars.length (nth cs i)) (kidS σ (kidF ds op (nth cs i))) σ.vars.length (nth l i)):=by
  rw [kdsB_get,nth_get h0 h1,Option.map_some,show ((i.toNat:Nat):Int)=i from by omega]
theorem joinB_some {l:List (Option (List Int×List Int))} (h:joinB l=some p):l≠[]∧∀ q∈l,q=some p:=by
  unfold joinB at h
  split at h
  · split at h
    · rename_i hr
      cases h
      refine ⟨by simp,fun q hq=>?_⟩
      rcases List.mem_cons.1 hq with e|hq
      · exact e
      · exact hr q hq
    · cases h
  · cases h
theorem joinB_of {l:List (Option (List Int×List Int))} (hl:l≠[]) (h:∀ q∈l,q=some p):joinB l=some p:=by
  match l,hl,h with
  | q ::r,_,h=>
    have e:=h q (by simp)
    subst e
    exact if_pos fun q hq=>h q (List.mem_cons_of_mem _ hq)
theorem joinB_none {l:List (Option (List Int×List Int))} (h:∀ p,joinB l≠some p):joinB l=none:=by
  cases hj:joinB l with
  | none=>rfl
  | some p=>exact absurd hj (h p)
theorem kidsB_all (hl:l≠[]) (h:∀ j:Int,0≤j→j < l.length→bkB ds ss lent (kidA ds arms op v σ.vars.length (nth cs j)) (kidS σ (kidF ds op (nth cs j))) σ.vars.length (nth l j)=some p):joinB (kdsB ds ss lent arms σ op v cs l)=some p:=by
  refine joinB_of (fun hn=>hl (List.eq_nil_of_length_eq_zero (by rw [←kdsB_len (ds:=ds) (ss:=ss) (lent:=lent) (arms:=arms) (σ:=σ) (op:=op) (v:=v) l cs,hn];rfl))) fun q hq=>?_
  obtain ⟨j,hj,rfl⟩:=List.getElem_of_mem hq
  have hj':=hj
  rw [kdsB_len] at hj'
  have e:=kdsB_nth (ds:=ds) (ss:=ss) (lent:=lent) (arms:=arms) (σ:=σ) (op:=op) (v:=v) (cs:=cs) (l:=l) (i:=(j:Int)) (by omega) (by omega)
  rw [show ((j:Int)).toNat=j from by omega,List.getElem?_eq_getElem hj] at e
  simp only [Option.some.injEq] at e
  rw [e]
  exact h j (by omega) (by omega)
theorem kidsB_some (h:joinB (kdsB ds ss lent arms σ op v cs l)=some p) {j:Int} (h0:0≤j) (h1:j < l.length):bkB ds ss lent (kidA ds arms op v σ.vars.length (nth cs j)) (kidS σ (kidF ds op (nth cs j))) σ.vars.length (nth l j)=some p:=
  (joinB_some h).2 _ (List.mem_of_getElem? (kdsB_nth h0 h1))
theorem mem_setI {l:List Int} {i:Nat} {a n:Int} (h:n∈l.set i a):n∈l∨n=a:=List.mem_or_eq_of_mem_set h
theorem nth_memD {l:List Int} {B:Int} (h:∀ n∈l,0≤n∧n≤B) (hB:0≤B) (i:Int):0≤nth l i∧nth l i≤B:=by
  unfold nth
  rw [List.getD]
  cases hg:l[i.toNat]? with
  | none=>exact ⟨Int.le_refl _,hB⟩
  | some a=>exact h a (List.mem_of_getElem? hg)
theorem WfB.mono (h:WfB ds arms B σ) (hb:B≤B'):WfB ds arms B' σ:=⟨h.l1,h.l2,h.vn,fun n hn=>by have:=h.ow n hn;omega,h.tk,h.ar⟩
theorem WfB.inc (h:WfB ds arms B σ):WfB ds arms (B+1) (incB σ v):=by
  refine ⟨by unfold incB;simpa using h.l1,h.l2,h.vn,fun n hn=>?_,h.tk,h.ar⟩
  have hb:=nth_memD (B:=(B:Int)) h.ow (by omega) v
  rcases mem_setI hn with hn|rfl
  · have:=h.ow n hn;omega
  · omega
theorem WfB.take (h:WfB ds arms B σ) (ht:takeB σ v=some σ'):WfB ds arms B σ'∧σ'.vars=σ.vars∧σ'.tok=σ.tok:=by
  unfold takeB at ht
  split at ht
  · cases ht
  · cases ht
    have hb:=nth_memD (B:=(B:Int)) h.ow (by omega) v
    refine ⟨⟨by simpa using h.l1,h.l2,h.vn,fun n hn=>?_,h.tk,h.ar⟩,rfl,rfl⟩
    rcases mem_setI hn with hn|rfl
    · exact h.ow n hn
    · omega
theorem WfB.tok (h:WfB ds arms B σ) (hk:-1≤k∧k≤3):WfB ds arms B (tokB σ v k):=by
  refine ⟨h.l1,by unfold tokB;simpa using h.l2,h.vn,h.ow,fun n hn=>?_,h.ar⟩
  rcases mem_setI hn with hn|rfl
  · exact h.tk n hn
  · exact hk
theorem incB_own (h0:0≤v) (h1:v < σ.own.length) (hi:0≤i):nth (incB σ v).own i=if i=v then nth σ.own v+1 else nth σ.own i:=by
  unfold incB
  exact nth_set _ _ _ _ h0 h1 hi
theorem incsB_keep (first:Int) (fields:List Int):∀ k:Nat,(incsB σ first fields k).vars=σ.vars∧(incsB σ first fields k).tok=σ.tok∧(incsB σ first fields k).own.length=σ.own.length
  | 0=>⟨rfl,rfl,rfl⟩
  | k+1=>by
    obtain ⟨h1,h2,h3⟩:=incsB_keep first fields k
    rw [incsB]
    split
    · exact ⟨h1,h2,by unfold incB;simpa using h3⟩
    · exact ⟨h1,h2,h3⟩
theorem incsB_own (first:Int) (fields:List Int) (h0:0≤first):∀ k:Nat,first+k≤σ.own.length→∀ i:Int,0≤i→nth (incsB σ first fields k).own i=if first≤i∧i < first+k∧nth fields (i - first)≠0 then nth σ.own i+1 else nth σ.own i
  | 0,_,i,hi=>by rw [if_neg (by omega)];rfl
  | k+1,hk,i,hi=>by
    have ih:=incsB_own first fields h0 k (by omega) i hi
    obtain ⟨_,_,h3⟩:=incsB_keep (σ:=σ) first fields k
    rw [incsB]
    split
    · rename_i hne
      rw [incB_own (by omega) (by omega) hi]
      by_cases e:i=first+k
      · subst e
        rw [if_pos rfl,ih,if_neg (by omega),if_pos ⟨by omega,by omega,by rw [show first+(k:Int) - first=(k:Int) from by omega];exact hne⟩]
      · rw [if_neg e,ih]
        by_cases hc:first≤i∧i < first+k∧nth fields (i - first)≠0
        · rw [if_pos hc,if_pos ⟨hc.1,by omega,hc.2.2⟩]
        · rw [if_neg hc,if_neg fun hh=>hc ⟨hh.1,by omega,hh.2.2⟩]
    · rename_i hne
      rw [ih]
      by_cases hc:first≤i∧i < first+k∧nth fields (i - first)≠0
      · rw [if_pos hc,if_pos ⟨hc.1,by omega,hc.2.2⟩]
      · rw [if_neg hc,if_neg]
        rintro ⟨g1,g2,g3⟩
        by_cases e:i=first+k
        · subst e
          rw [show first+(k:Int) - first=(k:Int) from by omega] at g3
          exact hne g3
        · exact hc ⟨g1,by omega,g3⟩
theorem WfB.incs (h:WfB ds arms B σ) (first:Int) (fields:List Int) (h0:0≤first) (h1:first+fields.length≤σ.own.length):WfB ds arms (B+1) (incsB σ first fields fields.length):=by
  obtain ⟨k1,k2,k3⟩:=incsB_keep (σ:=σ) first fields fields.length
  refine ⟨by rw [k3,k1];exact h.l1,by rw [k2,k1];exact h.l2,by rw [k1];exact h.vn,fun n hn=>?_,by rw [k2];exact h.tk,by rw [k1];exact h.ar⟩
  obtain ⟨j,hj,rfl⟩:=List.getElem_of_mem hn
  have e:=incsB_own (σ:=σ) first fields h0 fields.length h1 (j:Int) (by omega)
  rw [nth_of (a:=(incsB σ first fields fields.length).own[j]) (by simp [hj])] at e
  have hb:=nth_memD (B:=(B:Int)) h.ow (by omega) (j:Int)
  rw [e]
  split<;>omega
theorem armOf_mem (h:armOf arms v=some a):a∈arms∧a.matched=v:=by
  unfold armOf at h
  have h1:=List.mem_of_find?_eq_some h
  have h2:=List.find?_some h
  exact ⟨List.mem_reverse.1 h1,of_decide_eq_true h2⟩
theorem armFor_mem (h:armFor arms v=some a):a∈arms∧a.first≤v∧v < a.first+a.fields.length:=by
  unfold armFor at h
  have h1:=List.mem_of_find?_eq_some h
  have h2:=List.find?_some h
  unfold inArm at h2
  simp only [Bool.and_eq_true,decide_eq_true_eq] at h2
  exact ⟨h1,h2⟩
theorem WfB.open (hd:typesOk ds) (h:WfB ds arms B σ) (ho:openB arms σ op v=some σ'):WfB ds arms (B+1) σ'∧σ'.vars=σ.vars:=by
  unfold openB at ho
  split at ho
  · cases ho
  · rename_i a ha
    obtain ⟨ham,_⟩:=armOf_mem ha
    obtain ⟨g1,g2,g3,g4,g5⟩:=h.ar a ham
    have hc3:=conF_len3 hd a.con
    split at ho
    · cases ho
    · cases ht:takeB σ v with
      | none=>rw [ht] at ho;cases ho
      | some σ1=>
        rw [ht] at ho
        obtain ⟨w1,e1,e2⟩:=h.take ht
        have w2:=w1.incs a.first a.fields (by omega) (by have:=w1.l1;rw [e1] at this;omega)
        have k1:=(incsB_keep (σ:=σ1) a.first a.fields a.fields.length).1
        simp only [Option.map_some,Option.some.injEq] at ho
        subst ho
        split
        · exact ⟨w2.tok ⟨by omega,by rw [g5];omega⟩,by unfold tokB;rw [k1];exact e1⟩
        · exact ⟨w2,by rw [k1];exact e1⟩
theorem WfB.takes (h:WfB ds arms B σ):∀ (n:Nat) (σ':BalS),takesB ss op num args n σ=some σ'→WfB ds arms B σ'∧σ'.vars=σ.vars
  | 0,σ',ht=>by rw [takesB] at ht;cases ht;exact ⟨h,rfl⟩
  | n+1,σ',ht=>by
    rw [takesB] at ht
    cases h1:takesB ss op num args n σ with
    | none=>rw [h1] at ht;cases ht
    | some σ1=>
      rw [h1,Option.bind_some] at ht
      obtain ⟨w1,e1⟩:=h.takes n σ1 h1
      split at ht
      · obtain ⟨w2,e2,_⟩:=w1.take ht
        exact ⟨w2,by rw [e2,e1]⟩
      · cases ht;exact ⟨w1,e1⟩
theorem WfB.into_ (h:WfB ds arms B σ) (ht:intoB into args σ=some σ'):WfB ds arms B σ'∧σ'.vars=σ.vars:=by
  unfold intoB at ht
  split at ht
  · cases ht;exact ⟨h,rfl⟩
  · split at ht
    · cases ht
    · cases ht;exact ⟨h.tok ⟨by omega,by omega⟩,rfl⟩
theorem WfB.hand (h:WfB ds arms B σ) (ht:handB ss lent arms op num into args σ=some σ'):WfB ds arms B σ'∧σ'.vars=σ.vars:=by
  unfold handB at ht
  cases h1:takesB ss op num args args.length σ with
  | none=>rw [h1] at ht;cases ht
  | some σ1=>
    rw [h1,Option.bind_some] at ht
    obtain ⟨w1,e1⟩:=h.takes _ _ h1
    split at ht
    · obtain ⟨w2,e2⟩:=w1.into_ ht
      exact ⟨w2,by rw [e2,e1]⟩
    · cases ht
theorem WfB.grow (h:WfB ds arms B σ) (ht:0≤t∧t≤4) (ho:0≤o∧o≤B):WfB ds arms B (growB σ t o):=by
  refine ⟨by unfold growB;simp [h.l1],by unfold growB;simp [h.l2],h.vn.app fun n hn=>by rw [List.mem_singleton.1 hn];exact ht,fun n hn=>?_,fun n hn=>?_,fun a ha=>?_⟩
  · rcases List.mem_append.1 hn with hn|hn
    · exact h.ow n hn
    · rw [List.mem_singleton.1 hn];exact ho
  · rcases List.mem_append.1 hn with hn|hn
    · exact h.tk n hn
    · rw [List.mem_singleton.1 hn];omega
  · obtain ⟨g1,g2,g3,g4⟩:=h.ar a ha
    refine ⟨g1,g2,?_,g4⟩
    unfold growB
    simp only [List.length_append,List.length_singleton]
    omega
theorem WfB.kid (hd:typesOk ds) (h:WfB ds arms B σ) (hv:op=8→0≤v∧v < σ.vars.length∧0≤k):WfB ds (kidA ds arms op v σ.vars.length k) B (kidS σ (kidF ds op k)):=by
  have hfn:nonneg (kidF ds op k):=by
    unfold kidF
    split
    · exact conF_nn hd k
    · exact fun t ht=>by cases ht
  refine ⟨by unfold kidS;simp [h.l1],by unfold kidS;simp [h.l2],h.vn.app hfn,fun n hn=>?_,fun n hn=>?_,fun a ha=>?_⟩
  · rcases List.mem_append.1 hn with hn|hn
    · exact h.ow n hn
    · rw [List.eq_of_mem_replicate hn];omega
  · rcases List.mem_append.1 hn with hn|hn
    · exact h.tk n hn
    · rw [List.eq_of_mem_replicate hn];omega
  · have old:∀ a∈arms,0≤a.matched∧a.matched < a.first∧a.first+a.fields.length≤(kidS σ (kidF ds op k)).vars.length∧0≤a.con∧a.fields=conF ds a.con:=fun a ha=>by
      obtain ⟨g1,g2,g3,g4⟩:=h.ar a ha
      refine ⟨g1,g2,?_,g4⟩
      unfold kidS
      simp only [List.length_append]
      omega
    unfold kidA at ha
    split at ha
    · rename_i ho
      rcases List.mem_append.1 ha with ha|ha
      · exact old a ha
      · rw [List.mem_singleton.1 ha]
        obtain ⟨g1,g2,g3⟩:=hv ho
        refine ⟨g1,g2,?_,g3,rfl⟩
        unfold kidS kidF
        rw [if_pos ho]
        simp
    · exact old a ha
theorem WfB.endB_ (h:WfB ds arms B σ) (he:endB σ v m=some p) (hm:m≤σ.vars.length):p.1.length=m∧p.2.length=m∧(∀ n∈p.1,0≤n∧n≤B)∧(∀ n∈p.2,-1≤n∧n≤3):=by
  unfold endB at he
  have key:∀ σ':BalS,WfB ds arms B σ'→σ'.vars=σ.vars→p=(σ'.own.take m,σ'.tok.take m)→p.1.length=m∧p.2.length=m∧(∀ n∈p.1,0≤n∧n≤B)∧(∀ n∈p.2,-1≤n∧n≤3):=by
    rintro σ' hw ev rfl
    have g1:=hw.l1
    have g2:=hw.l2
    rw [ev] at g1 g2
    exact ⟨by simp;omega,by simp;omega,fun n hn=>hw.ow n (List.mem_of_mem_take hn),fun n hn=>hw.tk n (List.mem_of_mem_take hn)⟩
  split at he
  · cases ht:takeB σ v with
    | none=>rw [ht] at he;cases he
    | some σ1=>
      rw [ht,Option.bind_some] at he
      obtain ⟨w1,e1,_⟩:=h.take ht
      split at he
      · cases he;exact key σ1 w1 e1 rfl
      · cases he
  · rw [Option.bind_some] at he
    split at he
    · cases he;exact key σ h rfl rfl
    · cases he
end
section
variable {ds:List DeclD} {ss:List SigD} {arms:List ArmK} {lent args vars:List Int} {σ σ':BalS} {B:Nat} {v t k i op num into:Int} {s:StepD} {b:BlockD} {r:List StepD} {l:List BlockD} {inner:List Int} {a:ArmK} {m:Nat} {p:List Int×List Int}
theorem stp_args (h:stpT ds ss vars s=some t):argsIn vars s.args∧intoIn vars s.op s.into:=by
  refine ⟨Classical.byContradiction fun hn=>?_,Classical.byContradiction fun hn=>?_⟩
  · rw [stp_out hn] at h;cases h
  · rw [stp_into hn] at h;cases h
theorem stp_choice (h:stpT ds ss vars s=some t) (ho:s.op=7∨s.op=8):s.args.length=1∧1≤s.kids.length∧(s.op=7→s.kids.length=2)∧(s.op=8→s.kids.length=(consL ds s.num).length)∧
    ∀ j:Int,0≤j→j < s.kids.length→blkT ds ss (vars++kidF ds s.op (nth (consL ds s.num) j)) (nth s.kids j)=some t:=by
  obtain ⟨ha,hi⟩:=stp_args h
  rcases ho with ho|ho
  · rw [stp_7 ha hi ho] at h
    split at h
    · rename_i hc
      have hl:s.args.length=1:=by
        have:=congrArg List.length hc.1
        rw [typs_len] at this
        exact this
      refine ⟨hl,by omega,fun _=>hc.2.2,fun h8=>by omega,fun j j0 j1=>?_⟩
      have:=kids_some h j0 j1
      rw [show nth ([[],[]]:List (List Int)) j=[] from by rcases (show j=0∨j=1 from by omega) with rfl|rfl<;>rfl] at this
      unfold kidF
      rw [if_neg (by omega)]
      exact this
    · cases h
  · rw [stp_8 ha hi ho] at h
    split at h
    · rename_i hc
      have hl:s.args.length=1:=by
        have:=congrArg List.length hc.1
        rw [typs_len] at this
        exact this
      have hal:(armF ds s.num).length=(consL ds s.num).length:=by unfold armF;simp
      refine ⟨hl,by omega,fun h8=>by omega,fun _=>by omega,fun j j0 j1=>?_⟩
      have:=kids_some h j0 j1
      rw [armF_nth j0 (by omega)] at this
      unfold kidF
      rw [if_pos ho]
      exact this
    · cases h
theorem stp_count (h:stpT ds ss vars s=some t) (ho:isCnt s.op):s.args.length=1∧nth vars (nth s.args 0)≠0:=by
  classical
  obtain ⟨ha,hi⟩:=stp_args h
  rw [stpT_eq,if_pos ⟨ha,hi⟩,if_pos ho] at h
  split at h
  · rename_i hc
    obtain ⟨⟨h1,h2,_⟩,_⟩:=hc
    rw [typs_len] at h1
    exact ⟨h1,by rw [nth_typs (by omega) (by omega)] at h2;exact h2⟩
  · cases h
theorem consL_nn (ds:List DeclD) (n j:Int):0≤nth (consL ds n) j:=by
  unfold nth consL
  rw [List.getD]
  split
  · rw [List.getElem?_map]
    cases (List.range (nth ds (n - 1)).cons.length)[j.toNat]? with
    | none=>exact Int.le_refl _
    | some c=>simp only [Option.map_some,Option.getD_some];omega
  · exact Int.le_refl _
def WfK (ds:List DeclD) (ss:List SigD) (lent:List Int) (b:BlockD):Prop:=∀ (arms:List ArmK) (σ:BalS) (m B:Nat) (t:Int) (p:List Int×List Int),WfB ds arms B σ→blkT ds ss σ.vars b=some t→m≤σ.vars.length→bkB ds ss lent arms σ m b=some p→
  p.1.length=m∧p.2.length=m∧(∀ n∈p.1,0≤n∧n≤((B+cntB b:Nat):Int))∧∀ n∈p.2,-1≤n∧n≤3
theorem oneOf_le (t:Int):0≤oneOf t∧oneOf t≤1:=by unfold oneOf;split<;>omega
theorem wf_st0 (hsg:sigSigs ds ss) (hk:∀ k∈s.kids,WfK ds ss lent k) (hw:WfB ds arms B σ) (hv:stpT ds ss σ.vars s=some t) (hs:stB ds ss lent arms σ s=some σ'):
    WfB ds arms (B+1+cntS s) σ'∧σ'.vars=(if isCnt s.op then σ.vars else σ.vars++[t]):=by
  have htn:=stpT_nn hsg hw.vn hv
  have hon:=oneOf_le t
  rw [stB_eq] at hs
  have hgd:gD (stpT ds ss σ.vars s)=t:=by rw [hv];rfl
  rw [hgd] at hs
  split at hs
  · rename_i ho
    split at hs
    · cases hs
      exact ⟨hw.inc.mono (by omega),by rw [if_pos (by unfold isCnt;omega)];rfl⟩
    · cases hs
  split at hs
  · rename_i ho
    obtain ⟨g1,g2,_⟩:=hw.take hs
    exact ⟨g1.mono (by omega),by rw [if_pos (by unfold isCnt;omega)];exact g2⟩
  split at hs
  · rename_i ho
    obtain ⟨g1,g2⟩:=hw.open hsg.1 hs
    exact ⟨g1.mono (by omega),by rw [if_pos (by unfold isCnt;omega)];exact g2⟩
  split at hs
  · rename_i ho
    split at hs
    · cases hs
    · obtain ⟨hl,hk1,h7,h8,hkv⟩:=stp_choice hv ho
      obtain ⟨ha,_⟩:=stp_args hv
      have ha0:=argsIn_nth ha (i:=0) (by omega) (by omega)
      split at hs
      · cases hs
      · rename_i p hp
        cases hs
        have hb:=kidsB_some hp (j:=0) (by omega) (by omega)
        have hm:=nth_mem (l:=s.kids) (i:=0) (by omega) (by omega)
        have hwk:=hw.kid (op:=s.op) (v:=nth s.args 0) (k:=nth (consL ds s.num) 0) hsg.1 (fun _=>⟨ha0.1,ha0.2,consL_nn ds s.num 0⟩)
        obtain ⟨q1,q2,q3,q4⟩:=hk _ hm _ _ _ _ _ _ hwk (hkv 0 (by omega) (by omega)) (by unfold kidS;simp) hb
        have hcm:=cntK_mem s.kids hm
        rw [cntS_eq]
        refine ⟨?_,by rw [if_neg (by unfold isCnt;omega)];rfl⟩
        refine WfB.grow ⟨q1,q2,hw.vn,fun n hn=>?_,q4,hw.ar⟩ htn ⟨hon.1,by omega⟩
        have:=q3 n hn
        omega
  · rename_i h14 h15 h16 h7
    split at hs
    · cases hs
    · rename_i σ1 h1
      cases hs
      obtain ⟨g1,g2⟩:=hw.hand h1
      refine ⟨WfB.grow (g1.mono (by omega)) htn ⟨hon.1,by omega⟩,?_⟩
      rw [if_neg (by unfold isCnt;omega)]
      unfold growB
      rw [g2]
theorem wf_sts0 (hsg:sigSigs ds ss):∀ (l:List StepD),(∀ s∈l,∀ k∈s.kids,WfK ds ss lent k)→∀ (B:Nat) (σ σ':BalS) (inner:List Int),WfB ds arms B σ→stpsT ds ss σ.vars l=some inner→stsB ds ss lent arms σ l=some σ'→WfB ds arms (B+cntL l) σ'∧σ'.vars=inner
  | []=>fun _ B σ σ' inner hw hv hs=>by
    rw [stpsT_nil] at hv;rw [stsB_nil] at hs;cases hv;cases hs
    exact ⟨hw.mono (by omega),rfl⟩
  | s ::r=>fun hk B σ σ' inner hw hv hs=>by
    rw [stpsT_cons] at hv
    rw [stsB_cons] at hs
    split at hv
    · cases hv
    · rename_i t ht
      split at hs
      · cases hs
      · rename_i σ1 h1
        obtain ⟨w1,e1⟩:=wf_st0 hsg (hk s (by simp)) hw ht h1
        rw [←e1] at hv
        obtain ⟨w2,e2⟩:=wf_sts0 hsg r (fun s' hs'=>hk s' (by simp [hs'])) _ σ1 σ' inner w1 hv hs
        rw [cntL_cons]
        exact ⟨w2.mono (by omega),e2⟩
theorem wf_bk (hsg:sigSigs ds ss) (b:BlockD):WfK ds ss lent b:=by
  refine blk_ind (P:=WfK ds ss lent) (fun b ih=>?_) b
  intro arms σ m B t p hw hv hm hp
  rw [bkB_eq] at hp
  rw [blkT_eq] at hv
  split at hv
  · cases hv
  · rename_i inner hin
    split at hp
    · cases hp
    · rename_i σ1 h1
      obtain ⟨w1,e1⟩:=wf_sts0 hsg b.steps ih _ _ _ _ hw hin h1
      have hlen:σ.vars.length≤σ1.vars.length:=by
        rw [e1]
        have key:∀ (l:List StepD) (vars inner:List Int),stpsT ds ss vars l=some inner→vars.length≤inner.length:=by
          intro l
          induction l with
          | nil=>intro vars inner h;rw [stpsT_nil] at h;cases h;exact Nat.le_refl _
          | cons s r ih=>
            intro vars inner h
            rw [stpsT_cons] at h
            split at h
            · cases h
            · have:=ih _ _ h
              split at this
              · exact this
              · rw [List.length_append] at this;omega
        exact key _ _ _ hin
      obtain ⟨q1,q2,q3,q4⟩:=w1.endB_ hp (by omega)
      rw [cntB_eq]
      exact ⟨q1,q2,q3,q4⟩
theorem wf_st (hsg:sigSigs ds ss) (hw:WfB ds arms B σ) (hv:stpT ds ss σ.vars s=some t) (hs:stB ds ss lent arms σ s=some σ'):
    WfB ds arms (B+1+cntS s) σ'∧σ'.vars=(if isCnt s.op then σ.vars else σ.vars++[t]):=wf_st0 hsg (fun k _=>wf_bk hsg k) hw hv hs
theorem AlB.lt (hw:WfB ds arms B σ) (h:armFor arms v=some a):0≤a.matched∧a.matched < v:=by
  obtain ⟨h1,h2,h3⟩:=armFor_mem h
  have:=hw.ar a h1
  omega
end
def LstP (a:Addr) (lent:List Int) (σ:BalS) (P C F:List Int) (I:Items):Prop:=∃ (x1 x2 x3 x4 x5 x6 x7:Sl) (I0 J1 J2 J3 J4 J5 J6 J7:Items),Cel a [x1.val,x2.val,x3.val,x4.val,x5.val,x6.val,x7.val] I0∧OwnI x1 σ.vars J1∧OwnI x2 σ.own J2∧OwnI x3 P J3∧OwnI x4 C J4∧OwnI x5 F J5∧OwnI x6 σ.tok J6∧OwnI x7 lent J7∧I=I0++(J1++(J2++(J3++(J4++(J5++(J6++J7))))))
def LRd (w:World) (a:Addr) (lent:List Int) (σ:BalS) (P C F:List Int):Prop:=∃ (x1 x2 x3 x4 x5 x6 x7:Sl),(w.cell? (a.add 0)=some x1.val∧Read w x1 σ.vars)∧(w.cell? (a.add 1)=some x2.val∧Read w x2 σ.own)∧(w.cell? (a.add 2)=some x3.val∧Read w x3 P)∧(w.cell? (a.add 3)=some x4.val∧Read w x4 C)∧(w.cell? (a.add 4)=some x5.val∧Read w x5 F)∧(w.cell? (a.add 5)=some x6.val∧Read w x6 σ.tok)∧(w.cell? (a.add 6)=some x7.val∧Read w x7 lent)
structure Lk (arms:List ArmK) (n:Nat) (P C F:List Int):Prop where
  l1:P.length=n
  l2:C.length=n
  l3:F.length=n
  par:∀ v:Int,0≤v→v < n→nth P v=match armFor arms v with|some a=>a.matched|none=>-1
  con:∀ v:Int,0≤v→v < n→match armOf arms v with|some a=>nth C v=a.con∧nth F v=a.first|none=>nth C v=-1
def Lst (a:Addr) (arms:List ArmK) (lent:List Int) (σ:BalS) (I:Items):Prop:=∃ P C F,LstP a lent σ P C F I∧Lk arms σ.vars.length P C F
section
variable {u w v0:World} {a:Addr} {arms:List ArmK} {lent P C F:List Int} {σ σ':BalS} {I R:Items} {r n v t o m:Int} {x:Sl} {B:Nat} {ds:List DeclD}
theorem LstP.rd (hL:LstP a lent σ P C F I) (hS:St u w (I++R)):LRd w a lent σ P C F:=by
  obtain ⟨x1,x2,x3,x4,x5,x6,x7,I0,J1,J2,J3,J4,J5,J6,J7,hC,o1,o2,o3,o4,o5,o6,o7,rfl⟩:=hL
  replace hS:St u w (I0++(J1++(J2++(J3++(J4++(J5++(J6++(J7++R)))))))):=by simpa [List.append_assoc] using hS
  exact ⟨x1,x2,x3,x4,x5,x6,x7,⟨hC.load hS rfl,o1.read hS⟩,⟨hC.load hS rfl,o2.read hS⟩,⟨hC.load hS rfl,o3.read hS⟩,⟨hC.load hS rfl,o4.read hS⟩,⟨hC.load hS rfl,o5.read hS⟩,⟨hC.load hS rfl,o6.read hS⟩,⟨hC.load hS rfl,o7.read hS⟩⟩
theorem LRd.mono {w2:World} (h:LRd w a lent σ P C F) (hs:Sub w w2):LRd w2 a lent σ P C F:=let ⟨x1,x2,x3,x4,x5,x6,x7,h1,h2,h3,h4,h5,h6,h7⟩:=h;⟨x1,x2,x3,x4,x5,x6,x7,⟨cell_sub hs h1.1,h1.2.mono hs⟩,⟨cell_sub hs h2.1,h2.2.mono hs⟩,⟨cell_sub hs h3.1,h3.2.mono hs⟩,⟨cell_sub hs h4.1,h4.2.mono hs⟩,⟨cell_sub hs h5.1,h5.2.mono hs⟩,⟨cell_sub hs h6.1,h6.2.mono hs⟩,⟨cell_sub hs h7.1,h7.2.mono hs⟩⟩
theorem LRd.k1 (h:LRd w a lent σ P C F):∃ x:Sl,w.cell? (a.add 0)=some x.val∧Read w x σ.vars:=let ⟨x1,x2,x3,x4,x5,x6,x7,h1,h2,h3,h4,h5,h6,h7⟩:=h;⟨x1,h1⟩
theorem LRd.k2 (h:LRd w a lent σ P C F):∃ x:Sl,w.cell? (a.add 1)=some x.val∧Read w x σ.own:=let ⟨x1,x2,x3,x4,x5,x6,x7,h1,h2,h3,h4,h5,h6,h7⟩:=h;⟨x2,h2⟩
theorem LRd.k3 (h:LRd w a lent σ P C F):∃ x:Sl,w.cell? (a.add 2)=some x.val∧Read w x P:=let ⟨x1,x2,x3,x4,x5,x6,x7,h1,h2,h3,h4,h5,h6,h7⟩:=h;⟨x3,h3⟩
theorem LRd.k4 (h:LRd w a lent σ P C F):∃ x:Sl,w.cell? (a.add 3)=some x.val∧Read w x C:=let ⟨x1,x2,x3,x4,x5,x6,x7,h1,h2,h3,h4,h5,h6,h7⟩:=h;⟨x4,h4⟩
theorem LRd.k5 (h:LRd w a lent σ P C F):∃ x:Sl,w.cell? (a.add 4)=some x.val∧Read w x F:=let ⟨x1,x2,x3,x4,x5,x6,x7,h1,h2,h3,h4,h5,h6,h7⟩:=h;⟨x5,h5⟩
theorem LRd.k6 (h:LRd w a lent σ P C F):∃ x:Sl,w.cell? (a.add 5)=some x.val∧Read w x σ.tok:=let ⟨x1,x2,x3,x4,x5,x6,x7,h1,h2,h3,h4,h5,h6,h7⟩:=h;⟨x6,h6⟩
theorem LRd.k7 (h:LRd w a lent σ P C F):∃ x:Sl,w.cell? (a.add 6)=some x.val∧Read w x lent:=let ⟨x1,x2,x3,x4,x5,x6,x7,h1,h2,h3,h4,h5,h6,h7⟩:=h;⟨x7,h7⟩
theorem LstP.so2 (hL:LstP a lent σ P C F I) (hS:St u w (I++R)):∃ x:Sl,w.cell? (a.add 1)=some x.val∧Read w x σ.own∧∀ {r n:Int} {K:World→Prop},0≤r→r < σ.own.length→InI n→(∀ w' I',LstP a lent ⟨σ.vars,σ.own.set r.toNat n,σ.tok⟩ P C F I'→St u w' (I'++R)→K w')→StoreAt w (elA x r 1) 0 [iV n] K:=by
  obtain ⟨x1,x2,x3,x4,x5,x6,x7,I0,J1,J2,J3,J4,J5,J6,J7,hC,o1,o2,o3,o4,o5,o6,o7,rfl⟩:=hL
  replace hS:St u w (I0++(J1++(J2++(J3++(J4++(J5++(J6++(J7++R)))))))):=by simpa [List.append_assoc] using hS
  refine ⟨x2,hC.load hS rfl,o2.read hS,fun {r n K} h0 h1 hn kk=>?_⟩
  refine st_int (o2 u) hS h0 h1 hn ?_
  intro w2 J hO hS
  exact kk w2 (I0++(J1++(J++(J3++(J4++(J5++(J6++J7))))))) ⟨x1,x2,x3,x4,x5,x6,x7,I0,J1,J,J3,J4,J5,J6,J7,hC,o1,hO.toI,o3,o4,o5,o6,o7,rfl⟩ (by simpa [List.append_assoc] using hS)
theorem LstP.so4 (hL:LstP a lent σ P C F I) (hS:St u w (I++R)):∃ x:Sl,w.cell? (a.add 3)=some x.val∧Read w x C∧∀ {r n:Int} {K:World→Prop},0≤r→r < C.length→InI n→(∀ w' I',LstP a lent σ P (C.set r.toNat n) F I'→St u w' (I'++R)→K w')→StoreAt w (elA x r 1) 0 [iV n] K:=by
  obtain ⟨x1,x2,x3,x4,x5,x6,x7,I0,J1,J2,J3,J4,J5,J6,J7,hC,o1,o2,o3,o4,o5,o6,o7,rfl⟩:=hL
  replace hS:St u w (I0++(J1++(J2++(J3++(J4++(J5++(J6++(J7++R)))))))):=by simpa [List.append_assoc] using hS
  refine ⟨x4,hC.load hS rfl,o4.read hS,fun {r n K} h0 h1 hn kk=>?_⟩
  refine st_int (o4 u) hS h0 h1 hn ?_
  intro w2 J hO hS
  exact kk w2 (I0++(J1++(J2++(J3++(J++(J5++(J6++J7))))))) ⟨x1,x2,x3,x4,x5,x6,x7,I0,J1,J2,J3,J,J5,J6,J7,hC,o1,o2,o3,hO.toI,o5,o6,o7,rfl⟩ (by simpa [List.append_assoc] using hS)
theorem LstP.so5 (hL:LstP a lent σ P C F I) (hS:St u w (I++R)):∃ x:Sl,w.cell? (a.add 4)=some x.val∧Read w x F∧∀ {r n:Int} {K:World→Prop},0≤r→r < F.length→InI n→(∀ w' I',LstP a lent σ P C (F.set r.toNat n) I'→St u w' (I'++R)→K w')→StoreAt w (elA x r 1) 0 [iV n] K:=by
  obtain ⟨x1,x2,x3,x4,x5,x6,x7,I0,J1,J2,J3,J4,J5,J6,J7,hC,o1,o2,o3,o4,o5,o6,o7,rfl⟩:=hL
  replace hS:St u w (I0++(J1++(J2++(J3++(J4++(J5++(J6++(J7++R)))))))):=by simpa [List.append_assoc] using hS
  refine ⟨x5,hC.load hS rfl,o5.read hS,fun {r n K} h0 h1 hn kk=>?_⟩
  refine st_int (o5 u) hS h0 h1 hn ?_
  intro w2 J hO hS
  exact kk w2 (I0++(J1++(J2++(J3++(J4++(J++(J6++J7))))))) ⟨x1,x2,x3,x4,x5,x6,x7,I0,J1,J2,J3,J4,J,J6,J7,hC,o1,o2,o3,o4,hO.toI,o6,o7,rfl⟩ (by simpa [List.append_assoc] using hS)
theorem LstP.so6 (hL:LstP a lent σ P C F I) (hS:St u w (I++R)):∃ x:Sl,w.cell? (a.add 5)=some x.val∧Read w x σ.tok∧∀ {r n:Int} {K:World→Prop},0≤r→r < σ.tok.length→InI n→(∀ w' I',LstP a lent ⟨σ.vars,σ.own,σ.tok.set r.toNat n⟩ P C F I'→St u w' (I'++R)→K w')→StoreAt w (elA x r 1) 0 [iV n] K:=by
  obtain ⟨x1,x2,x3,x4,x5,x6,x7,I0,J1,J2,J3,J4,J5,J6,J7,hC,o1,o2,o3,o4,o5,o6,o7,rfl⟩:=hL
  replace hS:St u w (I0++(J1++(J2++(J3++(J4++(J5++(J6++(J7++R)))))))):=by simpa [List.append_assoc] using hS
  refine ⟨x6,hC.load hS rfl,o6.read hS,fun {r n K} h0 h1 hn kk=>?_⟩
  refine st_int (o6 u) hS h0 h1 hn ?_
  intro w2 J hO hS
  exact kk w2 (I0++(J1++(J2++(J3++(J4++(J5++(J++J7))))))) ⟨x1,x2,x3,x4,x5,x6,x7,I0,J1,J2,J3,J4,J5,J,J7,hC,o1,o2,o3,o4,o5,hO.toI,o7,rfl⟩ (by simpa [List.append_assoc] using hS)
theorem c_ledGrowP (hL:LstP a lent σ P C F I) (hS:St u w (I++R)) (hlen:σ.vars.length≤1000000∧σ.own.length≤1000000∧P.length≤1000000∧C.length≤1000000∧F.length≤1000000∧σ.tok.length≤1000000) (ht:InI t) (ho:InI o) (hm:InI m):
    Trip Tryz.prog 118 #[(pt a),iV t,iV o,iV m] w fun r w'=>r=.tuple #[]∧∃ I',LstP a lent (growB σ t o) (P++[m]) (C++[-1]) (F++[-1]) I'∧St u w' (I'++R):=by
  refine of118 _ _ _ _ _ _ ?_
  unfold vc118
  obtain ⟨x1,x2,x3,x4,x5,x6,x7,I0,J1,J2,J3,J4,J5,J6,J7,hC,o1,o2,o3,o4,o5,o6,o7,rfl⟩:=hL
  replace hS:St u w (I0++(J1++(J2++(J3++(J4++(J5++(J6++(J7++R)))))))):=by simpa [List.append_assoc] using hS
  have hmi:InI (-1):=⟨by omega,by omega⟩
  refine ⟨x1,hC.load hS rfl,?_⟩
  refine St.build (α:=Int) (l:=[t]) hS (.cons (.int ht) .nil) rfl (by decide) ?_
  intro y1 w1 K1 hO1 hS hs1
  refine ⟨_,rfl,?_⟩
  refine (o1 u).append hS (hO1.src hS) (by simp;omega) (by decide) ?_
  intro z1 w2 J1 hz1 hS
  refine ⟨_,rfl,?_⟩
  refine hC.store hS (by simp) ?_
  intro w3 I0 hC hS
  simp [putR] at hC
  replace hS:St u w3 (I0++(J1++(J2++(J3++(J4++(J5++(J6++(J7++R)))))))):=hS.to
  clear hO1
  refine ⟨x2,hC.load hS rfl,?_⟩
  refine St.build (α:=Int) (l:=[o]) hS (.cons (.int ho) .nil) rfl (by decide) ?_
  intro y2 w1 K1 hO1 hS hs1
  refine ⟨_,rfl,?_⟩
  refine (o2 u).append hS (hO1.src hS) (by simp;omega) (by decide) ?_
  intro z2 w2 J2 hz2 hS
  refine ⟨_,rfl,?_⟩
  refine hC.store hS (by simp) ?_
  intro w3 I0 hC hS
  simp [putR] at hC
  replace hS:St u w3 (I0++(J1++(J2++(J3++(J4++(J5++(J6++(J7++R)))))))):=hS.to
  clear hO1
  refine ⟨x3,hC.load hS rfl,?_⟩
  refine St.build (α:=Int) (l:=[m]) hS (.cons (.int hm) .nil) rfl (by decide) ?_
  intro y3 w1 K1 hO1 hS hs1
  refine ⟨_,rfl,?_⟩
  refine (o3 u).append hS (hO1.src hS) (by simp;omega) (by decide) ?_
  intro z3 w2 J3 hz3 hS
  refine ⟨_,rfl,?_⟩
  refine hC.store hS (by simp) ?_
  intro w3 I0 hC hS
  simp [putR] at hC
  replace hS:St u w3 (I0++(J1++(J2++(J3++(J4++(J5++(J6++(J7++R)))))))):=hS.to
  clear hO1
  refine ⟨x4,hC.load hS rfl,?_⟩
  refine St.build (α:=Int) (l:=[(-1)]) hS (.cons (.int hmi) .nil) rfl (by decide) ?_
  intro y4 w1 K1 hO1 hS hs1
  refine ⟨_,rfl,?_⟩
  refine (o4 u).append hS (hO1.src hS) (by simp;omega) (by decide) ?_
  intro z4 w2 J4 hz4 hS
  refine ⟨_,rfl,?_⟩
  refine hC.store hS (by simp) ?_
  intro w3 I0 hC hS
  simp [putR] at hC
  replace hS:St u w3 (I0++(J1++(J2++(J3++(J4++(J5++(J6++(J7++R)))))))):=hS.to
  clear hO1
  refine ⟨x5,hC.load hS rfl,?_⟩
  refine St.build (α:=Int) (l:=[(-1)]) hS (.cons (.int hmi) .nil) rfl (by decide) ?_
  intro y5 w1 K1 hO1 hS hs1
  refine ⟨_,rfl,?_⟩
  refine (o5 u).append hS (hO1.src hS) (by simp;omega) (by decide) ?_
  intro z5 w2 J5 hz5 hS
  refine ⟨_,rfl,?_⟩
  refine hC.store hS (by simp) ?_
  intro w3 I0 hC hS
  simp [putR] at hC
  replace hS:St u w3 (I0++(J1++(J2++(J3++(J4++(J5++(J6++(J7++R)))))))):=hS.to
  clear hO1
  refine ⟨x6,hC.load hS rfl,?_⟩
  refine St.build (α:=Int) (l:=[(-1)]) hS (.cons (.int hmi) .nil) rfl (by decide) ?_
  intro y6 w1 K1 hO1 hS hs1
  refine ⟨_,rfl,?_⟩
  refine (o6 u).append hS (hO1.src hS) (by simp;omega) (by decide) ?_
  intro z6 w2 J6 hz6 hS
  refine ⟨_,rfl,?_⟩
  refine hC.store hS (by simp) ?_
  intro w3 I0 hC hS
  simp [putR] at hC
  replace hS:St u w3 (I0++(J1++(J2++(J3++(J4++(J5++(J6++(J7++R)))))))):=hS.to
  clear hO1
  exact ⟨rfl,I0++(J1++(J2++(J3++(J4++(J5++(J6++J7)))))),⟨z1,z2,z3,z4,z5,z6,x7,I0,J1,J2,J3,J4,J5,J6,J7,hC,hz1.toI,hz2.toI,hz3.toI,hz4.toI,hz5.toI,hz6.toI,o7,rfl⟩,by simpa [List.append_assoc] using hS⟩
theorem c_ledTake (hL:LstP a lent σ P C F I) (hS:St u w (I++R)) (h0:0≤v) (h1:v < σ.own.length):
    Trip Tryz.prog 119 #[(pt a),iV v] w fun r w'=>match takeB σ v with
      | none=>r=.bool false∧w'=w
      | some σ'=>r=.bool true∧∃ I',LstP a lent σ' P C F I'∧St u w' (I'++R):=by
  refine of119 _ _ _ _ ?_
  unfold vc119
  obtain ⟨x2,e2,r2,st⟩:=hL.so2 hS
  have hi:=(r2.int h0 h1).2
  refine ⟨x2,e2,?_⟩
  refine go_ix r2 h0 h1 ?_
  refine ld_int r2 h0 h1 ?_
  intro q0 q1
  unfold takeB
  refine ⟨fun hc=>?_,fun hc=>?_⟩
  · simp only [bls] at hc
    rw [if_pos hc];exact ⟨rfl,rfl⟩
  · simp only [bls] at hc
    rw [if_neg (by omega)]
    refine ⟨x2,e2,x2,e2,?_⟩
    refine go_ix r2 h0 h1 ?_
    refine ld_int r2 h0 h1 ?_
    intro _ _
    refine go_wr (by omega) (by omega) ?_
    refine go_ix r2 h0 h1 ?_
    refine st h0 h1 ⟨by omega,by omega⟩ ?_
    intro w2 I2 hL hS
    exact ⟨rfl,I2,hL,hS⟩
theorem c_ledAlive (hR:LRd w a lent σ P C F) (hw:WfB ds arms B σ) (hk:Lk arms σ.vars.length P C F) (h0:0≤v) (h1:v < σ.vars.length):
    Fn Tryz.prog 68 #[(pt a),iV v] w (.bool (pB (AlB arms lent σ.own v))):=by
  refine of68 _ _ _ _ ?_
  unfold vc68
  have hl1:=hw.l1
  have hp1:=hk.l1
  obtain ⟨x2,e2,r2⟩:=hR.k2
  obtain ⟨x3,e3,r3⟩:=hR.k3
  obtain ⟨x7,e7,r7⟩:=hR.k7
  refine ⟨fun k w'=>w'=w∧0≤k∧k < σ.vars.length∧(AlB arms lent σ.own k↔AlB arms lent σ.own v),fun k _=>k.toNat,⟨rfl,h0,h1,.rfl⟩,?_⟩
  rintro k _ ⟨rfl,k0,k1,hkv⟩
  refine ⟨x2,e2,?_⟩
  refine go_ix r2 k0 (by omega) ?_
  refine ld_int r2 k0 (by omega) ?_
  intro _ _
  refine ⟨x7,fun _=>e7,_,fun _=>c_specIsIn r7,fun hc=>?_,fun hc=>?_⟩
  · simp only [bls] at hc
    refine ⟨x3,e3,?_⟩
    refine go_ix r3 k0 (by omega) ?_
    refine ld_int r3 k0 (by omega) ?_
    intro _ _
    have hp:=hk.par k k0 k1
    cases ha:armFor arms k with
    | none=>
      rw [ha] at hp
      dsimp only at hp
      rw [hp]
      refine ⟨fun hd=>⟨?_,.refl _⟩,fun hd=>?_⟩
      · rw [pB_f]
        intro hal
        rcases (hkv.2 hal).inv with h|h|⟨a',h,_⟩
        · omega
        · exact hc.2 h
        · rw [ha] at h;cases h
      · simp only [bls] at hd;omega
    | some a'=>
      rw [ha] at hp
      dsimp only at hp
      rw [hp]
      have hlt:=AlB.lt hw ha
      refine ⟨fun hd=>?_,fun hd=>?_⟩
      · simp only [bls] at hd;omega
      · refine ⟨⟨rfl,by omega,by omega,⟨fun h=>hkv.1 (.up ha h),fun h=>?_⟩⟩,by dsimp only;omega⟩
        rcases (hkv.2 h).inv with h|h|⟨a2,h,h2⟩
        · omega
        · exact absurd h hc.2
        · rw [ha] at h;cases h;exact h2
  · simp only [bls] at hc
    refine ⟨?_,.refl _⟩
    rw [pB_t]
    refine hkv.1 ?_
    rcases hc with h|h
    · exact .own (by omega)
    · exact .lent h
theorem c_ledCopied (hR:LRd w a lent σ P C F):Mk Tryz.prog 172 #[(pt a)] w fun r J=>∃ a':Addr,r=.pointer (some (a'.add 0))∧LstP a' lent σ P C F J:=by
  refine of172 _ _ _ ?_
  unfold vc172
  have hS:=St.refl w
  obtain ⟨x1,e1,r1⟩:=hR.k1
  obtain ⟨x2,e2,r2⟩:=hR.k2
  obtain ⟨x3,e3,r3⟩:=hR.k3
  obtain ⟨x4,e4,r4⟩:=hR.k4
  obtain ⟨x5,e5,r5⟩:=hR.k5
  obtain ⟨x6,e6,r6⟩:=hR.k6
  obtain ⟨x7,e7,r7⟩:=hR.k7
  refine ⟨x1,e1,x2,e2,x3,e3,x4,e4,x5,e5,x6,e6,x7,e7,?_⟩
  refine Mk.use (c_copyInts r1) hS ?_
  rintro _ w1 J1 ⟨y1,rfl,o1⟩ hS hs
  refine ⟨_,rfl,hs,?_⟩
  refine Mk.use (c_copyInts r2) hS ?_
  rintro _ w2 J2 ⟨y2,rfl,o2⟩ hS hs
  refine ⟨_,rfl,hs,?_⟩
  refine Mk.use (c_copyInts r3) hS ?_
  rintro _ w3 J3 ⟨y3,rfl,o3⟩ hS hs
  refine ⟨_,rfl,hs,?_⟩
  refine Mk.use (c_copyInts r4) hS ?_
  rintro _ w4 J4 ⟨y4,rfl,o4⟩ hS hs
  refine ⟨_,rfl,hs,?_⟩
  refine Mk.use (c_copyInts r5) hS ?_
  rintro _ w5 J5 ⟨y5,rfl,o5⟩ hS hs
  refine ⟨_,rfl,hs,?_⟩
  refine Mk.use (c_copyInts r6) hS ?_
  rintro _ w6 J6 ⟨y6,rfl,o6⟩ hS hs
  refine ⟨_,rfl,hs,?_⟩
  refine Mk.use (c_copyInts r7) hS ?_
  rintro _ w7 J7 ⟨y7,rfl,o7⟩ hS hs
  refine ⟨_,rfl,?_⟩
  refine St.box (vals:=[y1.val,y2.val,y3.val,y4.val,y5.val,y6.val,y7.val]) hS fun a' w8 I0 hC hS hs=>?_
  replace hS:St w w8 ((I0++(J1++(J2++(J3++(J4++(J5++(J6++J7)))))))++[]):=by
    have h:St w w8 (I0++(J1++(J2++(J3++(J4++(J5++(J6++(J7++[])))))))):=hS.to
    simpa [List.append_assoc] using h
  exact ⟨I0++(J1++(J2++(J3++(J4++(J5++(J6++J7)))))),by simpa using hS,a',rfl,y1,y2,y3,y4,y5,y6,y7,I0,J1,J2,J3,J4,J5,J6,J7,hC,o1.toI,o2.toI,o3.toI,o4.toI,o5.toI,o6.toI,o7.toI,rfl⟩
theorem c_ledCut (hL:LstP a lent σ P C F I) (hS:St u w (I++R)) (hl1:σ.own.length=σ.vars.length) (hl2:σ.tok.length=σ.vars.length) (hk:P.length=σ.vars.length∧C.length=σ.vars.length∧F.length=σ.vars.length) (hl:σ.vars.length≤1000000) (h0:0≤m) (h1:m≤σ.vars.length):
    Trip Tryz.prog 177 #[(pt a),iV m] w fun r w'=>
      ((∀ v:Int,m≤v→v < σ.vars.length→nth σ.own v=0∧nth σ.tok v < 0)→r=.bool true∧∃ I',LstP a lent ⟨σ.vars.take m.toNat,σ.own.take m.toNat,σ.tok.take m.toNat⟩ (P.take m.toNat) (C.take m.toNat) (F.take m.toNat) I'∧St u w' (I'++R))∧
      (¬ (∀ v:Int,m≤v→v < σ.vars.length→nth σ.own v=0∧nth σ.tok v < 0)→r=.bool false∧Sub u w'):=by
  refine of177 _ _ _ _ ?_
  unfold vc177
  have hR:=hL.rd hS
  obtain ⟨x1,e1,r1⟩:=hR.k1
  obtain ⟨x2,e2,r2⟩:=hR.k2
  obtain ⟨x6,e6,r6⟩:=hR.k6
  have r1n:=r1.n
  refine ⟨fun k w'=>w=w'∧m≤k∧k≤σ.vars.length∧∀ v:Int,m≤v→v < k→nth σ.own v=0∧nth σ.tok v < 0,fun k _=>(σ.vars.length - k).toNat,⟨rfl,by omega,by omega,fun v _ _=>by omega⟩,?_⟩
  rintro k _ ⟨rfl,k0,k1,hj⟩
  refine ⟨x1,e1,fun hc=>?_,fun hc=>?_⟩
  · simp only [bls] at hc
    refine ⟨x2,e2,?_⟩
    refine go_ix r2 (by omega) (by omega) ?_
    refine ld_int r2 (by omega) (by omega) ?_
    intro _ _
    refine ⟨x6,fun _=>e6,?_⟩
    refine go_ixg r6 (fun _=>by omega) ?_
    refine ld_intg r6 (fun _=>by omega) ?_
    refine ⟨fun hd=>?_,fun hd=>?_⟩
    · simp only [bls] at hd
      refine ⟨fun hh=>?_,fun _=>⟨rfl,hS.sub⟩⟩
      have:=hh k k0 (by omega)
      omega
    · simp only [bls] at hd
      refine go_wr (by omega) (by omega) ?_
      refine ⟨⟨rfl,by omega,by omega,fun v v0 v1=>?_⟩,by dsimp only;omega⟩
      by_cases e:v=k
      · subst e;exact ⟨by omega,by omega⟩
      · exact hj v v0 (by omega)
  · simp only [bls] at hc
    have hall:∀ v:Int,m≤v→v < σ.vars.length→nth σ.own v=0∧nth σ.tok v < 0:=fun v v0 v1=>hj v v0 (by omega)
    clear hj hc r1n r1 e1 r2 e2 r6 e6 hR x1 x2 x6
    obtain ⟨x1,x2,x3,x4,x5,x6,x7,I0,J1,J2,J3,J4,J5,J6,J7,hC,o1,o2,o3,o4,o5,o6,o7,rfl⟩:=hL
    replace hS:St u w (I0++(J1++(J2++(J3++(J4++(J5++(J6++(J7++R)))))))):=by simpa [List.append_assoc] using hS
    have k1:=fun u=>(o1 u).cut (lo:=0) (hi:=m) (by omega) h0 (by omega)
    simp only [show ((0:Int)).toNat=0 from rfl,List.drop_zero] at k1
    have d1:CutOk x1 0 m:=⟨by omega,h0,by obtain ⟨_,hr,_⟩:=o1.read hS;have h1:=hr.2.1;have h2:=(o1 u).n;omega⟩
    refine ⟨x1,hC.load hS rfl,d1,?_⟩
    refine hC.store hS (by simp) ?_
    clear d1
    intro w1 I0 hC hS
    simp [putR] at hC
    replace hS:St u w1 (I0++(J1++(J2++(J3++(J4++(J5++(J6++(J7++R)))))))):=hS.to
    have k2:=fun u=>(o2 u).cut (lo:=0) (hi:=m) (by omega) h0 (by omega)
    simp only [show ((0:Int)).toNat=0 from rfl,List.drop_zero] at k2
    have d2:CutOk x2 0 m:=⟨by omega,h0,by obtain ⟨_,hr,_⟩:=o2.read hS;have h1:=hr.2.1;have h2:=(o2 u).n;omega⟩
    refine ⟨x2,hC.load hS rfl,d2,?_⟩
    refine hC.store hS (by simp) ?_
    clear d2
    intro w2 I0 hC hS
    simp [putR] at hC
    replace hS:St u w2 (I0++(J1++(J2++(J3++(J4++(J5++(J6++(J7++R)))))))):=hS.to
    have k3:=fun u=>(o3 u).cut (lo:=0) (hi:=m) (by omega) h0 (by have:=hk.1;omega)
    simp only [show ((0:Int)).toNat=0 from rfl,List.drop_zero] at k3
    have d3:CutOk x3 0 m:=⟨by omega,h0,by obtain ⟨_,hr,_⟩:=o3.read hS;have h1:=hr.2.1;have h2:=(o3 u).n;have:=hk.1;omega⟩
    refine ⟨x3,hC.load hS rfl,d3,?_⟩
    refine hC.store hS (by simp) ?_
    clear d3
    intro w3 I0 hC hS
    simp [putR] at hC
    replace hS:St u w3 (I0++(J1++(J2++(J3++(J4++(J5++(J6++(J7++R)))))))):=hS.to
    have k4:=fun u=>(o4 u).cut (lo:=0) (hi:=m) (by omega) h0 (by have:=hk.2.1;omega)
    simp only [show ((0:Int)).toNat=0 from rfl,List.drop_zero] at k4
    have d4:CutOk x4 0 m:=⟨by omega,h0,by obtain ⟨_,hr,_⟩:=o4.read hS;have h1:=hr.2.1;have h2:=(o4 u).n;have:=hk.2.1;omega⟩
    refine ⟨x4,hC.load hS rfl,d4,?_⟩
    refine hC.store hS (by simp) ?_
    clear d4
    intro w4 I0 hC hS
    simp [putR] at hC
    replace hS:St u w4 (I0++(J1++(J2++(J3++(J4++(J5++(J6++(J7++R)))))))):=hS.to
    have k5:=fun u=>(o5 u).cut (lo:=0) (hi:=m) (by omega) h0 (by have:=hk.2.2;omega)
    simp only [show ((0:Int)).toNat=0 from rfl,List.drop_zero] at k5
    have d5:CutOk x5 0 m:=⟨by omega,h0,by obtain ⟨_,hr,_⟩:=o5.read hS;have h1:=hr.2.1;have h2:=(o5 u).n;have:=hk.2.2;omega⟩
    refine ⟨x5,hC.load hS rfl,d5,?_⟩
    refine hC.store hS (by simp) ?_
    clear d5
    intro w5 I0 hC hS
    simp [putR] at hC
    replace hS:St u w5 (I0++(J1++(J2++(J3++(J4++(J5++(J6++(J7++R)))))))):=hS.to
    have k6:=fun u=>(o6 u).cut (lo:=0) (hi:=m) (by omega) h0 (by omega)
    simp only [show ((0:Int)).toNat=0 from rfl,List.drop_zero] at k6
    have d6:CutOk x6 0 m:=⟨by omega,h0,by obtain ⟨_,hr,_⟩:=o6.read hS;have h1:=hr.2.1;have h2:=(o6 u).n;omega⟩
    refine ⟨x6,hC.load hS rfl,d6,?_⟩
    refine hC.store hS (by simp) ?_
    clear d6
    intro w6 I0 hC hS
    simp [putR] at hC
    replace hS:St u w6 (I0++(J1++(J2++(J3++(J4++(J5++(J6++(J7++R)))))))):=hS.to
    exact ⟨fun _=>⟨rfl,I0++(J1++(J2++(J3++(J4++(J5++(J6++J7)))))),⟨_,_,_,_,_,_,x7,I0,J1,J2,J3,J4,J5,J6,J7,hC,k1,k2,k3,k4,k5,k6,o7,rfl⟩,by simpa [List.append_assoc] using hS⟩,fun hn=>absurd hall hn⟩
end
end Go.Vc
