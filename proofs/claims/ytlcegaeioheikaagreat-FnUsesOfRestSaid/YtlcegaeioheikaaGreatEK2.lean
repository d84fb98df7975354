/- Part of the proofs about the heaps and memories: a law is joined in the text whose name ends in W and the law. -/
import Derived.Test.YtlcegaeioheikaaGreatEK1
set_option linter.all false
namespace Go.Vc
open Go Go.Proofs Go.RowKit
def OwnI (x:Sl) (l:List Int) (J:Items):Prop:=∀ u,Own u x l J
structure ImD where
  decls:List DeclD
  procs:List ProcD
section
variable {α:Type} [Mark α] [Cost α]
end
section
variable {u w:World} {x:Sl} {l:List Int} {I L R:Items} {F:Items→Items}
theorem Own.toI (h:Own u x l I):OwnI x l I:=h.toAll
theorem OwnI.read (h:OwnI x l I) (hS:St u w L) [p:Pos I L R F]:Read w x l:=Own.read (h u) hS
end
structure RegK where
  typ:Int
  own:Int
  lent:Bool
  con:Int
  frm:Int
  field:Int
deriving DecidableEq
instance:Inhabited RegK:=⟨⟨-1,0,false,-1,-1,-1⟩⟩
structure VwD where
  regs:List RegK
  kept:List Int
def VwD.reg (v:VwD) (r:Int):RegK:=nth v.regs r
def VwD.upd (v:VwD) (r:Int) (k:RegK):VwD:=⟨v.regs.set r.toNat k,v.kept⟩
inductive Al (v:VwD):Int→Prop where
  | here {r:Int}:(0 < (v.reg r).own∨(v.reg r).lent=true)→Al v r
  | up {r:Int}:0≤(v.reg r).frm→Al v (v.reg r).frm→Al v r
structure Wf (n B:Nat) (v:VwD):Prop where
  len:v.regs.length=n
  klen:v.kept.length=n
  own0:∀ r:Int,0≤r→r < n→0≤(v.reg r).own∧(v.reg r).own≤B
  frm:∀ r:Int,0≤r→r < n→-1≤(v.reg r).frm∧(v.reg r).frm < n
  neg:∀ r:Int,0≤r→r < n→-1≤(v.reg r).typ∧((v.reg r).typ < 0→(v.reg r).con=-1∧(v.reg r).frm=-1∧(v.reg r).field=-1)
  con:∀ r:Int,0≤r→r < n→-1≤(v.reg r).con∧(v.reg r).con≤1000
  sm:∀ r:Int,0≤r→r < n→(v.reg r).typ≤1000∧-1≤(v.reg r).field∧(v.reg r).field≤1000
  kept_:∀ k∈v.kept,-1≤k∧k≤1000
  rank:∃ f:Int→Nat,∀ r:Int,0≤r→r < n→0≤(v.reg r).frm→f (v.reg r).frm < f r
section
variable {v:VwD} {n B B':Nat} {r:Int}
theorem Wf.mono (h:Wf n B v) (hb:B≤B'):Wf n B' v:=⟨h.len,h.klen,fun r h0 h1=>⟨(h.own0 r h0 h1).1,by have:=(h.own0 r h0 h1).2;omega⟩,h.frm,h.neg,h.con,h.sm,h.kept_,h.rank⟩
end
def keepV (v:VwD) (r k:Int):VwD:=⟨v.regs,v.kept.set r.toNat k⟩
def arrP (ds:List DeclD) (f t:Int) (i:Int):Prop:=(nth ds i).cons.length=0∧(nth ds i).frm=f∧(nth ds i).to_=t
open Classical in
noncomputable def arrI (ds:List DeclD) (f t:Int):Int:=if ∃ i:Nat,i < ds.length∧arrP ds f t i then (leastM (fun i:Nat=>i < ds.length∧arrP ds f t i):Int)+1 else -1
def isArr (ds:List DeclD) (t:Int):Prop:=1≤t∧t≤ds.length∧(nth ds (t - 1)).cons.length=0
def lentN (k:RegK):Int:=if k.lent=true then 1 else 0
def Vst (a:Addr) (v:VwD) (I:Items):Prop:=∃ (x1 x2 x3 x4 x5 x6 x7:Sl) (I0 J1 J2 J3 J4 J5 J6 J7:Items),Cel a [x1.val,x2.val,x3.val,x4.val,x5.val,x6.val,x7.val] I0∧OwnI x1 (v.regs.map RegK.typ) J1∧OwnI x2 (v.regs.map RegK.own) J2∧OwnI x3 (v.regs.map RegK.frm) J3∧OwnI x4 (v.regs.map RegK.field) J4∧OwnI x5 (v.regs.map RegK.con) J5∧OwnI x6 v.kept J6∧OwnI x7 (v.regs.map lentN) J7∧I=I0++(J1++(J2++(J3++(J4++(J5++(J6++J7))))))
section
variable {u w:World} {v:VwD} {a:Addr} {r n:Int} {k:RegK} {x:Sl} {I R:Items} {f:RegK→Int}
theorem upd_set (h0:0≤r) (h1:r < v.regs.length):(v.upd r k).regs.map f=(v.regs.map f).set r.toNat (f k):=by
  unfold VwD.upd
  rw [List.map_set]
theorem upd_same (h0:0≤r) (h1:r < v.regs.length) (hk:f k=f (v.reg r)):(v.upd r k).regs.map f=v.regs.map f:=by
  rw [upd_set h0 h1,hk]
  have e:f (v.reg r)=nth (v.regs.map f) r:=by
    refine (nth_of ?_).symm
    rw [List.getElem?_map,nth_get h0 h1]
    rfl
  rw [e]
  exact set_same h0 (by simpa using h1)
theorem Vst.so1 (hV:Vst a v I) (hS:St u w (I++R)):∃ x:Sl,w.cell? (a.add 0)=some x.val∧Read w x (v.regs.map RegK.typ)∧∀ {r n:Int} {k:RegK} {K:World→Prop},0≤r→r < v.regs.length→InI n→k=⟨n,(v.reg r).own,(v.reg r).lent,(v.reg r).con,(v.reg r).frm,(v.reg r).field⟩→(∀ w' I',Vst a (v.upd r k) I'→St u w' (I'++R)→K w')→StoreAt w (elA x r 1) 0 [iV n] K:=by
  obtain ⟨x1,x2,x3,x4,x5,x6,x7,I0,J1,J2,J3,J4,J5,J6,J7,hC,o1,o2,o3,o4,o5,o6,o7,rfl⟩:=hV
  replace hS:St u w (I0++(J1++(J2++(J3++(J4++(J5++(J6++(J7++R)))))))):=by simpa [List.append_assoc] using hS
  refine ⟨x1,Cel.load hC hS rfl,o1.read hS,fun {r n k K} h0 h1 hn hk kk=>?_⟩
  refine st_int (o1 u) hS h0 (by simpa using h1) hn ?_
  intro w2 J hO hS
  exact kk w2 (I0++(J++(J2++(J3++(J4++(J5++(J6++J7))))))) ⟨x1,x2,x3,x4,x5,x6,x7,I0,J,J2,J3,J4,J5,J6,J7,hC,(by rw [upd_set h0 h1,show RegK.typ k=n from by rw [hk]];exact hO.toI),(by rw [upd_same h0 h1 (by rw [hk])];exact o2),(by rw [upd_same h0 h1 (by rw [hk])];exact o3),(by rw [upd_same h0 h1 (by rw [hk])];exact o4),(by rw [upd_same h0 h1 (by rw [hk])];exact o5),o6,(by rw [upd_same h0 h1 (by rw [hk];rfl)];exact o7),rfl⟩ (by simpa [List.append_assoc] using hS)
theorem Vst.so2 (hV:Vst a v I) (hS:St u w (I++R)):∃ x:Sl,w.cell? (a.add 1)=some x.val∧Read w x (v.regs.map RegK.own)∧∀ {r n:Int} {k:RegK} {K:World→Prop},0≤r→r < v.regs.length→InI n→k=⟨(v.reg r).typ,n,(v.reg r).lent,(v.reg r).con,(v.reg r).frm,(v.reg r).field⟩→(∀ w' I',Vst a (v.upd r k) I'→St u w' (I'++R)→K w')→StoreAt w (elA x r 1) 0 [iV n] K:=by
  obtain ⟨x1,x2,x3,x4,x5,x6,x7,I0,J1,J2,J3,J4,J5,J6,J7,hC,o1,o2,o3,o4,o5,o6,o7,rfl⟩:=hV
  replace hS:St u w (I0++(J1++(J2++(J3++(J4++(J5++(J6++(J7++R)))))))):=by simpa [List.append_assoc] using hS
  refine ⟨x2,Cel.load hC hS rfl,o2.read hS,fun {r n k K} h0 h1 hn hk kk=>?_⟩
  refine st_int (o2 u) hS h0 (by simpa using h1) hn ?_
  intro w2 J hO hS
  exact kk w2 (I0++(J1++(J++(J3++(J4++(J5++(J6++J7))))))) ⟨x1,x2,x3,x4,x5,x6,x7,I0,J1,J,J3,J4,J5,J6,J7,hC,(by rw [upd_same h0 h1 (by rw [hk])];exact o1),(by rw [upd_set h0 h1,show RegK.own k=n from by rw [hk]];exact hO.toI),(by rw [upd_same h0 h1 (by rw [hk])];exact o3),(by rw [upd_same h0 h1 (by rw [hk])];exact o4),(by rw [upd_same h0 h1 (by rw [hk])];exact o5),o6,(by rw [upd_same h0 h1 (by rw [hk];rfl)];exact o7),rfl⟩ (by simpa [List.append_assoc] using hS)
theorem Vst.so3 (hV:Vst a v I) (hS:St u w (I++R)):∃ x:Sl,w.cell? (a.add 2)=some x.val∧Read w x (v.regs.map RegK.frm)∧∀ {r n:Int} {k:RegK} {K:World→Prop},0≤r→r < v.regs.length→InI n→k=⟨(v.reg r).typ,(v.reg r).own,(v.reg r).lent,(v.reg r).con,n,(v.reg r).field⟩→(∀ w' I',Vst a (v.upd r k) I'→St u w' (I'++R)→K w')→StoreAt w (elA x r 1) 0 [iV n] K:=by
  obtain ⟨x1,x2,x3,x4,x5,x6,x7,I0,J1,J2,J3,J4,J5,J6,J7,hC,o1,o2,o3,o4,o5,o6,o7,rfl⟩:=hV
  replace hS:St u w (I0++(J1++(J2++(J3++(J4++(J5++(J6++(J7++R)))))))):=by simpa [List.append_assoc] using hS
  refine ⟨x3,Cel.load hC hS rfl,o3.read hS,fun {r n k K} h0 h1 hn hk kk=>?_⟩
  refine st_int (o3 u) hS h0 (by simpa using h1) hn ?_
  intro w2 J hO hS
  exact kk w2 (I0++(J1++(J2++(J++(J4++(J5++(J6++J7))))))) ⟨x1,x2,x3,x4,x5,x6,x7,I0,J1,J2,J,J4,J5,J6,J7,hC,(by rw [upd_same h0 h1 (by rw [hk])];exact o1),(by rw [upd_same h0 h1 (by rw [hk])];exact o2),(by rw [upd_set h0 h1,show RegK.frm k=n from by rw [hk]];exact hO.toI),(by rw [upd_same h0 h1 (by rw [hk])];exact o4),(by rw [upd_same h0 h1 (by rw [hk])];exact o5),o6,(by rw [upd_same h0 h1 (by rw [hk];rfl)];exact o7),rfl⟩ (by simpa [List.append_assoc] using hS)
theorem Vst.so4 (hV:Vst a v I) (hS:St u w (I++R)):∃ x:Sl,w.cell? (a.add 3)=some x.val∧Read w x (v.regs.map RegK.field)∧∀ {r n:Int} {k:RegK} {K:World→Prop},0≤r→r < v.regs.length→InI n→k=⟨(v.reg r).typ,(v.reg r).own,(v.reg r).lent,(v.reg r).con,(v.reg r).frm,n⟩→(∀ w' I',Vst a (v.upd r k) I'→St u w' (I'++R)→K w')→StoreAt w (elA x r 1) 0 [iV n] K:=by
  obtain ⟨x1,x2,x3,x4,x5,x6,x7,I0,J1,J2,J3,J4,J5,J6,J7,hC,o1,o2,o3,o4,o5,o6,o7,rfl⟩:=hV
  replace hS:St u w (I0++(J1++(J2++(J3++(J4++(J5++(J6++(J7++R)))))))):=by simpa [List.append_assoc] using hS
  refine ⟨x4,Cel.load hC hS rfl,o4.read hS,fun {r n k K} h0 h1 hn hk kk=>?_⟩
  refine st_int (o4 u) hS h0 (by simpa using h1) hn ?_
  intro w2 J hO hS
  exact kk w2 (I0++(J1++(J2++(J3++(J++(J5++(J6++J7))))))) ⟨x1,x2,x3,x4,x5,x6,x7,I0,J1,J2,J3,J,J5,J6,J7,hC,(by rw [upd_same h0 h1 (by rw [hk])];exact o1),(by rw [upd_same h0 h1 (by rw [hk])];exact o2),(by rw [upd_same h0 h1 (by rw [hk])];exact o3),(by rw [upd_set h0 h1,show RegK.field k=n from by rw [hk]];exact hO.toI),(by rw [upd_same h0 h1 (by rw [hk])];exact o5),o6,(by rw [upd_same h0 h1 (by rw [hk];rfl)];exact o7),rfl⟩ (by simpa [List.append_assoc] using hS)
theorem Vst.so5 (hV:Vst a v I) (hS:St u w (I++R)):∃ x:Sl,w.cell? (a.add 4)=some x.val∧Read w x (v.regs.map RegK.con)∧∀ {r n:Int} {k:RegK} {K:World→Prop},0≤r→r < v.regs.length→InI n→k=⟨(v.reg r).typ,(v.reg r).own,(v.reg r).lent,n,(v.reg r).frm,(v.reg r).field⟩→(∀ w' I',Vst a (v.upd r k) I'→St u w' (I'++R)→K w')→StoreAt w (elA x r 1) 0 [iV n] K:=by
  obtain ⟨x1,x2,x3,x4,x5,x6,x7,I0,J1,J2,J3,J4,J5,J6,J7,hC,o1,o2,o3,o4,o5,o6,o7,rfl⟩:=hV
  replace hS:St u w (I0++(J1++(J2++(J3++(J4++(J5++(J6++(J7++R)))))))):=by simpa [List.append_assoc] using hS
  refine ⟨x5,Cel.load hC hS rfl,o5.read hS,fun {r n k K} h0 h1 hn hk kk=>?_⟩
  refine st_int (o5 u) hS h0 (by simpa using h1) hn ?_
  intro w2 J hO hS
  exact kk w2 (I0++(J1++(J2++(J3++(J4++(J++(J6++J7))))))) ⟨x1,x2,x3,x4,x5,x6,x7,I0,J1,J2,J3,J4,J,J6,J7,hC,(by rw [upd_same h0 h1 (by rw [hk])];exact o1),(by rw [upd_same h0 h1 (by rw [hk])];exact o2),(by rw [upd_same h0 h1 (by rw [hk])];exact o3),(by rw [upd_same h0 h1 (by rw [hk])];exact o4),(by rw [upd_set h0 h1,show RegK.con k=n from by rw [hk]];exact hO.toI),o6,(by rw [upd_same h0 h1 (by rw [hk];rfl)];exact o7),rfl⟩ (by simpa [List.append_assoc] using hS)
theorem Vst.so6 (hV:Vst a v I) (hS:St u w (I++R)):∃ x:Sl,w.cell? (a.add 5)=some x.val∧Read w x v.kept∧∀ {r n:Int} {K:World→Prop},0≤r→r < v.kept.length→InI n→(∀ w' I',Vst a (keepV v r n) I'→St u w' (I'++R)→K w')→StoreAt w (elA x r 1) 0 [iV n] K:=by
  obtain ⟨x1,x2,x3,x4,x5,x6,x7,I0,J1,J2,J3,J4,J5,J6,J7,hC,o1,o2,o3,o4,o5,o6,o7,rfl⟩:=hV
  replace hS:St u w (I0++(J1++(J2++(J3++(J4++(J5++(J6++(J7++R)))))))):=by simpa [List.append_assoc] using hS
  refine ⟨x6,Cel.load hC hS rfl,o6.read hS,fun {r n K} h0 h1 hn kk=>?_⟩
  refine st_int (o6 u) hS h0 h1 hn ?_
  intro w2 J hO hS
  exact kk w2 (I0++(J1++(J2++(J3++(J4++(J5++(J++J7))))))) ⟨x1,x2,x3,x4,x5,x6,x7,I0,J1,J2,J3,J4,J5,J,J7,hC,o1,o2,o3,o4,o5,hO.toI,o7,rfl⟩ (by simpa [List.append_assoc] using hS)
theorem Vst.so7 (hV:Vst a v I) (hS:St u w (I++R)):∃ x:Sl,w.cell? (a.add 6)=some x.val∧Read w x (v.regs.map lentN)∧∀ {r n:Int} {k:RegK} {K:World→Prop},0≤r→r < v.regs.length→k=⟨(v.reg r).typ,(v.reg r).own,k.lent,(v.reg r).con,(v.reg r).frm,(v.reg r).field⟩→n=lentN k→(∀ w' I',Vst a (v.upd r k) I'→St u w' (I'++R)→K w')→StoreAt w (elA x r 1) 0 [iV n] K:=by
  obtain ⟨x1,x2,x3,x4,x5,x6,x7,I0,J1,J2,J3,J4,J5,J6,J7,hC,o1,o2,o3,o4,o5,o6,o7,rfl⟩:=hV
  replace hS:St u w (I0++(J1++(J2++(J3++(J4++(J5++(J6++(J7++R)))))))):=by simpa [List.append_assoc] using hS
  refine ⟨x7,Cel.load hC hS rfl,o7.read hS,fun {r n k K} h0 h1 hk hn kk=>?_⟩
  subst hn
  refine st_int (o7 u) hS h0 (by simpa using h1) (show InI (lentN k) by unfold lentN;split<;>exact ⟨by omega,by omega⟩) ?_
  intro w2 J hO hS
  exact kk w2 (I0++(J1++(J2++(J3++(J4++(J5++(J6++J))))))) ⟨x1,x2,x3,x4,x5,x6,x7,I0,J1,J2,J3,J4,J5,J6,J,hC,(by rw [upd_same h0 h1 (by rw [hk])];exact o1),(by rw [upd_same h0 h1 (by rw [hk])];exact o2),(by rw [upd_same h0 h1 (by rw [hk])];exact o3),(by rw [upd_same h0 h1 (by rw [hk])];exact o4),(by rw [upd_same h0 h1 (by rw [hk])];exact o5),o6,(by rw [upd_set h0 h1];exact hO.toI),rfl⟩ (by simpa [List.append_assoc] using hS)
def VRd (w:World) (a:Addr) (v:VwD):Prop:=∃ (x1 x2 x3 x4 x5 x6 x7:Sl),(w.cell? (a.add 0)=some x1.val∧Read w x1 (v.regs.map RegK.typ))∧(w.cell? (a.add 1)=some x2.val∧Read w x2 (v.regs.map RegK.own))∧(w.cell? (a.add 2)=some x3.val∧Read w x3 (v.regs.map RegK.frm))∧(w.cell? (a.add 3)=some x4.val∧Read w x4 (v.regs.map RegK.field))∧(w.cell? (a.add 4)=some x5.val∧Read w x5 (v.regs.map RegK.con))∧(w.cell? (a.add 5)=some x6.val∧Read w x6 v.kept)∧(w.cell? (a.add 6)=some x7.val∧Read w x7 (v.regs.map lentN))
theorem VRd.k1 (h:VRd w a v):∃ x:Sl,w.cell? (a.add 0)=some x.val∧Read w x (v.regs.map RegK.typ):=let ⟨x1,x2,x3,x4,x5,x6,x7,h1,h2,h3,h4,h5,h6,h7⟩:=h;⟨x1,h1⟩
theorem VRd.k2 (h:VRd w a v):∃ x:Sl,w.cell? (a.add 1)=some x.val∧Read w x (v.regs.map RegK.own):=let ⟨x1,x2,x3,x4,x5,x6,x7,h1,h2,h3,h4,h5,h6,h7⟩:=h;⟨x2,h2⟩
theorem VRd.k3 (h:VRd w a v):∃ x:Sl,w.cell? (a.add 2)=some x.val∧Read w x (v.regs.map RegK.frm):=let ⟨x1,x2,x3,x4,x5,x6,x7,h1,h2,h3,h4,h5,h6,h7⟩:=h;⟨x3,h3⟩
theorem Vst.rd (hV:Vst a v I) (hS:St u w (I++R)):VRd w a v:=by
  obtain ⟨x1,a1,b1,_⟩:=hV.so1 hS
  obtain ⟨x2,a2,b2,_⟩:=hV.so2 hS
  obtain ⟨x3,a3,b3,_⟩:=hV.so3 hS
  obtain ⟨x4,a4,b4,_⟩:=hV.so4 hS
  obtain ⟨x5,a5,b5,_⟩:=hV.so5 hS
  obtain ⟨x6,a6,b6,_⟩:=hV.so6 hS
  obtain ⟨x7,a7,b7,_⟩:=hV.so7 hS
  exact ⟨x1,x2,x3,x4,x5,x6,x7,⟨a1,b1⟩,⟨a2,b2⟩,⟨a3,b3⟩,⟨a4,b4⟩,⟨a5,b5⟩,⟨a6,b6⟩,⟨a7,b7⟩⟩
theorem VRd.mono {w2:World} (h:VRd w a v) (hs:Sub w w2):VRd w2 a v:=let ⟨x1,x2,x3,x4,x5,x6,x7,h1,h2,h3,h4,h5,h6,h7⟩:=h;⟨x1,x2,x3,x4,x5,x6,x7,⟨cell_sub hs h1.1,h1.2.mono hs⟩,⟨cell_sub hs h2.1,h2.2.mono hs⟩,⟨cell_sub hs h3.1,h3.2.mono hs⟩,⟨cell_sub hs h4.1,h4.2.mono hs⟩,⟨cell_sub hs h5.1,h5.2.mono hs⟩,⟨cell_sub hs h6.1,h6.2.mono hs⟩,⟨cell_sub hs h7.1,h7.2.mono hs⟩⟩
end
section

end
section

end
structure InD (u:World) (x y ax jx:Sl) (ds:List DeclD) (ps:List ProcD) (N:Nat) (e_ at_:Int) (c:InstrD):Prop where
  hx:Read u x ds
  hy:Read u y ps
  hax:Read u ax c.args
  hjx:Read u jx c.jumps
  sg:sigSigs ds (ps.map sigOf)
  ok:instrOk ds (ps.map sigOf) N e_ at_ c
  hN:N≤2000
  a0:0≤at_
  he:e_≤2000
section
variable {u w:World} {v:VwD} {r n e_ at_:Int} {k:RegK} {x y z ax jx:Sl} {N:Nat} {ds:List DeclD} {ps:List ProcD} {c:InstrD}
theorem InD.mono {u':World} (h:InD u x y ax jx ds ps N e_ at_ c) (hs:Sub u u'):InD u' x y ax jx ds ps N e_ at_ c:=⟨h.hx.mono hs,h.hy.mono hs,h.hax.mono hs,h.hjx.mono hs,h.sg,h.ok,h.hN,h.a0,h.he⟩
theorem InD.args (h:InD u x y ax jx ds ps N e_ at_ c):∀ k:Int,0≤k→k < c.args.length→0≤nth c.args k∧nth c.args k < N:=fun k k0 k1=>by
  have:=List.all_eq_true.1 h.ok.2.1 _ (nth_mem k0 k1)
  unfold laterB at this
  simp only [Bool.and_eq_true,decide_eq_true_eq] at this
  omega
theorem InD.dst (h:InD u x y ax jx ds ps N e_ at_ c):0≤c.dst∧c.dst < N:=h.ok.2.2.1
theorem c_conFieldsR {v:World} (hx:Read v x ds) (hd:SmDs ds) (hn:InI n):Mk Tryz.prog 95 #[x.val,iV n] v fun r J=>∃ z:Sl,r=z.val∧∀ w,St v w J→Read w z (conF ds n):=by
  refine of95 _ _ _ _ ?_
  unfold vc95
  have hxn:=hx.n
  have hS:=St.refl v
  have hlen:=hd.len
  refine ⟨_,c_specConType hx hd,fun hq=>?_,fun hq=>?_⟩
  · simp only [bls] at hq
    have hc:conI ds n < 0:=by
      unfold conTyV at hq
      split at hq
      · assumption
      · omega
    refine St.build (α:=Int) hS (by (repeat' (first|exact VsOf.nil|apply VsOf.cons|(apply VOf.int;first|assumption|(constructor<;>first|omega|(simp only [lz] at *;omega)))|exact VOf.bool|exact VOf.str))) rfl (by decide) ?_
    intro z0 w0 I0 hO0 hS hs
    refine ⟨_,rfl,I0,by simpa using hS,z0,rfl,fun w hS=>?_⟩
    unfold conF
    rw [if_pos hc]
    exact hO0.read1 hS
  · simp only [bls] at hq
    rcases conI_cases ds n with ⟨h1,_⟩|⟨h1,h2,h3,h4⟩
    · unfold conTyV at hq;rw [if_pos (by omega)] at hq;omega
    have e:conTyV ds n=conI ds n+1:=by unfold conTyV;rw [if_neg (by omega)]
    rw [show conTyV ds n - 1=conI ds n from by rw [e];omega]
    have hfc:=hd.fc (conI ds n).toNat (by omega)
    obtain ⟨q1,q2⟩:=h3
    refine go_wr (by omega) (by omega) ?_
    refine go_ix hx h1 h2 ?_
    refine ld_decl_cons (hx.src (.refl v)) h1 h2 ?_
    intro g hg
    refine go_wr (by omega) (by omega) ?_
    refine ⟨_,c_firstCon hx (by omega) (fun d h=>by have:=hd.cons d h;omega) h1 (by omega),?_⟩
    have hcl:=hd.cons _ (nth_mem (l:=ds) h1 h2)
    refine go_wr (by omega) (by omega) ?_
    refine go_ix hg (by omega) (by omega) ?_
    refine ld_con_fields (hg.src (.refl v)) (by omega) (by omega) ?_
    intro g2 hg2
    refine ⟨[],hS,g2,rfl,fun w hS=>?_⟩
    unfold conF
    rw [if_neg (by omega)]
    exact hg2.mono hS.sub
end
section
variable {n i:Int} {ds:List DeclD}
theorem conTyV_bd (h:typesOk ds):-1≤conTyV ds n∧conTyV ds n≤4:=by
  unfold conTyV
  have:=h.1
  rcases conI_cases ds n with ⟨h1,_⟩|⟨h1,h2,h3,h4⟩
  · rw [if_pos (by omega)];omega
  · rw [if_neg (by omega)];omega
theorem conF_typ (h:typesOk ds) (h0:0≤i) (h1:i < (conF ds n).length):0≤nth (conF ds n) i∧nth (conF ds n) i≤4:=by
  have hm:=nth_mem (l:=conF ds n) h0 h1
  have hl:=h.1
  revert hm
  generalize nth (conF ds n) i=e
  unfold conF
  split
  · intro hm;cases hm
  · intro hm
    rename_i hp
    rcases conI_cases ds n with ⟨g1,_⟩|⟨g1,g2,⟨q1,q2⟩,g4⟩
    · omega
    · have:=List.all_eq_true.1 ((declOk_easy (h.2 _ g1 g2)).2.2.2.2.1 _ (nth_mem (by omega) (by omega))).2 _ hm
      unfold typeB at this
      simp only [Bool.and_eq_true,decide_eq_true_eq] at this
      omega
end
section
variable {w:World} {v:VwD} {t n i f:Int} {k:RegK} {x:Sl} {ds:List DeclD}
theorem arrI_some (h0:0≤i) (h1:i < ds.length) (h:arrP ds f t i) (hm:∀ j:Int,0≤j→j < i→¬ arrP ds f t j):arrI ds f t=i+1:=by
  have hex:∃ k:Nat,k < ds.length∧arrP ds f t k:=⟨i.toNat,by omega,by rw [show ((i.toNat:Nat):Int)=i from by omega];exact h⟩
  unfold arrI
  rw [if_pos hex]
  have h2:=leastM_spec hex
  have h3:=leastM_le (p:=fun k:Nat=>k < ds.length∧arrP ds f t k) (k:=i.toNat) ⟨by omega,by rw [show ((i.toNat:Nat):Int)=i from by omega];exact h⟩
  have h4:¬ (leastM (fun k:Nat=>k < ds.length∧arrP ds f t k):Int) < i:=fun hh=>hm _ (by omega) hh h2.2
  omega
theorem arrI_none (h:∀ j:Int,0≤j→j < ds.length→¬ arrP ds f t j):arrI ds f t=-1:=by
  unfold arrI
  rw [if_neg]
  rintro ⟨k,hk,hp⟩
  exact h k (by omega) (by omega) hp
theorem arrI_bd (hl:ds.length≤4):arrI ds f t=-1∨(1≤arrI ds f t∧arrI ds f t≤4):=by
  unfold arrI
  split
  · rename_i hex
    have:=(leastM_spec hex).1
    omega
  · exact .inl rfl
theorem c_arrowOf {v:World} (hx:Read v x ds) (hl:ds.length≤4):Fn Tryz.prog 169 #[x.val,iV f,iV t] v (iV (arrI ds f t)):=by
  refine of169 _ _ _ _ _ ?_
  unfold vc169
  have hn:=hx.n
  refine ⟨fun i w=>v=w∧0≤i∧i≤ds.length∧∀ j:Int,0≤j→j < i→¬ arrP ds f t j,fun i _=>(ds.length - i).toNat,⟨rfl,by omega,by omega,fun j j0 j1=>by omega⟩,?_⟩
  rintro i _ ⟨rfl,i0,i1,hj⟩
  refine ⟨fun hi=>?_,fun hi=>?_⟩
  · simp only [bls] at hi
    have hil:i < ds.length:=by omega
    obtain ⟨f_cons,e1,e2,e3,j1,j2,r1⟩:=(hx.src (.refl v)).ofDeclD i0 hil
    have hcn:=r1.n
    refine go_ix hx i0 hil ?_
    refine ⟨f_cons,e3,?_⟩
    refine go_ixg hx (fun _=>⟨i0,hil⟩) ?_
    refine ⟨_,fun _=>e1,?_⟩
    refine go_ixg hx (fun _=>⟨i0,hil⟩) ?_
    refine ⟨_,fun _=>e2,?_⟩
    refine ⟨fun hq=>?_,fun hq=>?_⟩
    · simp only [bls] at hq
      refine go_wr (by omega) (by omega) ?_
      exact ⟨by rw [arrI_some i0 hil ⟨by omega,hq.1.2,hq.2⟩ hj],.refl _⟩
    · refine go_wr (by omega) (by omega) ?_
      refine ⟨⟨rfl,by omega,by omega,fun j j0 j1=>?_⟩,by dsimp only;omega⟩
      by_cases e:j=i
      · subst e
        rintro ⟨q1,q2,q3⟩
        have:f_cons.n=0:=by omega
        simp [this,q2,q3] at hq
      · exact hj j j0 (by omega)
  · simp only [bls] at hi
    exact ⟨by rw [arrI_none fun j j0 j1=>hj j j0 (by omega)],.refl _⟩
theorem c_isArrow {v:World} (hx:Read v x ds) (hl:ds.length≤4):∃ q,(q=true↔isArr ds n)∧Fn Tryz.prog 155 #[x.val,iV n] v (.bool q):=by
  classical
  refine ⟨decide (isArr ds n),by simp,?_⟩
  refine of155 _ _ _ _ ?_
  unfold vc155
  have hn:=hx.n
  refine ⟨_,c_inRange,?_⟩
  have hg:(decide (1≤n) && decide (n≤(x.n:Int)))=true→1≤n∧n≤ds.length:=fun h=>by simp only [bls] at h;omega
  refine go_wrg (fun h=>by have:=hg h;omega) ?_
  refine go_ixg hx (fun h=>by have:=hg h;omega) ?_
  refine ldg_decl_cons (hx.src (.refl v)) (fun h=>by have:=hg h;omega) ?_
  intro g hr
  refine ⟨?_,.refl _⟩
  congr 1
  rw [Bool.eq_iff_iff]
  simp only [Bool.and_eq_true,decide_eq_true_eq]
  constructor
  · intro h
    have:=(hr (by simp only [Bool.and_eq_true,decide_eq_true_eq];exact h.1)).n
    exact ⟨h.1.1,by omega,by omega⟩
  · rintro ⟨q1,q2,q3⟩
    have:=(hr (by simp only [Bool.and_eq_true,decide_eq_true_eq];omega)).n
    exact ⟨⟨q1,by omega⟩,by omega⟩
end
section

end
structure InP (ds:List DeclD) (ss:List SigD) (N:Nat) (e_ at_:Int) (c:InstrD):Prop where
  sg:sigSigs ds ss
  ok:instrOk ds ss N e_ at_ c
  hN:N≤2000
section
variable {u:World} {v:VwD} {i e_ at_:Int} {k:RegK} {x y ax jx:Sl} {N B B':Nat} {ds:List DeclD} {ss:List SigD} {ps:List ProcD} {c:InstrD} {F:List (Option VwD)}
theorem InD.P (h:InD u x y ax jx ds ps N e_ at_ c):InP ds (ps.map sigOf) N e_ at_ c:=⟨h.sg,h.ok,h.hN⟩
theorem InP.args (h:InP ds ss N e_ at_ c):∀ k:Int,0≤k→k < c.args.length→0≤nth c.args k∧nth c.args k < N:=fun k k0 k1=>by
  have:=List.all_eq_true.1 h.ok.2.1 _ (nth_mem k0 k1)
  unfold laterB at this
  simp only [Bool.and_eq_true,decide_eq_true_eq] at this
  omega
theorem InP.dst (h:InP ds ss N e_ at_ c):0≤c.dst∧c.dst < N:=h.ok.2.2.1
def WfF (N B:Nat) (F:List (Option VwD)):Prop:=∀ (i:Int) (v:VwD),nth F i=some v→Wf N B v
theorem WfF.mono (h:WfF N B F) (hb:B≤B'):WfF N B' F:=fun i v hv=>(h i v hv).mono hb
end
section
variable {v w:World} {x y:Sl} {l m:List Int}
theorem c_sameInts (hx:Read v x l) (hy:Read v y m):Fn Tryz.prog 162 #[x.val,y.val] v (.bool (decide (l=m))):=by
  refine of162 _ _ _ _ ?_
  unfold vc162
  have hxn:=hx.n
  have hyn:=hy.n
  have hxl:=hx.le
  rw [hxn,hyn]
  refine ⟨fun hc=>?_,fun hc=>?_⟩
  · simp only [bls] at hc
    exact ⟨by rw [decide_eq_false (fun h=>hc (by rw [h]))],.refl v⟩
  simp only [bls] at hc
  refine ⟨fun i w=>v=w∧0≤i∧i≤l.length∧∀ j:Int,0≤j→j < i→nth l j=nth m j,fun i _=>(l.length - i).toNat,⟨rfl,by omega,by omega,fun j j0 j1=>by omega⟩,?_⟩
  rintro i _ ⟨rfl,i0,i1,hj⟩
  refine ⟨fun hi=>?_,fun hi=>?_⟩
  · simp only [bls] at hi
    refine go_ix hx i0 (by omega) ?_
    refine ld_int hx i0 (by omega) fun _ _=>?_
    refine go_ix hy i0 (by omega) ?_
    refine ld_int hy i0 (by omega) fun _ _=>?_
    refine ⟨fun hd=>?_,fun hd=>?_⟩
    · simp only [bls] at hd
      exact ⟨by rw [decide_eq_false (fun h=>hd (by rw [h]))],.refl v⟩
    · simp only [bls] at hd
      refine go_wr (by omega) (by omega) ?_
      refine ⟨⟨rfl,by omega,by omega,fun j j0 j1=>?_⟩,by dsimp only;omega⟩
      by_cases e:j=i
      · subst e;exact hd
      · exact hj j j0 (by omega)
  · simp only [bls] at hi
    have:l=m:=by
      refine List.ext_getElem (by omega) fun k k1 k2=>?_
      have:=hj k (by omega) (by omega)
      unfold nth at this
      simpa [List.getD,k1,k2] using this
    exact ⟨by rw [decide_eq_true this],.refl v⟩
end
section

end
structure Rep where
  st:Addr→VwD→Items→Prop
  rd:World→Addr→VwD→Prop
  mono:∀ {w w2:World} {a:Addr} {v:VwD},Sub w w2→rd w a v→rd w2 a v
  get:∀ {w:World} {a:Addr} {v:VwD} {I:Items},st a v I→AtAll w I→rd w a v
structure PV (ρ:Rep) where
  o:Option VwD
instance {ρ:Rep}:Inhabited (PV ρ):=⟨⟨none⟩⟩
def PV.cells (ρ:Rep) (w:World) (cs:List Value):Option VwD→Prop
  | none=>cs=[.pointer none]
  | some v=>∃ a:Addr,cs=[(pt a)]∧ρ.rd w a v
def PV.ownC (ρ:Rep) (cs:List Value) (K:Items):Option VwD→Prop
  | none=>cs=[.pointer none]∧K=[]
  | some v=>∃ a:Addr,cs=[(pt a)]∧ρ.st a v K
instance {ρ:Rep}:Dat (PV ρ) where
  sz:=1
  cells _ w cs s:=PV.cells ρ w cs s.o
  mono:=fun {B u w cs s} hs h=>by
    unfold PV.cells at *
    split at h
    · exact h
    · obtain ⟨a,h1,h2⟩:=h;exact ⟨a,h1,ρ.mono hs h2⟩
  len:=fun {B w cs s} h=>by
    unfold PV.cells at h
    split at h
    · rw [h];rfl
    · obtain ⟨a,h1,h2⟩:=h;rw [h1];rfl
  one:=fun {B w cs s} h v hv=>by
    unfold PV.cells at h
    split at h
    · rw [h] at hv;simp at hv;subst hv;rfl
    · obtain ⟨a,h1,h2⟩:=h;rw [h1] at hv;simp at hv;subst hv;rfl
instance {ρ:Rep}:DatO (PV ρ) where
  own cs s K:=PV.ownC ρ cs K s.o
  read:=by
    intro w cs s I h hA
    show PV.cells ρ w cs s.o
    unfold PV.cells
    unfold PV.ownC at h
    split
    · rename_i e;rw [e] at h;exact h.1
    · rename_i v e;rw [e] at h;obtain ⟨a,h1,h2⟩:=h;exact ⟨a,h1,ρ.get h2 hA⟩
section

end
theorem OwnI.readA {w:World} {x:Sl} {l:List Int} {I:Items} (h:OwnI x l I) (hA:AtAll w I):Read w x l:=by
  obtain ⟨rows,k1,k2,k3⟩:=h w
  exact ⟨rows,k1.rd hA,k2,k3⟩
section

end
section
variable {u:World} {i:Int} {x y cx:Sl} {N:Nat} {ds:List DeclD} {ps:List ProcD} {code:List InstrD}
structure CodD (u:World) (x y cx:Sl) (ds:List DeclD) (ps:List ProcD) (N:Nat) (code:List InstrD):Prop where
  hx:Read u x ds
  hy:Read u y ps
  hc:Read u cx code
  sg:sigSigs ds (ps.map sigOf)
  hN:N≤2000
  hl:code.length≤2000
  last:(nth code ((code.length:Int) - 1)).op=23∨(nth code ((code.length:Int) - 1)).op=24
  ok:∀ i:Int,0≤i→i < code.length→instrOk ds (ps.map sigOf) N code.length i (nth code i)
theorem CodD.mono {u':World} (h:CodD u x y cx ds ps N code) (hs:Sub u u'):CodD u' x y cx ds ps N code:=⟨h.hx.mono hs,h.hy.mono hs,h.hc.mono hs,h.sg,h.hN,h.hl,h.last,h.ok⟩
end
section

end
section

end
instance:Dat RegK where
  sz:=6
  cells _ _ cs r:=cs=[intV r.typ,intV r.own,.bool r.lent,intV r.con,intV r.frm,intV r.field]∧InI r.typ∧InI r.own∧InI r.con∧InI r.frm∧InI r.field
  mono:=fun _ h=>h
  len:=fun h=>by rw [h.1];rfl
  one:=fun h v hv=>by
    have hv:=h.1 ▸ hv
    simp only [List.mem_cons,List.not_mem_nil,or_false] at hv
    rcases hv with rfl|rfl|rfl|rfl|rfl|rfl<;>rfl
def KstX (a:Addr) (x y:Sl) (v:VwD) (I:Items):Prop:=∃ (I0 I1 I2:Items),Cel a [x.val,y.val] I0∧(∀ u,Own u x v.regs I1)∧OwnI y v.kept I2∧I=I0++(I1++I2)
def KRd (w:World) (a:Addr) (v:VwD):Prop:=∃ (x y:Sl),w.cell? (a.add 0)=some x.val∧w.cell? (a.add 1)=some y.val∧Read w x v.regs∧Read w y v.kept
theorem KRd.mono {w w2:World} {a:Addr} {v:VwD} (h:KRd w a v) (hs:Sub w w2):KRd w2 a v:=let ⟨x,y,h1,h2,h3,h4⟩:=h;⟨x,y,cell_sub hs h1,cell_sub hs h2,h3.mono hs,h4.mono hs⟩
section
variable {u w:World} {v:VwD} {a:Addr} {r:Int} {x y:Sl} {I R:Items} {l:List RegK}
theorem rkL (hr:Read w x l) (h0:0≤r) (h1:r < l.length):w.cell? ((elA x r 6).add 0)=some (iV (nth l r).typ)∧w.cell? ((elA x r 6).add 1)=some (iV (nth l r).own)∧w.cell? ((elA x r 6).add 2)=some (.bool (nth l r).lent)∧
    w.cell? ((elA x r 6).add 3)=some (iV (nth l r).con)∧w.cell? ((elA x r 6).add 4)=some (iV (nth l r).frm)∧w.cell? ((elA x r 6).add 5)=some (iV (nth l r).field):=by
  obtain ⟨row,⟨rfl,_⟩,hc⟩:=hr.row h0 h1
  exact ⟨hc 0 _ rfl,hc 1 _ rfl,hc 2 _ rfl,hc 3 _ rfl,hc 4 _ rfl,hc 5 _ rfl⟩
theorem rk (hr:Read w x v.regs) (h0:0≤r) (h1:r < v.regs.length):w.cell? ((elA x r 6).add 0)=some (iV (v.reg r).typ)∧w.cell? ((elA x r 6).add 1)=some (iV (v.reg r).own)∧w.cell? ((elA x r 6).add 2)=some (.bool (v.reg r).lent)∧
    w.cell? ((elA x r 6).add 3)=some (iV (v.reg r).con)∧w.cell? ((elA x r 6).add 4)=some (iV (v.reg r).frm)∧w.cell? ((elA x r 6).add 5)=some (iV (v.reg r).field):=rkL hr h0 h1
theorem KstX.rd (h:KstX a x y v I) (hS:St u w (I++R)):Read w x v.regs:=by
  obtain ⟨I0,I1,I2,hC,o1,o2,rfl⟩:=h
  have:St u w (I0++(I1++(I2++R))):=by simpa [List.append_assoc] using hS
  exact (o1 u).read this
theorem KstX.rk (h:KstX a x y v I) (hS:St u w (I++R)):Read w y v.kept:=by
  obtain ⟨I0,I1,I2,hC,o1,o2,rfl⟩:=h
  have:St u w (I0++(I1++(I2++R))):=by simpa [List.append_assoc] using hS
  exact o2.read this
end
section

end
end Go.Vc
namespace Go.Vc
open Go Go.RowKit
structure StepP (κ:Type) where
  op:Int
  num:Int
  into:Int
  args:List Int
  kids:List κ
structure BlockD where
  steps:List (StepP BlockD)
  result:Int
abbrev StepD:=StepP BlockD
instance:Inhabited StepD:=⟨⟨0,0,0,[],[]⟩⟩
instance:Inhabited BlockD:=⟨⟨[],0⟩⟩
noncomputable instance:DecidableEq StepD:=fun a b=>Classical.propDecidable _
noncomputable instance:DecidableEq BlockD:=fun a b=>Classical.propDecidable _
mutual
inductive StpC (B:Nat) (w:World):List Value→StepD→Prop where
  | mk {op num into:Int} {args:List Int} {kids:List BlockD} {xa xk:Sl} {rows:List (List Value)}:InI op→InI num→InI into→ReadB B w xa args→Rows w xk 2 rows→rows.length=kids.length→
      (∀ (i:Nat) (r:List Value) (b:BlockD),rows[i]?=some r→kids[i]?=some b→BlkC B w r b)→kids.length≤B→StpC B w [intV op,intV num,intV into,xa.val,xk.val] ⟨op,num,into,args,kids⟩
inductive BlkC (B:Nat) (w:World):List Value→BlockD→Prop where
  | mk {steps:List StepD} {result:Int} {xs:Sl} {rows:List (List Value)}:InI result→Rows w xs 5 rows→rows.length=steps.length→
      (∀ (i:Nat) (r:List Value) (s:StepD),rows[i]?=some r→steps[i]?=some s→StpC B w r s)→steps.length≤B→BlkC B w [xs.val,intV result] ⟨steps,result⟩
end
mutual
theorem StpC.mono {B:Nat} {u w:World} {cs:List Value} {a:StepD} (hs:Sub u w):StpC B u cs a→StpC B w cs a
  | .mk h1 h2 h3 h4 h5 h6 h7 h8=>.mk h1 h2 h3 (h4.mono hs) (h5.sub hs) h6 (fun i r b hr hb=>BlkC.mono hs (h7 i r b hr hb)) h8
theorem BlkC.mono {B:Nat} {u w:World} {cs:List Value} {a:BlockD} (hs:Sub u w):BlkC B u cs a→BlkC B w cs a
  | .mk h1 h2 h3 h4 h5=>.mk h1 (h2.sub hs) h3 (fun i r b hr hb=>StpC.mono hs (h4 i r b hr hb)) h5
end
instance:Dat BlockD where
  sz:=2
  cells:=BlkC
  mono:=fun hs h=>h.mono hs
  len:=fun h=>by cases h;rfl
  one:=fun h v hv=>by
    cases h
    simp only [List.mem_cons,List.not_mem_nil,or_false] at hv
    rcases hv with rfl|rfl<;>rfl
instance:Dat StepD where
  sz:=5
  cells:=StpC
  mono:=fun hs h=>h.mono hs
  len:=fun h=>by cases h;rfl
  one:=fun h v hv=>by
    cases h
    simp only [List.mem_cons,List.not_mem_nil,or_false] at hv
    rcases hv with rfl|rfl|rfl|rfl|rfl<;>rfl
theorem step_cells {B:Nat} {w:World} {cs:List Value} {c:StepD}:Dat.cells B w cs c↔∃ f_args f_kids:Sl,cs=[intV c.op,intV c.num,intV c.into,f_args.val,f_kids.val]∧InI c.op∧InI c.num∧InI c.into∧ReadB B w f_args c.args∧ReadB B w f_kids c.kids:=by
  constructor
  · intro h
    cases h with
    | mk h1 h2 h3 h4 h5 h6 h7 h8=>exact ⟨_,_,rfl,h1,h2,h3,h4,_,h5,⟨h6,h7⟩,h8⟩
  · rintro ⟨xa,xk,rfl,h1,h2,h3,h4,rows,h5,⟨h6,h7⟩,h8⟩
    exact .mk h1 h2 h3 h4 h5 h6 h7 h8
theorem block_cells {B:Nat} {w:World} {cs:List Value} {c:BlockD}:Dat.cells B w cs c↔∃ f_steps:Sl,cs=[f_steps.val,intV c.result]∧InI c.result∧ReadB B w f_steps c.steps:=by
  constructor
  · intro h
    cases h with
    | mk h1 h2 h3 h4 h5=>exact ⟨_,rfl,h1,_,h2,⟨h3,h4⟩,h5⟩
  · obtain ⟨steps,result⟩:=c
    rintro ⟨xs,rfl,h1,rows,h2,⟨h3,h4⟩,h5⟩
    exact .mk h1 h2 h3 h4 h5
mutual
inductive StpO:List Value→StepD→Items→Prop where
  | mk {op num into:Int} {args:List Int} {kids:List BlockD} {xa xk:Sl} {rows:List (List Value)} {Ka I0 E I:Items} {Is:List Items}:InI op→InI num→InI into→(∀ u,Own u xa args Ka)→OSl 2 xk rows I0→rows.length=kids.length→Is.length=kids.length→
      (∀ (i:Nat) (r:List Value) (b:BlockD) (K:Items),rows[i]?=some r→kids[i]?=some b→Is[i]?=some K→BlkO r b K)→I.Perm (I0++(Is.flatten++E))→kids.length≤BB→
      StpO [intV op,intV num,intV into,xa.val,xk.val] ⟨op,num,into,args,kids⟩ (Ka++I)
inductive BlkO:List Value→BlockD→Items→Prop where
  | mk {steps:List StepD} {result:Int} {xs:Sl} {rows:List (List Value)} {I0 E I:Items} {Is:List Items}:InI result→OSl 5 xs rows I0→rows.length=steps.length→Is.length=steps.length→
      (∀ (i:Nat) (r:List Value) (s:StepD) (K:Items),rows[i]?=some r→steps[i]?=some s→Is[i]?=some K→StpO r s K)→I.Perm (I0++(Is.flatten++E))→steps.length≤BB→BlkO [xs.val,intV result] ⟨steps,result⟩ I
end
theorem get_len {α β:Type} {l:List α} {m:List β} {i:Nat} {a:α} (h:l[i]?=some a) (hl:l.length=m.length):i < m.length:=by
  have:=(List.getElem?_eq_some_iff.1 h).1
  omega
mutual
theorem StpO.read {w:World} {cs:List Value} {a:StepD} {I:Items}:StpO cs a I→AtAll w I→StpC BB w cs a
  | .mk (Is:=Is) (kids:=kids) (rows:=rows) h1 h2 h3 h4 h5 h6 h7 h8 h9 h10,hA=>by
    have hA':=(show AtAll w _ from fun p hp=>hA p (List.mem_append_right _ hp)).perm h9.symm
    refine .mk h1 h2 h3 (let ⟨rows,k1,k2,k3⟩:=h4 w;⟨rows,k1.rd fun p hp=>hA p (List.mem_append_left _ hp),k2,k3⟩) (h5.rd fun p hp=>hA' p (List.mem_append_left _ hp)) h6 (fun i r b hr hb=>?_) h10
    have hlt:i < Is.length:=get_len hr (by omega)
    exact BlkO.read (h8 i r b _ hr hb (List.getElem?_eq_getElem hlt)) fun p hp=>hA' p (List.mem_append_right _ (List.mem_append_left _ (List.mem_flatten.2 ⟨_,List.getElem_mem hlt,hp⟩)))
theorem BlkO.read {w:World} {cs:List Value} {a:BlockD} {I:Items}:BlkO cs a I→AtAll w I→BlkC BB w cs a
  | .mk (Is:=Is) (rows:=rows) h1 h5 h6 h7 h8 h9 h10,hA=>by
    have hA':=hA.perm h9.symm
    refine .mk h1 (h5.rd fun p hp=>hA' p (List.mem_append_left _ hp)) h6 (fun i r b hr hb=>?_) h10
    have hlt:i < Is.length:=get_len hr (by omega)
    exact StpO.read (h8 i r b _ hr hb (List.getElem?_eq_getElem hlt)) fun p hp=>hA' p (List.mem_append_right _ (List.mem_append_left _ (List.mem_flatten.2 ⟨_,List.getElem_mem hlt,hp⟩)))
end
instance:DatO BlockD where
  own:=BlkO
  read:=BlkO.read
instance:DatO StepD where
  own:=StpO
  read:=StpO.read
theorem step_own {cs:List Value} {c:StepD} {K:Items}:DatO.own cs c K↔∃ f_args f_kids:Sl,∃ K_args K_kids:Items,cs=[intV c.op,intV c.num,intV c.into,f_args.val,f_kids.val]∧InI c.op∧InI c.num∧InI c.into∧(∀ u,Own u f_args c.args K_args)∧OwnD f_kids c.kids K_kids∧K=K_args++K_kids:=by
  constructor
  · intro h
    cases h with
    | mk h1 h2 h3 h4 h5 h6 h7 h8 h9 h10=>exact ⟨_,_,_,_,rfl,h1,h2,h3,h4,⟨_,_,_,_,h5,h6,h7,h8,h9,h10⟩,rfl⟩
  · rintro ⟨xa,xk,Ka,Kk,rfl,h1,h2,h3,h4,⟨_,_,_,_,h5,h6,h7,h8,h9,h10⟩,rfl⟩
    exact .mk h1 h2 h3 h4 h5 h6 h7 h8 h9 h10
theorem block_own {cs:List Value} {c:BlockD} {K:Items}:DatO.own cs c K↔∃ f_steps:Sl,cs=[f_steps.val,intV c.result]∧InI c.result∧OwnD f_steps c.steps K:=by
  constructor
  · intro h
    cases h with
    | mk h1 h5 h6 h7 h8 h9 h10=>exact ⟨_,rfl,h1,_,_,_,_,h5,h6,h7,h8,h9,h10⟩
  · obtain ⟨steps,result⟩:=c
    rintro ⟨xs,rfl,h1,_,_,_,_,h5,h6,h7,h8,h9,h10⟩
    exact .mk h1 h5 h6 h7 h8 h9 h10
mutual
theorem blk_indA {P:BlockD→Prop} (h:∀ b:BlockD,(∀ s∈b.steps,∀ k∈s.kids,P k)→P b):∀ b:BlockD,P b
  | ⟨steps,result⟩=>h _ (stps_indA h steps)
theorem stps_indA {P:BlockD→Prop} (h:∀ b:BlockD,(∀ s∈b.steps,∀ k∈s.kids,P k)→P b):∀ (l:List (StepP BlockD)),∀ s∈l,∀ k∈s.kids,P k
  | []=>fun s hs=>by cases hs
  | a ::r=>fun s hs=>by
    rcases List.mem_cons.1 hs with e|hs
    · rw [e];exact stp_indA h a
    · exact stps_indA h r s hs
theorem stp_indA {P:BlockD→Prop} (h:∀ b:BlockD,(∀ s∈b.steps,∀ k∈s.kids,P k)→P b):∀ (s:StepP BlockD),∀ k∈s.kids,P k
  | ⟨_,_,_,_,kids⟩=>blks_indA h kids
theorem blks_indA {P:BlockD→Prop} (h:∀ b:BlockD,(∀ s∈b.steps,∀ k∈s.kids,P k)→P b):∀ (l:List BlockD),∀ k∈l,P k
  | []=>fun s hs=>by cases hs
  | a ::r=>fun s hs=>by
    rcases List.mem_cons.1 hs with e|hs
    · rw [e];exact blk_indA h a
    · exact blks_indA h r s hs
end
theorem blk_ind {P:BlockD→Prop} (h:∀ b:BlockD,(∀ s∈b.steps,∀ k∈s.kids,P k)→P b) (b:BlockD):P b:=blk_indA h b
end Go.Vc
namespace Go.Vc
open Go Go.Proofs Go.RowKit
structure RoutD where
  params:List Int
  lent:List Int
  result:Int
  body:BlockD
noncomputable instance:DecidableEq RoutD:=fun a b=>Classical.propDecidable _
instance:Inhabited RoutD:=⟨⟨[],[],0,default⟩⟩
instance:Dat RoutD where
  sz:=5
  cells B w cs c:=∃ f_params f_lent f_steps:Sl,cs=[f_params.val,f_lent.val,intV c.result,f_steps.val,intV c.body.result]∧InI c.result∧InI c.body.result∧ReadB B w f_params c.params∧ReadB B w f_lent c.lent∧ReadB B w f_steps c.body.steps
  mono:=fun hs ⟨f1,f2,f3,h0,i1,i2,r1,r2,r3⟩=>⟨f1,f2,f3,h0,i1,i2,r1.mono hs,r2.mono hs,r3.mono hs⟩
  len:=fun ⟨f1,f2,f3,h0,_⟩=>by rw [h0];rfl
  one:=fun ⟨f1,f2,f3,h0,_⟩ v hv=>by
    rw [h0] at hv;simp only [List.mem_cons,List.not_mem_nil,or_false] at hv
    rcases hv with rfl|rfl|rfl|rfl|rfl<;>rfl
def sgOf (r:RoutD):SigD:=⟨r.params,r.lent,r.result⟩
theorem Src.ofStepD {u w:World} {x:Sl} {l:List StepD} {i:Int} (hx:Src u w x l) (h0:0≤i) (h1:i < l.length):∃ f_args f_kids:Sl,w.cell? ((elA x i 5).add 0)=some (iV (nth l i).op)∧w.cell? ((elA x i 5).add 1)=some (iV (nth l i).num)∧w.cell? ((elA x i 5).add 2)=some (iV (nth l i).into)∧w.cell? ((elA x i 5).add 3)=some f_args.val∧w.cell? ((elA x i 5).add 4)=some f_kids.val∧InI (nth l i).op∧InI (nth l i).num∧InI (nth l i).into∧Read u f_args (nth l i).args∧Read u f_kids (nth l i).kids:=by
  obtain ⟨r,hr,h5⟩:=hx.row h0 h1
  obtain ⟨f_args,f_kids,rfl,i1,i2,i3,r1,r2⟩:=step_cells.1 hr
  exact ⟨f_args,f_kids,h5 0 _ rfl,h5 1 _ rfl,h5 2 _ rfl,h5 3 _ rfl,h5 4 _ rfl,i1,i2,i3,r1,r2⟩
theorem Src.ofBlockD {u w:World} {x:Sl} {l:List BlockD} {i:Int} (hx:Src u w x l) (h0:0≤i) (h1:i < l.length):∃ f_steps:Sl,w.cell? ((elA x i 2).add 0)=some f_steps.val∧w.cell? ((elA x i 2).add 1)=some (iV (nth l i).result)∧InI (nth l i).result∧Read u f_steps (nth l i).steps:=by
  obtain ⟨r,hr,h5⟩:=hx.row h0 h1
  obtain ⟨f_steps,rfl,i1,r1⟩:=block_cells.1 hr
  exact ⟨f_steps,h5 0 _ rfl,h5 1 _ rfl,i1,r1⟩
theorem Src.ofRoutD {u w:World} {x:Sl} {l:List RoutD} {i:Int} (hx:Src u w x l) (h0:0≤i) (h1:i < l.length):∃ f_params f_lent f_steps:Sl,w.cell? ((elA x i 5).add 0)=some f_params.val∧w.cell? ((elA x i 5).add 1)=some f_lent.val∧w.cell? ((elA x i 5).add 2)=some (iV (nth l i).result)∧w.cell? ((elA x i 5).add 3)=some f_steps.val∧w.cell? ((elA x i 5).add 4)=some (iV (nth l i).body.result)∧
    InI (nth l i).result∧InI (nth l i).body.result∧Read u f_params (nth l i).params∧Read u f_lent (nth l i).lent∧Read u f_steps (nth l i).body.steps:=by
  obtain ⟨r,hr,h5⟩:=hx.row h0 h1
  obtain ⟨f1,f2,f3,rfl,i1,i2,r1,r2,r3⟩:=hr
  exact ⟨f1,f2,f3,h5 0 _ rfl,h5 1 _ rfl,h5 2 _ rfl,h5 3 _ rfl,h5 4 _ rfl,i1,i2,r1,r2,r3⟩
instance:SlT Tryz.prog 23 5 72 [intV 0,intV 0,intV 0,.slice none 0 0,.slice none 0 0]:=.of (by kernel_rfl) rfl (by decide)
instance:SlT Tryz.prog 29 2 32 [.slice none 0 0,intV 0]:=.of (by kernel_rfl) rfl (by decide)
instance:SlT Tryz.prog 48 5 88 [.slice none 0 0,.slice none 0 0,intV 0,.slice none 0 0,intV 0]:=.of (by kernel_rfl) rfl (by decide)
mutual
def cntB:BlockD→Nat
  | ⟨ss,_⟩=>cntL ss
def cntL:List (StepP BlockD)→Nat
  | []=>0
  | s ::r=>1+cntS s+cntL r
def cntS:StepP BlockD→Nat
  | ⟨_,_,_,_,ks⟩=>cntK ks
def cntK:List BlockD→Nat
  | []=>0
  | b ::r=>cntB b+cntK r
end
def isCnt (op:Int):Prop:=14≤op∧op≤17
instance (op:Int):Decidable (isCnt op):=inferInstanceAs (Decidable (14≤op∧op≤17))
def argsIn (vars args:List Int):Prop:=∀ a∈args,0≤a∧a < vars.length
def intoIn (vars:List Int) (op into:Int):Prop:=into=0∨(op=6∧1≤into∧into≤vars.length∧nth vars (into - 1)≠0)
def typs (vars args:List Int):List Int:=args.map (nth vars)
def cntOk (ds:List DeclD) (op num:Int) (T:List Int):Prop:=T.length=1∧nth T 0≠0∧num=0∧(op=16∨op=17→¬ isArr ds (nth T 0))
noncomputable def armF (ds:List DeclD) (t:Int):List (List Int):=(consL ds t).map (conF ds)
open Classical in
noncomputable def wantB (ds:List DeclD) (ss:List SigD) (op num t0:Int):Option (List Int×Int):=
  if op=0 then (if -999≤num∧num≤999 then some ([],0) else none)
  else if op=1∨op=2∨op=3∨op=4 then (if num=0 then some ([0,0],0) else none)
  else if op=5 then (if num=0 then some ([0],0) else none)
  else if op=6 then (if 0 < conTyV ds num then some (conF ds num,conTyV ds num) else none)
  else if op=9 then (if 0≤num∧num < ss.length then some ((nth ss num).params,(nth ss num).result) else none)
  else if op=10 then (if 0≤num∧num < ss.length∧1≤(nth ss num).params.length∧(nth ss num).lent.length=0∧0 < arrI ds (nth (nth ss num).params (((nth ss num).params.length:Int) - 1)) (nth ss num).result then
    some ((nth ss num).params.take ((nth ss num).params.length - 1),arrI ds (nth (nth ss num).params (((nth ss num).params.length:Int) - 1)) (nth ss num).result) else none)
  else if op=11 then (if num=0∧isArr ds t0 then some ([t0,(nth ds (t0 - 1)).frm],(nth ds (t0 - 1)).to_) else none)
  else none
noncomputable def simB (ds:List DeclD) (ss:List SigD) (op num:Int) (T:List Int):Option Int:=
  match wantB ds ss op num (nth T 0) with
  | some (W,n)=>if T=W then some n else none
  | none=>none
def same1:List (Option Int)→Option Int
  | some t ::r=>if ∀ q∈r,q=some t then some t else none
  | _=>none
section
open Classical
mutual
noncomputable def blkT (ds:List DeclD) (ss:List SigD) (vars:List Int):BlockD→Option Int
  | ⟨steps,result⟩=>match stpsT ds ss vars steps with
    | none=>none
    | some inner=>if 0≤result∧result < inner.length then some (nth inner result) else none
noncomputable def stpsT (ds:List DeclD) (ss:List SigD) (vars:List Int):List (StepP BlockD)→Option (List Int)
  | []=>some vars
  | s ::r=>match stpT ds ss vars s with
    | none=>none
    | some t=>stpsT ds ss (if isCnt s.op then vars else vars++[t]) r
noncomputable def stpT (ds:List DeclD) (ss:List SigD) (vars:List Int):StepP BlockD→Option Int
  | ⟨op,num,into,args,kids⟩=>
    if argsIn vars args∧intoIn vars op into then
      (if isCnt op then (if cntOk ds op num (typs vars args)∧kids.length=0 then some 0 else none)
       else if op=7 then (if typs vars args=[0]∧num=0∧kids.length=2 then same1 (kidsT ds ss vars [[],[]] kids) else none)
       else if op=8 then (if typs vars args=[num]∧0 < (armF ds num).length∧kids.length=(armF ds num).length then same1 (kidsT ds ss vars (armF ds num) kids) else none)
       else if kids.length=0 then simB ds ss op num (typs vars args) else none)
    else none
noncomputable def kidsT (ds:List DeclD) (ss:List SigD) (vars:List Int):List (List Int)→List BlockD→List (Option Int)
  | fs,b ::r=>blkT ds ss (vars++nth fs 0) b ::kidsT ds ss vars (fs.drop 1) r
  | _,[]=>[]
end
end
section
variable {ds:List DeclD} {ss:List SigD} {vars:List Int} {b:BlockD} {s:StepD} {r:List StepD} {l:List BlockD} {fs:List (List Int)} {t n num op:Int} {T:List Int}
theorem cntB_eq:cntB b=cntL b.steps:=by cases b;rw [cntB]
theorem cntL_cons:cntL (s ::r)=1+cntS s+cntL r:=by rw [cntL]
theorem cntS_eq:cntS s=cntK s.kids:=by cases s;rw [cntS]
theorem cntK_cons:cntK (b ::l)=cntB b+cntK l:=by rw [cntK]
theorem stpsT_cons:stpsT ds ss vars (s ::r)=match stpT ds ss vars s with
    | none=>none
    | some t=>stpsT ds ss (if isCnt s.op then vars else vars++[t]) r:=by rw [stpsT]
theorem stpsT_nil:stpsT ds ss vars []=some vars:=by rw [stpsT]
theorem blkT_eq:blkT ds ss vars b=match stpsT ds ss vars b.steps with
    | none=>none
    | some inner=>if 0≤b.result∧b.result < inner.length then some (nth inner b.result) else none:=by cases b;rw [blkT]
open Classical in
theorem stpT_eq:stpT ds ss vars s=
    if argsIn vars s.args∧intoIn vars s.op s.into then
      (if isCnt s.op then (if cntOk ds s.op s.num (typs vars s.args)∧s.kids.length=0 then some 0 else none)
       else if s.op=7 then (if typs vars s.args=[0]∧s.num=0∧s.kids.length=2 then same1 (kidsT ds ss vars [[],[]] s.kids) else none)
       else if s.op=8 then (if typs vars s.args=[s.num]∧0 < (armF ds s.num).length∧s.kids.length=(armF ds s.num).length then same1 (kidsT ds ss vars (armF ds s.num) s.kids) else none)
       else if s.kids.length=0 then simB ds ss s.op s.num (typs vars s.args) else none)
    else none:=by cases s;rw [stpT]
theorem kidsT_cons:kidsT ds ss vars fs (b ::l)=blkT ds ss (vars++nth fs 0) b ::kidsT ds ss vars (fs.drop 1) l:=by rw [kidsT]
theorem kidsT_nil:kidsT ds ss vars fs []=[]:=by rw [kidsT]
theorem kidsT_len:∀ (l:List BlockD) (fs:List (List Int)),(kidsT ds ss vars fs l).length=l.length
  | [],fs=>by rw [kidsT_nil];rfl
  | b ::l,fs=>by rw [kidsT_cons,List.length_cons,List.length_cons,kidsT_len l]
theorem kidsT_get:∀ (l:List BlockD) (fs:List (List Int)) (i:Nat),(kidsT ds ss vars fs l)[i]?=(l[i]?).map fun b=>blkT ds ss (vars++nth fs i) b
  | [],fs,i=>by rw [kidsT_nil];simp
  | b ::l,fs,0=>by rw [kidsT_cons];simp
  | b ::l,fs,i+1=>by
    rw [kidsT_cons,List.getElem?_cons_succ,kidsT_get l,List.getElem?_cons_succ]
    have e:nth (fs.drop 1) ((i:Nat):Int)=nth fs ((i+1:Nat):Int):=by unfold nth;simp only [List.getD,List.getElem?_drop,Int.toNat_natCast];rw [Nat.add_comm]
    rw [e]
def nonneg (l:List Int):Prop:=∀ t∈l,0≤t∧t≤4
theorem nonneg.app {a b:List Int} (h:nonneg a) (k:nonneg b):nonneg (a++b):=fun t ht=>(List.mem_append.1 ht).elim (h t) (k t)
theorem nonneg.nth {a:List Int} (h:nonneg a) {i:Int} (h0:0≤i) (h1:i < a.length):0≤nth a i∧nth a i≤4:=h _ (nth_mem h0 h1)
theorem conF_nn (h:typesOk ds) (n:Int):nonneg (conF ds n):=by
  intro t ht
  obtain ⟨i,hi,rfl⟩:=List.getElem_of_mem ht
  have:=conF_typ (n:=n) (i:=i) h (by omega) (by omega)
  rwa [nth_of (a:=(conF ds n)[i]) (by simp [hi])] at this
theorem conF_len3 (h:typesOk ds) (n:Int):(conF ds n).length≤3:=by
  unfold conF
  split
  · simp
  · rcases conI_cases ds n with ⟨g1,_⟩|⟨g1,g2,⟨q1,q2⟩,g4⟩
    · omega
    · exact ((declOk_easy (h.2 _ g1 g2)).2.2.2.2.1 _ (nth_mem (by omega) (by omega))).1
theorem conTyV_cases (ds:List DeclD) (n:Int):conTyV ds n=-1∨(1≤conTyV ds n∧conTyV ds n≤ds.length):=by
  unfold conTyV
  rcases conI_cases ds n with ⟨g1,_⟩|⟨g1,g2,_⟩
  · rw [if_pos (by omega)];exact .inl rfl
  · rw [if_neg (by omega)];exact .inr ⟨by omega,by omega⟩
theorem sig_nn (h:sigSigs ds ss) {i:Int} (h0:0≤i) (h1:i < ss.length):nonneg (nth ss i).params∧(0≤(nth ss i).result∧(nth ss i).result≤4)∧(nth ss i).params.length≤3:=by
  obtain ⟨⟨p1,p2,p3⟩,_⟩:=h.2.2.2.2.2 i h0 h1
  have hl:=h.1.1
  refine ⟨fun t ht=>?_,?_,p1⟩
  · have:=List.all_eq_true.1 p2 t ht
    unfold typeB at this;simp only [Bool.and_eq_true,decide_eq_true_eq] at this;omega
  · unfold typeB at p3;simp only [Bool.and_eq_true,decide_eq_true_eq] at p3;omega
theorem to_nn (h:typesOk ds) (ht:isArr ds t):(0≤(nth ds (t - 1)).to_∧(nth ds (t - 1)).to_≤4)∧(0≤(nth ds (t - 1)).frm∧(nth ds (t - 1)).frm≤4):=by
  have hl:=h.1
  have hd:=h.2 (t - 1) (by have:=ht.1;omega) (by have:=ht.2.1;omega)
  unfold declOk at hd
  rw [if_neg (by have:=ht.2.2;omega)] at hd
  obtain ⟨_,h2,h3⟩:=hd
  unfold typeB at h2 h3;simp only [Bool.and_eq_true,decide_eq_true_eq] at h2 h3
  omega
theorem arrI_cases (ds:List DeclD) (f t:Int):arrI ds f t=-1∨(1≤arrI ds f t∧arrI ds f t≤ds.length):=by
  unfold arrI
  split
  · rename_i hex
    have:=(leastM_spec hex).1
    exact .inr ⟨by omega,by omega⟩
  · exact .inl rfl
theorem simB_nn (h:sigSigs ds ss) (hs:simB ds ss op num T=some t):0≤t∧t≤4:=by
  have hl:=h.1.1
  have hct:=conTyV_cases ds num
  have har:=arrI_cases ds (nth (nth ss num).params (((nth ss num).params.length:Int) - 1)) (nth ss num).result
  unfold simB at hs
  split at hs
  · rename_i W n hw
    split at hs
    · cases hs
      unfold wantB at hw
      repeat' split at hw
      all_goals first|(cases hw;done)|skip
      all_goals first|(cases hw;omega)|skip
      all_goals
        rename_i hc
        simp only [Option.some.injEq,Prod.mk.injEq] at hw
        obtain ⟨_,rfl⟩:=hw
        first
          | omega
          | exact (sig_nn h hc.1 hc.2).2.1
          | exact (to_nn h.1 hc.2).1
    · cases hs
  · cases hs
theorem same1_some {l:List (Option Int)} (h:same1 l=some t):∀ q∈l,q=some t:=by
  unfold same1 at h
  split at h
  · rename_i t' r
    split at h
    · rename_i hr
      cases h
      intro q hq
      rcases List.mem_cons.1 hq with e|hq
      · exact e
      · exact hr q hq
    · cases h
  · cases h
theorem same1_ne {l:List (Option Int)} (h:same1 l=some t):l≠[]:=by
  rintro rfl;unfold same1 at h;cases h
theorem same1_of {l:List (Option Int)} (h:∀ q∈l,q=some t) (hl:l≠[]):same1 l=some t:=by
  match l,hl,h with
  | q ::r,_,h=>
    have e:=h q (by simp)
    subst e
    exact if_pos fun q hq=>h q (List.mem_cons_of_mem _ hq)
theorem armF_nn (h:typesOk ds) (n:Int) (i:Nat):nonneg (nth (armF ds n) i):=by
  unfold armF nth
  simp only [List.getD,List.getElem?_map]
  cases (consL ds n)[((i:Int)).toNat]? with
  | none=>exact fun t ht=>by simp at ht;cases ht
  | some c=>exact conF_nn h c
theorem stpT_nn0 (h:sigSigs ds ss) (hv:nonneg vars) (hks:∀ k∈s.kids,∀ vars t,nonneg vars→blkT ds ss vars k=some t→0≤t∧t≤4) (ht:stpT ds ss vars s=some t):0≤t∧t≤4:=by
  rw [stpT_eq] at ht
  have kid:∀ fs:List (List Int),(∀ i:Nat,nonneg (nth fs i))→same1 (kidsT ds ss vars fs s.kids)=some t→0≤t∧t≤4:=by
    intro fs hf he
    have hne:=same1_ne he
    have hall:=same1_some he
    match hkk:s.kids with
    | []=>rw [hkk,kidsT_nil] at hne;exact absurd rfl hne
    | k ::rest=>
      rw [hkk,kidsT_cons] at hall
      exact hks k (by rw [hkk];simp) _ _ (hv.app (hf 0)) (hall _ (by simp))
  split at ht<;>first|(cases ht;done)|skip
  split at ht
  · split at ht
    · cases ht;omega
    · cases ht
  split at ht
  · split at ht<;>first|(cases ht;done)|skip
    exact kid _ (fun i=>by
      match i with
      | 0=>exact fun t ht=>by cases ht
      | 1=>exact fun t ht=>by cases ht
      | i+2=>exact fun t ht=>by cases ht) ht
  split at ht
  · split at ht<;>first|(cases ht;done)|skip
    exact kid _ (fun i=>armF_nn h.1 _ i) ht
  · split at ht<;>first|(cases ht;done)|skip
    exact simB_nn h ht
theorem stpsT_nn0 (h:sigSigs ds ss):∀ (l:List StepD),(∀ s∈l,∀ k∈s.kids,∀ vars t,nonneg vars→blkT ds ss vars k=some t→0≤t∧t≤4)→∀ vars inner,nonneg vars→stpsT ds ss vars l=some inner→nonneg inner
  | []=>fun _ vars inner hv he=>by rw [stpsT_nil] at he;cases he;exact hv
  | s ::r=>fun hk vars inner hv he=>by
    rw [stpsT_cons] at he
    split at he
    · cases he
    · rename_i t' ht'
      refine stpsT_nn0 h r (fun s' hs'=>hk s' (by simp [hs'])) _ _ ?_ he
      split
      · exact hv
      · refine hv.app fun q hq=>?_
        rw [List.mem_singleton.1 hq]
        exact stpT_nn0 h hv (hk s (by simp)) ht'
theorem blkT_nn (h:sigSigs ds ss) (b:BlockD):∀ vars t,nonneg vars→blkT ds ss vars b=some t→0≤t∧t≤4:=by
  refine blk_ind (P:=fun b=>∀ vars t,nonneg vars→blkT ds ss vars b=some t→0≤t∧t≤4) (fun b ih vars t hv hb=>?_) b
  rw [blkT_eq] at hb
  split at hb
  · cases hb
  · rename_i inner hin
    split at hb
    · rename_i hr
      cases hb
      exact (stpsT_nn0 h b.steps ih vars inner hv hin).nth hr.1 hr.2
    · cases hb
theorem stpT_nn (h:sigSigs ds ss) (hv:nonneg vars) (ht:stpT ds ss vars s=some t):0≤t∧t≤4:=stpT_nn0 h hv (fun k _=>blkT_nn h k) ht
end
structure Nrm (v:World) (x y:Sl) (ds:List DeclD) (rs:List RoutD):Prop where
  hx:Read v x ds
  hy:Read v y rs
  sg:sigSigs ds (rs.map sgOf)
theorem Nrm.mono {v w:World} {x y:Sl} {ds:List DeclD} {rs:List RoutD} (h:Nrm v x y ds rs) (hs:Sub v w):Nrm w x y ds rs:=⟨h.hx.mono hs,h.hy.mono hs,h.sg⟩
theorem Nrm.sm {v:World} {x y:Sl} {ds:List DeclD} {rs:List RoutD} (h:Nrm v x y ds rs):SmDs ds:=h.sg.1.sm
theorem nth_sg (rs:List RoutD) (i:Int):nth (rs.map sgOf) i=sgOf (nth rs i):=by
  unfold nth List.getD
  rw [List.getElem?_map]
  cases rs[i.toNat]?<;>rfl
section
variable {v w:World} {x y z ax kx tx:Sl} {vars args T:List Int} {ds:List DeclD} {rs:List RoutD} {n i op num into:Int}
theorem nth_typs (h0:0≤i) (h1:i < args.length):nth (typs vars args) i=nth vars (nth args i):=by
  refine nth_of ?_
  unfold typs
  rw [List.getElem?_map,nth_get h0 h1]
  rfl
theorem typs_len:(typs vars args).length=args.length:=by unfold typs;simp
theorem eq_nth {l m:List Int} (hl:l.length=m.length) (h:∀ j:Int,0≤j→j < l.length→nth l j=nth m j):l=m:=by
  refine List.ext_getElem hl fun j h1 h2=>?_
  have:=h j (by omega) (by omega)
  rwa [nth_of (a:=l[j]) (by simp [h1]),nth_of (a:=m[j]) (by simp [h2])] at this
theorem argsIn_nth (h:argsIn vars args) (h0:0≤i) (h1:i < args.length):0≤nth args i∧nth args i < vars.length:=h _ (nth_mem h0 h1)
theorem argsIn_of (h:∀ j:Int,0≤j→j < args.length→0≤nth args j∧nth args j < vars.length):argsIn vars args:=by
  intro a ha
  obtain ⟨j,hj,rfl⟩:=List.getElem_of_mem ha
  have:=h j (by omega) (by omega)
  rwa [nth_of (a:=args[j]) (by simp [hj])] at this
theorem c_hasNum:Fn Tryz.prog 150 #[iV n] v (.bool (((((decide (n=0)) || (decide (n=6))) || (decide (n=8))) || (decide (n=9))) || (decide (n=10)))):=by
  refine of150 _ _ _ ?_
  unfold vc150
  exact ⟨rfl,.refl v⟩
theorem c_typed (hz:Read v z vars) (ha:Read v ax args) (ht:Read v tx T):Fn Tryz.prog 152 #[z.val,ax.val,tx.val] v (.bool (pB (argsIn vars args∧typs vars args=T))):=by
  refine of152 _ _ _ _ _ ?_
  unfold vc152
  have hzn:=hz.n
  have han:=ha.n
  have htn:=ht.n
  have hzl:=hz.le
  have hal:=ha.le
  refine ⟨fun hc=>⟨?_,.refl v⟩,fun hc=>?_⟩
  · rw [pB_f]
    rintro ⟨_,h⟩
    have:=congrArg List.length h
    rw [typs_len] at this
    simp only [bls] at hc
    omega
  simp only [bls] at hc
  refine ⟨fun i w=>w=v∧0≤i∧i≤args.length∧∀ j:Int,0≤j→j < i→(0≤nth args j∧nth args j < vars.length)∧nth vars (nth args j)=nth T j,fun i _=>(args.length - i).toNat,⟨rfl,by omega,by omega,fun j j0 j1=>by omega⟩,?_⟩
  rintro i _ ⟨rfl,i0,i1,h⟩
  dsimp only
  refine ⟨fun hi=>?_,fun hi=>?_⟩
  · simp only [bls] at hi
    refine go_ix ha i0 (by omega) ?_
    refine ld_int ha i0 (by omega) ?_
    intro c0 c1
    refine go_wr (by omega) (by omega) ?_
    refine ⟨_,c_inRange,?_⟩
    have hg:(!(decide (0≤nth args i) && decide (nth args i≤(z.n:Int) - 1)))=false→0≤nth args i∧nth args i < vars.length:=fun h=>by simp only [bls] at h;omega
    refine go_ixg ha (fun _=>⟨i0,by omega⟩) ?_
    refine ld_intg ha (fun _=>⟨i0,by omega⟩) ?_
    refine go_ixg hz hg ?_
    refine ld_intg hz hg ?_
    refine go_ixg ht (fun _=>⟨i0,by omega⟩) ?_
    refine ld_intg ht (fun _=>⟨i0,by omega⟩) ?_
    refine ⟨fun hq=>⟨?_,.refl _⟩,fun hq=>?_⟩
    · rw [pB_f]
      rintro ⟨q1,q2⟩
      have q3:=argsIn_nth q1 i0 (by omega)
      have q4:nth T i=nth vars (nth args i):=by rw [←q2];exact nth_typs i0 (by omega)
      simp only [bls] at hq
      omega
    · simp only [bls] at hq
      refine go_wr (by omega) (by omega) ?_
      refine ⟨⟨rfl,by omega,by omega,fun j j0 j1=>?_⟩,by omega⟩
      by_cases e:j=i
      · subst e;exact ⟨⟨by omega,by omega⟩,by omega⟩
      · exact h j j0 (by omega)
  · simp only [bls] at hi
    refine ⟨?_,.refl _⟩
    rw [pB_t]
    refine ⟨argsIn_of fun j j0 j1=>(h j j0 (by omega)).1,eq_nth (by rw [typs_len];omega) fun j j0 j1=>?_⟩
    rw [typs_len] at j1
    rw [nth_typs j0 j1]
    exact (h j j0 (by omega)).2
theorem c_validInto (hz:Read v z vars) (hv:nonneg vars) (hi:InI into):Fn Tryz.prog 151 #[z.val,.agg #[iV op,iV num,iV into,ax.val,kx.val]] v (.bool (pB (intoIn vars op into))):=by
  refine of151 _ _ _ _ _ _ _ _ ?_
  unfold vc151
  have hzn:=hz.n
  have hzl:=hz.le
  obtain ⟨hi1,hi2⟩:=hi
  refine ⟨fun hc=>⟨?_,.refl v⟩,fun hc=>?_⟩
  · simp only [bls] at hc
    rw [pB_t (.inl hc)]
  simp only [bls] at hc
  refine ⟨_,fun _=>c_inRange,?_⟩
  have hg:(decide (op=6) && (decide (1≤into) && decide (into≤(z.n:Int))))=true→0≤into - 1∧into - 1 < vars.length:=fun h=>by simp only [bls] at h;omega
  refine go_wrg (fun h=>by have:=hg h;omega) ?_
  refine go_ixg hz hg ?_
  refine ld_intg hz hg ?_
  refine ⟨?_,.refl v⟩
  congr 1
  refine (pB_eq ⟨fun h=>?_,fun h=>?_⟩)
  · simp only [bls] at h
    exact .inr ⟨by omega,by omega,by omega,by omega⟩
  · rcases h with h|⟨h1,h2,h3,h4⟩
    · omega
    · have:=hv.nth (i:=into - 1) (by omega) (by omega)
      simp only [bls]
      omega
theorem c_countingType (h:Nrm v x y ds rs) (hz:Read v z vars) (hv:nonneg vars) (ha:Read v ax args) (hop:isCnt op) (hn:num=0):
    Fn Tryz.prog 156 #[.agg #[x.val,y.val],z.val,.agg #[iV op,iV num,iV into,ax.val,kx.val]] v (iV (bif pB (argsIn vars args∧cntOk ds op num (typs vars args)) then 0 else -1)):=by
  refine of156 _ _ _ _ _ _ _ _ _ _ ?_
  unfold vc156
  have hzn:=hz.n
  have hzl:=hz.le
  have han:=ha.n
  have hal:=ha.le
  unfold isCnt at hop
  have h1l:(!decide ((ax.n:Int)=1))=false→args.length=1:=fun h=>by simp only [bls] at h;omega
  refine go_ixg ha (fun h=>by have:=h1l h;omega) ?_
  refine ld_intg ha (fun h=>by have:=h1l h;omega) ?_
  refine go_wrg (fun h=>by omega) ?_
  refine ⟨_,fun _=>c_inRange,?_⟩
  have hg:(!decide ((ax.n:Int)=1) || !(decide (0≤nth args 0) && decide (nth args 0≤(z.n:Int) - 1)))=false→args.length=1∧0≤nth args 0∧nth args 0 < vars.length:=fun h=>by simp only [bls] at h;omega
  refine go_ixg ha (fun h=>by have:=hg h;omega) ?_
  refine ld_intg ha (fun h=>by have:=hg h;omega) ?_
  refine go_ixg hz (fun h=>by have:=hg h;omega) ?_
  refine ld_intg hz (fun h=>by have:=hg h;omega) ?_
  have hnt:args.length=1→nth (typs vars args) 0=nth vars (nth args 0):=fun h=>nth_typs (by omega) (by omega)
  refine ⟨fun hc=>⟨?_,.refl v⟩,fun hc=>?_⟩
  · rw [pB_f]
    · rfl
    rintro ⟨q1,q2,q3,_⟩
    rw [typs_len] at q2
    rw [hnt q2] at q3
    have:=argsIn_nth q1 (i:=0) (by omega) (by omega)
    simp only [bls] at hc
    omega
  · have hc2:=hc
    simp only [bls] at hc2
    have hl:args.length=1:=by omega
    have hb:0≤nth args 0∧nth args 0 < vars.length:=by omega
    refine go_ixg ha (fun _=>⟨by omega,by omega⟩) ?_
    refine ld_intg ha (fun _=>⟨by omega,by omega⟩) ?_
    refine go_ixg hz (fun _=>hb) ?_
    refine ld_intg hz (fun _=>hb) ?_
    obtain ⟨q,hq,hT⟩:=c_isArrow (n:=nth vars (nth args 0)) h.hx h.sm.len
    have hin:argsIn vars args:=argsIn_of fun j j0 j1=>by rw [show j=0 from by omega];exact hb
    refine ⟨q,fun _=>hT,fun hh=>⟨?_,.refl v⟩,fun hh=>⟨?_,.refl v⟩⟩
    · simp only [bls] at hh
      rw [pB_f]
      · rfl
      rintro ⟨_,_,_,_,q4⟩
      rw [hnt hl] at q4
      exact q4 (by omega) (hq.1 hh.2)
    · rw [pB_t]
      · rfl
      refine ⟨hin,by rw [typs_len];exact hl,by rw [hnt hl];omega,hn,fun ho ha=>?_⟩
      rw [hnt hl] at ha
      have:=hq.2 ha
      rw [this] at hh
      simp only [bls] at hh
      omega
end
section
variable {v:World} {x y z ax kx:Sl} {vars args T:List Int} {ds:List DeclD} {rs:List RoutD} {n t op num into:Int}
noncomputable def gD (o:Option Int):Int:=o.getD (-1)
theorem gD_some:gD (some t)=t:=rfl
theorem simB_9 (hop:op=9) (h0:0≤num) (h1:num < (rs.map sgOf).length):simB ds (rs.map sgOf) op num T=if T=(nth rs num).params then some (nth rs num).result else none:=by
  unfold simB wantB
  rw [if_neg (by omega),if_neg (by omega),if_neg (by omega),if_neg (by omega),if_pos hop,if_pos ⟨h0,h1⟩,nth_sg]
  rfl
theorem simB_9n (hop:op=9∨op=10) (h1:¬ (0≤num∧num < (rs.map sgOf).length)):simB ds (rs.map sgOf) op num T=none:=by
  unfold simB wantB
  rw [if_neg (by omega),if_neg (by omega),if_neg (by omega),if_neg (by omega)]
  rcases hop with hop|hop
  · rw [if_pos hop,if_neg h1]
  · rw [if_neg (by omega),if_pos hop,if_neg fun h=>h1 ⟨h.1,h.2.1⟩]
theorem simB_10 (hop:op=10) (h0:0≤num) (h1:num < (rs.map sgOf).length) (h2:1≤(nth rs num).params.length) (h3:(nth rs num).lent.length=0):
    gD (simB ds (rs.map sgOf) op num T)=if T=(nth rs num).params.take ((nth rs num).params.length - 1) then arrI ds (nth (nth rs num).params (((nth rs num).params.length:Int) - 1)) (nth rs num).result else -1:=by
  have ha:=arrI_cases ds (nth (nth rs num).params (((nth rs num).params.length:Int) - 1)) (nth rs num).result
  unfold simB wantB
  rw [if_neg (by omega),if_neg (by omega),if_neg (by omega),if_neg (by omega),if_neg (by omega),if_pos hop,nth_sg]
  by_cases hp:0 < arrI ds (nth (nth rs num).params (((nth rs num).params.length:Int) - 1)) (nth rs num).result
  · rw [if_pos ⟨h0,h1,h2,h3,hp⟩]
    dsimp only [sgOf]
    split<;>rfl
  · rw [if_neg fun h=>hp h.2.2.2.2]
    have:arrI ds (nth (nth rs num).params (((nth rs num).params.length:Int) - 1)) (nth rs num).result=-1:=by omega
    rw [this,ite_self]
    rfl
theorem simB_10n (hop:op=10) (h:¬ (1≤(nth rs num).params.length∧(nth rs num).lent.length=0)):simB ds (rs.map sgOf) op num T=none:=by
  unfold simB wantB
  rw [if_neg (by omega),if_neg (by omega),if_neg (by omega),if_neg (by omega),if_neg (by omega),if_pos hop,nth_sg,if_neg fun hh=>h ⟨hh.2.2.1,hh.2.2.2.1⟩]
open Classical in
theorem c_routineType (h:Nrm v x y ds rs) (hz:Read v z vars) (ha:Read v ax args) (hop:op=9∨op=10):
    Fn Tryz.prog 154 #[.agg #[x.val,y.val],z.val,.agg #[iV op,iV num,iV into,ax.val,kx.val]] v (iV (if argsIn vars args then gD (simB ds (rs.map sgOf) op num (typs vars args)) else -1)):=by
  refine of154 _ _ _ _ _ _ _ _ _ _ ?_
  unfold vc154
  have hyn:=h.hy.n
  have hyl:=h.hy.le
  have hlen:(rs.map sgOf).length=rs.length:=by simp
  refine go_wr (by omega) (by omega) ?_
  refine ⟨_,c_inRange,fun hc=>⟨?_,.refl v⟩,fun hc=>?_⟩
  · simp only [bls] at hc
    rw [simB_9n hop (by omega)]
    split<;>rfl
  simp only [bls] at hc
  have h0:0≤num:=by omega
  have h1:num < rs.length:=by omega
  obtain ⟨f1,f2,f3,e1,e2,e3,e4,e5,i1,i2,r1,r2,r3⟩:=(h.hy.src (.refl v)).ofRoutD h0 h1
  have r1n:=r1.n
  have r2n:=r2.n
  have r1l:=r1.le
  refine go_ix h.hy h0 h1 ?_
  refine ⟨f1,f2,_,f3,_,⟨e1,e2,e3,e4,e5⟩,fun ho=>?_,fun ho=>?_⟩
  · simp only [bls] at ho
    rw [simB_9 ho h0 (by omega)]
    refine ⟨_,c_typed hz ha r1,fun hq=>⟨?_,.refl v⟩,fun hq=>⟨?_,.refl v⟩⟩
    · simp only [bls] at hq
      have hn:¬ _:=fun hh=>by rw [pB_t hh] at hq;cases hq
      split
      · rename_i hin
        rw [if_neg fun he=>hn ⟨hin,he⟩];rfl
      · rfl
    · simp only [bls] at hq
      obtain ⟨q1,q2⟩:=pB_iff.1 hq
      rw [if_pos q1,if_pos q2];rfl
  · simp only [bls] at ho
    have ho:op=10:=by omega
    have hg:(decide ((f1.n:Int)=0) || decide ((f2.n:Int) > 0))=false→1≤(nth rs num).params.length∧(nth rs num).lent.length=0:=fun h=>by simp only [bls] at h;omega
    refine go_wrg (fun h=>by have:=hg h;omega) ?_
    refine ⟨fun hh=>⟨by omega,by have:=hg hh;omega,by have:=hg hh;obtain ⟨_,hr,_⟩:=r1;have:=hr.2.1;omega⟩,?_⟩
    by_cases hp:1≤(nth rs num).params.length∧(nth rs num).lent.length=0
    · have hcut:=r1.cut (lo:=0) (hi:=(f1.n:Int) - 1) (by omega) (by omega) (by omega)
      simp only [show ((0:Int)).toNat=0 from rfl,List.drop_zero] at hcut
      rw [show ((f1.n:Int) - 1).toNat=(nth rs num).params.length - 1 from by omega] at hcut
      refine ⟨_,fun _=>c_typed hz ha hcut,fun hq=>⟨?_,.refl v⟩,fun hq=>?_⟩
      · simp only [bls] at hq
        have hq:¬ (argsIn vars args∧typs vars args=(nth rs num).params.take ((nth rs num).params.length - 1)):=fun hh=>by rw [pB_t hh] at hq;simp only [bls] at hq;omega
        split
        · rename_i hin
          rw [simB_10 ho h0 (by omega) hp.1 hp.2,if_neg fun he=>hq ⟨hin,he⟩]
        · rfl
      · simp only [bls] at hq
        obtain ⟨q1,q2⟩:=pB_iff.1 hq.2
        refine go_wr (by omega) (by omega) ?_
        refine go_ix r1 (by omega) (by omega) ?_
        refine ld_int r1 (by omega) (by omega) ?_
        intro _ _
        refine ⟨_,c_arrowOf h.hx h.sm.len,?_,.refl v⟩
        rw [if_pos q1,simB_10 ho h0 (by omega) hp.1 hp.2,if_pos q2,r1n]
    · have hb:(decide ((f1.n:Int)=0) || decide ((f2.n:Int) > 0))=true:=by simp only [bls];omega
      refine ⟨false,fun hh=>(by rw [hb] at hh;cases hh),fun hq=>⟨?_,.refl v⟩,fun hq=>?_⟩
      · rw [simB_10n ho hp]
        split<;>rfl
      · rw [hb] at hq;simp at hq
end
def BtP (ds:List DeclD) (rs:List RoutD) (b:BlockD):Prop:=∀ (v:World) (x y z xs:Sl) (vars:List Int),Nrm v x y ds rs→Read v z vars→nonneg vars→Read v xs b.steps→InI b.result→vars.length+4 * cntB b≤10000→
  Fn Tryz.prog 117 #[.agg #[x.val,y.val],z.val,.agg #[xs.val,iV b.result]] v (iV (gD (blkT ds (rs.map sgOf) vars b)))
section
variable {v w:World} {x y z ax kx:Sl} {vars args W:List Int} {ds:List DeclD} {rs:List RoutD} {ss:List SigD} {n i t op num into:Int} {c:StepD} {b:BlockD} {kids:List BlockD} {fs:List (List Int)}
theorem cntK_mem:∀ (l:List BlockD),b∈l→cntB b≤cntK l
  | [],h=>by cases h
  | a ::r,h=>by
    rw [cntK_cons]
    rcases List.mem_cons.1 h with e|h
    · rw [e];omega
    · have:=cntK_mem r h;omega
theorem stp_simple (hinto:intoIn vars c.op c.into) (h7:c.op≠7) (h8:c.op≠8) (hc:¬ isCnt c.op) (hk:c.kids.length=0):(argsIn vars c.args→stpT ds ss vars c=simB ds ss c.op c.num (typs vars c.args))∧(¬ argsIn vars c.args→stpT ds ss vars c=none):=by
  classical
  refine ⟨fun h=>?_,fun h=>?_⟩
  · rw [stpT_eq,if_pos ⟨h,hinto⟩,if_neg hc,if_neg h7,if_neg h8,if_pos hk]
  · rw [stpT_eq,if_neg fun hh=>h hh.1]
theorem stp_w (hinto:intoIn vars c.op c.into) (h7:c.op≠7) (h8:c.op≠8) (hc:¬ isCnt c.op) (hk:c.kids.length=0) (hw:wantB ds ss c.op c.num (nth (typs vars c.args) 0)=some (W,n)):
    gD (stpT ds ss vars c)=bif pB (argsIn vars c.args∧typs vars c.args=W) then n else -1:=by
  obtain ⟨h1,h2⟩:=stp_simple (ds:=ds) (ss:=ss) hinto h7 h8 hc hk
  have hs:simB ds ss c.op c.num (typs vars c.args)=if typs vars c.args=W then some n else none:=by unfold simB;rw [hw]
  rcases Classical.em (argsIn vars c.args) with hin|hin
  · rw [h1 hin,hs]
    split
    · rename_i e;rw [pB_t ⟨hin,e⟩];rfl
    · rename_i e;rw [pB_f fun hh=>e hh.2];rfl
  · rw [h2 hin,pB_f fun hh=>hin hh.1];rfl
theorem stp_n (hinto:intoIn vars c.op c.into) (h7:c.op≠7) (h8:c.op≠8) (hc:¬ isCnt c.op) (hk:c.kids.length=0) (hw:wantB ds ss c.op c.num (nth (typs vars c.args) 0)=none):
    gD (stpT ds ss vars c)=-1:=by
  obtain ⟨h1,h2⟩:=stp_simple (ds:=ds) (ss:=ss) hinto h7 h8 hc hk
  rcases Classical.em (argsIn vars c.args) with hin|hin
  · rw [h1 hin];unfold simB;rw [hw];rfl
  · rw [h2 hin];rfl
theorem wantB_num (hn:num≠0) (ho:op≠0∧op≠6∧op≠8∧op≠9∧op≠10):wantB ds ss op num t=none:=by
  unfold wantB
  rw [if_neg ho.1]
  split
  · first|rfl|rw [if_neg hn]
  split
  · first|rfl|rw [if_neg hn]
  rw [if_neg ho.2.1,if_neg ho.2.2.2.1,if_neg ho.2.2.2.2]
  split
  · rw [if_neg fun hh=>hn hh.1]
  · rfl
theorem wantB_other (ho:¬ (0≤op∧op≤6)∧¬ (9≤op∧op≤11)):wantB ds ss op num t=none:=by
  (unfold wantB;repeat (first|rw [if_neg (by omega)]|rw [if_pos (by omega)]))
theorem stp_out (h:¬ argsIn vars c.args):stpT ds ss vars c=none:=by
  classical
  rw [stpT_eq,if_neg fun hh=>h hh.1]
theorem stp_7 (h:argsIn vars c.args) (hi:intoIn vars c.op c.into) (o7:c.op=7):stpT ds ss vars c=if typs vars c.args=[0]∧c.num=0∧c.kids.length=2 then same1 (kidsT ds ss vars [[],[]] c.kids) else none:=by
  classical
  rw [stpT_eq,if_pos ⟨h,hi⟩,if_neg (by unfold isCnt;omega),if_pos o7]
open Classical in
theorem stp_8 (h:argsIn vars c.args) (hi:intoIn vars c.op c.into) (o8:c.op=8):stpT ds ss vars c=if typs vars c.args=[c.num]∧0 < (armF ds c.num).length∧c.kids.length=(armF ds c.num).length then same1 (kidsT ds ss vars (armF ds c.num) c.kids) else none:=by
  rw [stpT_eq,if_pos ⟨h,hi⟩,if_neg (by unfold isCnt;omega),if_neg (by omega),if_pos o8]
theorem stp_into (h:¬ intoIn vars c.op c.into):stpT ds ss vars c=none:=by
  classical
  rw [stpT_eq,if_neg fun hh=>h hh.2]
theorem stp_kids (hk:c.kids.length≠0) (h7:c.op≠7) (h8:c.op≠8):stpT ds ss vars c=none:=by
  classical
  rw [stpT_eq]
  split
  · split
    · rw [if_neg fun hh=>hk hh.2]
    · first|rfl|rw [if_neg h7,if_neg h8,if_neg hk]
  · rfl
theorem stp_num (hn:c.num≠0) (ho:c.op≠0∧c.op≠6∧c.op≠8∧c.op≠9∧c.op≠10):stpT ds ss vars c=none:=by
  classical
  rw [stpT_eq]
  split
  · split
    · rw [if_neg fun hh=>hn hh.1.2.2.1]
    split
    · rw [if_neg fun hh=>hn hh.2.1]
    rw [if_neg ho.2.2.1]
    split
    · unfold simB;rw [wantB_num hn ho]
    · rfl
  · rfl
theorem stp_op (h:stpT ds ss vars c=some t):(0≤c.op∧c.op≤11)∨isCnt c.op:=by
  classical
  rcases Classical.em (isCnt c.op) with hc|hc
  · exact .inr hc
  refine .inl (Classical.byContradiction fun hn=>?_)
  rw [stpT_eq] at h
  split at h
  · rw [if_neg (by omega),if_neg (by omega)] at h
    split at h
    · unfold simB at h
      rw [wantB_other (by omega)] at h
      cases h
    · cases h
  · cases h
theorem stp_cnt (hinto:intoIn vars c.op c.into) (hc:isCnt c.op) (hk:c.kids.length=0):gD (stpT ds ss vars c)=bif pB (argsIn vars c.args∧cntOk ds c.op c.num (typs vars c.args)) then 0 else -1:=by
  classical
  rw [stpT_eq]
  rcases Classical.em (argsIn vars c.args∧cntOk ds c.op c.num (typs vars c.args)) with h|h
  · rw [if_pos ⟨h.1,hinto⟩,if_pos hc,if_pos ⟨h.2,hk⟩,pB_t h];rfl
  · rw [pB_f h]
    split
    · rename_i hh
      rw [if_neg fun h2=>h ⟨hh.1,h2.1⟩];rfl
    · rfl
theorem kids_all (hl:kids≠[]) (h:∀ j:Int,0≤j→j < kids.length→blkT ds ss (vars++nth fs j) (nth kids j)=some t):same1 (kidsT ds ss vars fs kids)=some t:=by
  refine same1_of (fun q hq=>?_) fun hn=>hl (List.eq_nil_of_length_eq_zero (by rw [←kidsT_len (ds:=ds) (ss:=ss) (vars:=vars) kids fs,hn];rfl))
  obtain ⟨j,hj,rfl⟩:=List.getElem_of_mem hq
  rw [kidsT_len] at hj
  have e:=kidsT_get (ds:=ds) (ss:=ss) (vars:=vars) kids fs j
  rw [List.getElem?_eq_getElem (by rw [kidsT_len];exact hj),List.getElem?_eq_getElem hj] at e
  simp only [Option.map_some,Option.some.injEq] at e
  rw [e]
  have:=h j (by omega) (by omega)
  rwa [nth_of (l:=kids) (i:=(j:Int)) (a:=kids[j]) (by simp [hj])] at this
theorem kids_some (h:same1 (kidsT ds ss vars fs kids)=some t) {j:Int} (h0:0≤j) (h1:j < kids.length):blkT ds ss (vars++nth fs j) (nth kids j)=some t:=by
  refine same1_some h _ ?_
  have e:=kidsT_get (ds:=ds) (ss:=ss) (vars:=vars) kids fs j.toNat
  rw [nth_get h0 h1,Option.map_some,show ((j.toNat:Nat):Int)=j from by omega] at e
  exact List.mem_of_getElem? e
theorem gD_same (h:∀ t,same1 (kidsT ds ss vars fs kids)≠some t):gD (same1 (kidsT ds ss vars fs kids))=-1:=by
  cases hs:same1 (kidsT ds ss vars fs kids) with
  | none=>rfl
  | some t=>exact absurd hs (h t)
theorem gD_eq {o:Option Int} (h:0≤gD o):o=some (gD o):=by
  cases o with
  | none=>unfold gD at h;simp at h
  | some t=>rfl
theorem c_extend (hx:Read v z vars) (hy:Read v ax args) (hb:vars.length+args.length≤1099511627776):Mk Tryz.prog 99 #[z.val,ax.val] v fun r J=>∃ y,r=y.val∧Own v y (vars++args) J:=by
  refine of99 _ _ _ _ ?_
  unfold vc99
  refine Mk.use (c_copyInts hx) (.refl v) ?_
  rintro _ w1 J ⟨y,rfl,hO⟩ hS hs
  refine ⟨_,rfl,?_⟩
  refine hO.append hS (.ofInts (hy.mono hs)) hb (by decide) ?_
  intro y2 w2 I2 hO2 hS2
  exact ⟨_,rfl,I2,by simpa using hS2,y2,rfl,hO2⟩
theorem c_consOfB (hx:Read v x ds) (hd:SmDs ds) (hn:InI n):Mk Tryz.prog 94 #[x.val,iV n] v fun r J=>∃ z,r=z.val∧Own v z (consL ds n) J:=
  c_consOf hx hn (by have:=hd.len;omega) (fun d h=>by have:=hd.cons d h;omega) fun i i0 i1=>by have:=hd.fc i.toNat (by omega);omega
theorem armF_nth (h0:0≤i) (h1:i < (consL ds num).length):nth (armF ds num) i=conF ds (nth (consL ds num) i):=by
  unfold armF
  refine nth_of ?_
  rw [List.getElem?_map,nth_get h0 h1]
  rfl
theorem c_kidsType7 (h:Nrm v x y ds rs) (hz:Read v z vars) (hv:nonneg vars) (hk:Read v kx kids) (hop:op=7) (hn:InI num) (H:∀ k∈kids,BtP ds rs k) (hb:vars.length+3+4 * cntK kids≤10000):
    Fn Tryz.prog 153 #[.agg #[x.val,y.val],z.val,.agg #[iV op,iV num,iV into,ax.val,kx.val]] v (iV (if kids.length=2 then gD (same1 (kidsT ds (rs.map sgOf) vars [[],[]] kids)) else -1)):=by
  refine of153 _ _ _ _ _ _ _ _ _ _ ?_
  unfold vc153
  have hkn:=hk.n
  have hkl:=hk.le
  refine Mk.use (c_consOfB h.hx h.sm hn) (.refl v) ?_
  rintro _ w1 J ⟨z3,rfl,hO⟩ hS hs
  refine ⟨_,rfl,?_⟩
  repeat (first|refine ⟨fun h=>absurd (of_decide_eq_true h) (by omega),fun _=>?_⟩|refine ⟨fun _=>?_,fun h=>absurd (of_decide_eq_false h) (by omega)⟩)
  have hs1:=hS.sub
  clear hO hS
  refine ⟨fun hc=>⟨?_,hs1⟩,fun hc=>?_⟩
  · simp only [bls] at hc
    rw [if_neg (by rcases hc with hc|hc<;>omega)]
  simp only [bls] at hc
  have hl2:kids.length=2:=by omega
  rw [if_pos hl2]
  refine ⟨fun t i w=>Sub v w∧0≤i∧i≤2∧∀ j:Int,0≤j→j < i→blkT ds (rs.map sgOf) (vars++nth [[],[]] j) (nth kids j)=some t,fun _ i _=>(2 - i).toNat,⟨hs1,by omega,by omega,fun j j0 j1=>by omega⟩,?_⟩
  rintro t i w ⟨hw,i0,i1,hj⟩
  dsimp only
  refine ⟨fun hi=>?_,fun hi=>?_⟩
  · simp only [bls] at hi
    repeat (first|refine ⟨fun h=>absurd (of_decide_eq_true h) (by omega),fun _=>?_⟩|refine ⟨fun _=>?_,fun h=>absurd (of_decide_eq_false h) (by omega)⟩)
    have hil:i < kids.length:=by omega
    have hmem:=nth_mem (l:=kids) i0 hil
    have hcm:=cntK_mem kids hmem
    obtain ⟨f1,e1,e2,j1,r1⟩:=(hk.src hw).ofBlockD i0 hil
    have hni:nth ([[],[]]:List (List Int)) i=[]:=by
      rcases (show i=0∨i=1 from by omega) with rfl|rfl<;>rfl
    have hT:=H _ hmem w x y z f1 (vars++nth [[],[]] i) (h.mono hw) (by rw [hni,List.append_nil];exact hz.mono hw) (by rw [hni,List.append_nil];exact hv) (r1.mono hw) j1 (by rw [hni,List.append_nil];omega)
    refine go_ix hk i0 hil ?_
    refine ⟨f1,_,⟨e1,e2⟩,_,hT,fun hq=>⟨?_,hw⟩,fun hq=>?_⟩
    · simp only [bls] at hq
      rw [gD_same]
      intro t' ht'
      have h1:=kids_some ht' i0 hil
      rw [h1,gD_some] at hq
      have hnn:=blkT_nn h.sg _ _ _ (by rw [hni,List.append_nil];exact hv) h1
      rcases hq with hq|⟨hq,hq2⟩
      · omega
      · have h2:=hj 0 (by omega) (by omega)
        rw [kids_some ht' (by omega) (by omega)] at h2
        cases h2
        exact hq2 rfl
    · simp only [bls] at hq
      refine go_wr (by omega) (by omega) ?_
      refine ⟨rfl,rfl,rfl,rfl,rfl,rfl,rfl,⟨hw,by omega,by omega,fun j j0 j1=>?_⟩,by omega⟩
      by_cases e:j=i
      · subst e;exact gD_eq (by omega)
      · have h2:=hj j j0 (by omega)
        rcases hq.2 with h3|h3
        · omega
        · rw [h3];exact h2
  · simp only [bls] at hi
    refine ⟨?_,hw⟩
    rw [kids_all (t:=t) (by intro hn;rw [hn] at hl2;simp at hl2) fun j j0 j1=>hj j j0 (by omega)]
    rfl
theorem c_kidsType8 (h:Nrm v x y ds rs) (hz:Read v z vars) (hv:nonneg vars) (hk:Read v kx kids) (hop:op=8) (hn:InI num) (H:∀ k∈kids,BtP ds rs k) (hb:vars.length+3+4 * cntK kids≤10000):
    Fn Tryz.prog 153 #[.agg #[x.val,y.val],z.val,.agg #[iV op,iV num,iV into,ax.val,kx.val]] v (iV (if 0 < (armF ds num).length∧kids.length=(armF ds num).length then gD (same1 (kidsT ds (rs.map sgOf) vars (armF ds num) kids)) else -1)):=by
  refine of153 _ _ _ _ _ _ _ _ _ _ ?_
  unfold vc153
  have hkn:=hk.n
  have hkl:=hk.le
  refine Mk.use (c_consOfB h.hx h.sm hn) (.refl v) ?_
  rintro _ w1 J ⟨z3,rfl,hO⟩ hS hs
  refine ⟨_,rfl,?_⟩
  have hz3:Read w1 z3 (consL ds num):=hO.read hS
  have hz3n:=hz3.n
  have hal:(armF ds num).length=(consL ds num).length:=by unfold armF;simp
  repeat (first|refine ⟨fun h=>absurd (of_decide_eq_true h) (by omega),fun _=>?_⟩|refine ⟨fun _=>?_,fun h=>absurd (of_decide_eq_false h) (by omega)⟩)
  have hs1:=hS.sub
  clear hO hS
  refine ⟨fun hc=>⟨?_,hs1⟩,fun hc=>?_⟩
  · simp only [bls] at hc
    rw [if_neg (by rcases hc with hc|hc<;>omega)]
  simp only [bls] at hc
  have hl2:kids.length=(consL ds num).length:=by omega
  rw [if_pos ⟨by omega,by omega⟩]
  refine ⟨fun t i w=>Sub w1 w∧0≤i∧i≤kids.length∧∀ j:Int,0≤j→j < i→blkT ds (rs.map sgOf) (vars++nth (armF ds num) j) (nth kids j)=some t,fun _ i _=>(kids.length - i).toNat,⟨.refl _,by omega,by omega,fun j j0 j1=>by omega⟩,?_⟩
  rintro t i w ⟨hw1,i0,i1,hj⟩
  dsimp only
  have hw:=hs1.trans hw1
  refine ⟨fun hi=>?_,fun hi=>?_⟩
  · simp only [bls] at hi
    repeat (first|refine ⟨fun h=>absurd (of_decide_eq_true h) (by omega),fun _=>?_⟩|refine ⟨fun _=>?_,fun h=>absurd (of_decide_eq_false h) (by omega)⟩)
    have hil:i < kids.length:=by omega
    have hmem:=nth_mem (l:=kids) i0 hil
    have hcm:=cntK_mem kids hmem
    obtain ⟨f1,e1,e2,j1,r1⟩:=(hk.src hw).ofBlockD i0 hil
    have hni:nth (armF ds num) i=conF ds (nth (consL ds num) i):=armF_nth i0 (by omega)
    have hcl:=conF_len3 h.sg.1 (nth (consL ds num) i)
    have hvn:nonneg (vars++nth (armF ds num) i):=by rw [hni];exact hv.app (conF_nn h.sg.1 _)
    refine go_ix (hz3.mono hw1) i0 (by omega) ?_
    refine ld_int (hz3.mono hw1) i0 (by omega) ?_
    intro c0 c1
    refine Mk.use (c_conFieldsR (h.hx.mono hw) h.sm ⟨c0,c1⟩) (.refl w) ?_
    rintro _ w2 J2 ⟨z4,rfl,hr4⟩ hS2 hs2
    rw [List.append_nil] at hS2
    have r4:=hr4 _ hS2
    refine ⟨_,rfl,?_⟩
    refine Mk.usew (c_extend (hz.mono (hw.trans hs2)) r4 (by omega)) hS2 ?_
    rintro _ w3 J3 ⟨z5,rfl,hO5⟩ hS3 hs3
    have r5:Read w3 z5 (vars++nth (armF ds num) i):=by rw [hni];exact (hO5.ofInts (u':=w)).read hS3
    refine ⟨_,rfl,?_⟩
    have hw3:Sub v w3:=(hw.trans hs2).trans hs3
    have hT:=H _ hmem w3 x y z5 f1 _ (h.mono hw3) r5 hvn (r1.mono hw3) j1 (by rw [hni,List.length_append];omega)
    refine go_ix hk i0 hil ?_
    refine ⟨f1,_,⟨cell_sub (hs2.trans hs3) e1,cell_sub (hs2.trans hs3) e2⟩,_,hT,fun hq=>⟨?_,hw3⟩,fun hq=>?_⟩
    · simp only [bls] at hq
      rw [gD_same]
      intro t' ht'
      have h1:=kids_some ht' i0 hil
      rw [h1,gD_some] at hq
      have hnn:=blkT_nn h.sg _ _ _ hvn h1
      rcases hq with hq|⟨hq,hq2⟩
      · omega
      · have h2:=hj 0 (by omega) (by omega)
        rw [kids_some ht' (by omega) (by omega)] at h2
        cases h2
        exact hq2 rfl
    · simp only [bls] at hq
      refine go_wr (by omega) (by omega) ?_
      refine ⟨rfl,rfl,rfl,rfl,rfl,rfl,rfl,⟨hw1.trans (hs2.trans hs3),by omega,by omega,fun j j0 j1=>?_⟩,by omega⟩
      by_cases e:j=i
      · subst e;exact gD_eq (by omega)
      · have h2:=hj j j0 (by omega)
        rcases hq.2 with h3|h3
        · omega
        · rw [h3];exact h2
  · simp only [bls] at hi
    refine ⟨?_,hw⟩
    rw [kids_all (t:=t) (by intro hn;rw [hn] at hl2;simp at hl2;omega) fun j j0 j1=>hj j j0 (by omega)]
    rfl
end
end Go.Vc
