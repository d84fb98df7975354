/- Part of the proofs about the heaps and memories: a law is joined in the text whose name ends in W and the law. -/
import Derived.Test.YtelgbndeeccblaaGreatDoorES2
set_option linter.all false
namespace Go.Vc
open Go Go.Proofs Go.RowKit
theorem Own.emptyD {α:Type} [DatO α] {u:World} {x:Sl} {J:Items} (h:Own u x ([]:List α) J):OwnD x ([]:List α) J:=by
 obtain ⟨rows,h1,h2,h3⟩:=h
 have hr:rows.length=0:=h2.1
 refine ⟨rows,J,[],[],h1,hr,rfl,fun i r b K hr' _ _=>?_,by simp,Nat.zero_le _⟩
 have:=(List.getElem?_eq_some_iff.1 hr').1
 omega
def hdB (m:List UInt8):Int:=match m with
 | []=>0
 | c ::_=>(c.toNat:Int)
theorem hdB_nth (m:List UInt8) (h:m≠[]):hdB m=((nth m 0).toNat:Int):=by
 cases m with
 | nil=>exact absurd rfl h
 | cons c r=>rfl
def RSt (u:World) (a:Addr) (L:Items) (l m:List UInt8) (n:Int) (b:Bool) (w:World):Prop:=
 ∃ (I:Items) (pre:List UInt8),l=pre++m∧Cel a [.string (str l),.int .i64 (pre.length:Int),.int .i64 n,.bool b] I∧St u w (I++L)
def atR (w:World) (a:Addr):Nat:=match w.cell? (a.add 1) with
 | some (.int _ n)=>n.toNat
 | _=>0
def digP (b:UInt8):Bool:=decide (48≤b.toNat) && decide (b.toNat≤57)
def lowP (b:UInt8):Bool:=decide (97≤b.toNat) && decide (b.toNat≤122)
def valD (l:List UInt8):Int:=l.foldl (fun n b=>n * 10+(b.toNat:Int) - 48) 0
theorem valD_snoc (l:List UInt8) (b:UInt8):valD (l++[b])=valD l * 10+(b.toNat:Int) - 48:=by unfold valD;rw [List.foldl_append];rfl
theorem valD_itoa:∀ k:Fin 1000,valD (Lib.itoa k.val)=k.val:=by decide +kernel
theorem itoa_dig3:∀ k:Fin 1000,((Lib.itoa k.val).all digP && decide (1≤(Lib.itoa k.val).length) && decide ((Lib.itoa k.val).length≤3))=true:=by decide +kernel
def NoDig (rest:List UInt8):Prop:=∀ b,rest.head?=some b→digP b=false
theorem dig_eq {d r q rest:List UInt8} (h:d++r=q++rest) (hd:∀ b∈d,digP b=true) (hq:∀ b∈q,digP b=true) (hr:NoDig r∨q.length≤d.length) (hs:NoDig rest):d=q∧r=rest:=by
 have key:d.length=q.length:=by
  rcases Nat.lt_trichotomy d.length q.length with hl|hl|hl
  ·exfalso
   have e:r=q.drop d.length++rest:=by
    have:=congrArg (List.drop d.length) h
    rw [List.drop_left' rfl,List.drop_append_of_le_length (by omega)] at this
    exact this
   cases hqd:q.drop d.length with
   | nil=>have:=congrArg List.length hqd;rw [List.length_drop,List.length_nil] at this;omega
   | cons c t=>
    rw [hqd] at e
    have hc:c∈q:=List.mem_of_mem_drop (by rw [hqd];simp)
    rcases hr with hr|hr
    ·have:=hr c (by rw [e];rfl)
     rw [hq c hc] at this
     cases this
    ·omega
  ·exact hl
  ·exfalso
   have e:rest=d.drop q.length++r:=by
    have:=congrArg (List.drop q.length) h.symm
    rw [List.drop_left' rfl,List.drop_append_of_le_length (by omega)] at this
    exact this
   cases hqd:d.drop q.length with
   | nil=>have:=congrArg List.length hqd;rw [List.length_drop,List.length_nil] at this;omega
   | cons c t=>
    rw [hqd] at e
    have hc:c∈d:=List.mem_of_mem_drop (by rw [hqd];simp)
    have:=hs c (by rw [e];rfl)
    rw [hd c hc] at this
    cases this
 exact List.append_inj h key
section
variable {u v w:World} {l m:List UInt8} {a:Addr} {L I J K:Items} {n:Int} {b:Bool}
theorem RSt.perm {L':Items} (h:RSt u a L l m n b w) (hp:L'.Perm L):RSt u a L' l m n b w:=by
 obtain ⟨I,pre,h0,h1,h2⟩:=h
 exact ⟨I,pre,h0,h1,h2.perm (List.Perm.append_left I hp)⟩
theorem RSt.sub (h:RSt u a L l m n b w):Sub u w:=by
 obtain ⟨I,pre,h0,h1,h2⟩:=h
 exact h2.sub
theorem RSt.at_ (h:RSt u a L l m n b w):l.length - atR w a=m.length:=by
 obtain ⟨I,pre,rfl,h1,h2⟩:=h
 unfold atR
 rw [h1.load h2 (k:=1) rfl]
 simp
theorem c_nextS (h:RSt u a L l m n b w) (hl:l.length≤2000000):Fn Tryz.prog 43 #[.pointer (some (a.add 0))] w (.int .i64 (hdB m)):=by
 refine of43 _ _ _ ?_
 unfold vc43
 obtain ⟨I,pre,hlm,hC,hS⟩:=h
 have hz:=str_size l
 have hlen:l.length=pre.length+m.length:=by rw [hlm,List.length_append]
 refine ⟨_,hC.load hS rfl,_,hC.load hS rfl,fun hc=>?_,fun hc=>?_⟩
 ·simp only [bls] at hc
  have:m=[]:=List.eq_nil_of_length_eq_zero (by omega)
  rw [this]
  exact ⟨rfl,.refl w⟩
 ·simp only [bls] at hc
  obtain ⟨k1,k2⟩:=ix_str (l:=l) (pre.length:Int) (by omega) (by omega)
  refine ⟨_,hC.load hS rfl,_,hC.load hS rfl,k1,?_⟩
  rw [k2]
  have e:nth l (pre.length:Int)=nth m 0:=by
   unfold nth List.getD
   rw [hlm,Int.toNat_natCast,List.getElem?_append_right (Nat.le_refl _),Nat.sub_self]
   rfl
  refine go_wr (by omega) (by have:=(nth l (pre.length:Int)).toNat_lt;omega) ⟨?_,.refl w⟩
  rw [e,hdB_nth m (by rintro rfl;simp at hlen;omega)]
theorem c_skipS (s:List UInt8) (h:RSt u a L l m n b w) (hl:l.length≤2000000) (hs:s.length≤1000):Trip Tryz.prog 86 #[.pointer (some (a.add 0)),.string (str s)] w fun r w'=>
  r=.tuple #[]∧((∃ m',m=s++m'∧RSt u a L l m' n b w')∨((∀ m',m≠s++m')∧RSt u a L l m n true w')):=by
 refine of86 _ _ _ _ ?_
 unfold vc86
 obtain ⟨I,pre,hlm,hC,hS⟩:=h
 have hz:=str_size l
 have hzs:=str_size s
 have hlen:l.length=pre.length+m.length:=by rw [hlm,List.length_append]
 refine ⟨_,hC.load hS rfl,?_⟩
 refine go_wr (by omega) (by omega) ?_
 refine ⟨_,hC.load hS rfl,_,fun _=>hC.load hS rfl,_,fun _=>hC.load hS rfl,_,fun _=>hC.load hS rfl,?_⟩
 refine go_wrg (fun _=>⟨by omega,by omega⟩) ?_
 refine ⟨?_,?_,?_⟩
 ·intro hc
  simp only [bls] at hc
  exact ⟨by omega,by omega,by omega⟩
 ·intro hc
  refine hC.store hS (by simp) fun w' I' hC' hS'=>⟨rfl,.inr ⟨?_,I',pre,hlm,hC',hS'⟩⟩
  rintro m' rfl
  simp only [bls] at hc
  rcases hc with hc|hc
  ·rw [List.length_append] at hlen;omega
  ·rw [List.length_append] at hlen
   rw [str_cut (by omega) (by omega) (by rw [hlm,List.length_append,List.length_append];omega)] at hc
   have e:(l.take ((pre.length:Int)+((str s).size:Int)).toNat).drop (pre.length:Int).toNat=s:=by
    rw [hlm,show ((pre.length:Int)+((str s).size:Int)).toNat=pre.length+s.length by omega,Int.toNat_natCast,List.take_length_add_append,List.drop_left' rfl,List.take_left' rfl]
   rw [e,seq_self] at hc
   cases hc
 ·intro hc
  simp only [bls] at hc
  obtain ⟨hc1,hc2⟩:=hc
  rw [str_cut (by omega) (by omega) (by omega)] at hc2
  have e:(l.take ((pre.length:Int)+((str s).size:Int)).toNat).drop (pre.length:Int).toNat=m.take s.length:=by
   rw [hlm,show ((pre.length:Int)+((str s).size:Int)).toNat=pre.length+s.length by omega,Int.toNat_natCast,List.take_length_add_append,List.drop_left' rfl]
  rw [e] at hc2
  rw [str_eqB _ _ (m:=s) (str_data _)] at hc2
  have hc3:m.take s.length=s:=of_decide_eq_true hc2
  refine ⟨_,hC.load hS rfl,?_⟩
  refine go_wr (by omega) (by omega) ?_
  refine hC.store hS (by simp) fun w' I' hC' hS'=>⟨rfl,.inl ⟨m.drop s.length,?_,I',pre++s,?_,?_,hS'⟩⟩
  ·conv=>lhs;rw [←List.take_append_drop s.length m]
   rw [hc3]
  ·rw [hlm]
   conv=>lhs;rw [←List.take_append_drop s.length m]
   rw [hc3,List.append_assoc]
  ·rw [List.length_append]
   rw [hzs] at hC'
   exact hC'
end
end Go.Vc
namespace Go.Vc
open Go Go.Proofs Go.RowKit
theorem valD_step (l:List UInt8) (b:UInt8) (hb:digP b=true) (h0:0≤valD l):0≤valD (l++[b])∧(∀ N:Int,valD l≤N→valD (l++[b])≤N * 10+9):=by
 rw [valD_snoc]
 unfold digP at hb
 rw [Bool.and_eq_true,decide_eq_true_eq,decide_eq_true_eq] at hb
 exact ⟨by omega,fun N hN=>by omega⟩
theorem valD_bound (l:List UInt8) (hl:∀ b∈l,digP b=true) (hlen:l.length≤4):0≤valD l∧valD l≤9999:=by
 have e0:valD []=0:=rfl
 match l,hlen with
 | [],_=>exact ⟨by omega,by omega⟩
 | [a],_=>
  have h1:=valD_step [] a (hl a (by simp)) (by omega)
  have g1:=h1.2 0 (by omega)
  show 0≤valD ([]++[a])∧valD ([]++[a])≤9999
  exact ⟨h1.1,by omega⟩
 | [a,b],_=>
  have h1:=valD_step [] a (hl a (by simp)) (by omega)
  have g1:=h1.2 0 (by omega)
  have h2:=valD_step [a] b (hl b (by simp)) h1.1
  have g2:=h2.2 _ g1
  show 0≤valD ([a]++[b])∧valD ([a]++[b])≤9999
  exact ⟨h2.1,by omega⟩
 | [a,b,c],_=>
  have h1:=valD_step [] a (hl a (by simp)) (by omega)
  have g1:=h1.2 0 (by omega)
  have h2:=valD_step [a] b (hl b (by simp)) h1.1
  have g2:=h2.2 _ g1
  have h3:=valD_step [a,b] c (hl c (by simp)) h2.1
  have g3:=h3.2 _ g2
  show 0≤valD ([a,b]++[c])∧valD ([a,b]++[c])≤9999
  exact ⟨h3.1,by omega⟩
 | [a,b,c,d],_=>
  have h1:=valD_step [] a (hl a (by simp)) (by omega)
  have g1:=h1.2 0 (by omega)
  have h2:=valD_step [a] b (hl b (by simp)) h1.1
  have g2:=h2.2 _ g1
  have h3:=valD_step [a,b] c (hl c (by simp)) h2.1
  have g3:=h3.2 _ g2
  have h4:=valD_step [a,b,c] d (hl d (by simp)) h3.1
  have g4:=h4.2 _ g3
  show 0≤valD ([a,b,c]++[d])∧valD ([a,b,c]++[d])≤9999
  exact ⟨h4.1,by omega⟩
 | _ ::_ ::_ ::_ ::_ ::_,h=>simp only [List.length_cons] at h;omega
section
variable {u v w:World} {l m:List UInt8} {a:Addr} {L I J K:Items} {n:Int} {b:Bool}
def GhD (m:List UInt8) (b:Bool) (k:Int) (m':List UInt8) (b':Bool):Prop:=∀ (k0:Int) (rest:List UInt8),0≤k0→k0≤999→m=Lib.itoa k0++rest→NoDig rest→k=k0∧m'=rest∧b'=b
theorem c_digits (h:RSt u a L l m n b w) (hl:l.length≤2000000):Trip Tryz.prog 87 #[.pointer (some (a.add 0))] w fun r w'=>
  ∃ (k:Int) (m':List UInt8) (b':Bool),r=.int .i64 k∧0≤k∧k≤9999∧RSt u a L l m' n b' w'∧(∃ d,m=d++m')∧(b'=false→b=false∧m'.length < m.length)∧GhD m b k m' b':=by
 refine of87 _ _ _ ?_
 unfold vc87
 refine ⟨fun k many w=>∃ d m',m=d++m'∧many=d.length∧d.length≤4∧(∀ x∈d,digP x=true)∧k=valD d∧RSt u a L l m' n b w,fun _ many _=>(4 - many).toNat,⟨[],m,rfl,rfl,by decide,(fun x hx=>by cases hx),rfl,h⟩,?_⟩
 rintro k many w ⟨d,m',hm,hmany,hd4,hdig,hk,hR⟩
 dsimp only
 have hv:=valD_bound d hdig hd4
 have hN:=c_nextS hR hl
 have hml:m.length=d.length+m'.length:=by rw [hm,List.length_append]
 refine ⟨_,hN,_,c_inRange,fun hc=>?_,fun hc=>?_⟩
 ·simp only [bls] at hc
  obtain ⟨⟨c1,c2⟩,c3⟩:=hc
  cases m' with
  | nil=>exact absurd c1 (by decide)
  | cons x t=>
   have hx:hdB (x ::t)=(x.toNat:Int):=rfl
   rw [hx] at c1 c2 hN
   refine go_wr (by omega) (by omega) ⟨_,hN,?_⟩
   refine go_wr (by omega) (by omega) ?_
   refine go_wr (by omega) (by omega) ?_
   obtain ⟨I,pre,hlm,hC,hS⟩:=hR
   have hlen:l.length=pre.length+(x ::t).length:=by rw [hlm,List.length_append]
   refine ⟨_,hC.load hS rfl,?_⟩
   refine go_wr (by omega) (by omega) ?_
   refine hC.store hS (by simp) fun w' I' hC' hS'=>?_
   refine go_wr (by omega) (by omega) ?_
   refine ⟨⟨d++[x],t,by rw [hm];simp,by rw [List.length_append,List.length_singleton];omega,by rw [List.length_append,List.length_singleton];omega,?_,?_,I',pre++[x],by rw [hlm];simp,?_,hS'⟩,by omega⟩
   ·intro y hy
    rcases List.mem_append.1 hy with hy|hy
    ·exact hdig y hy
    ·rw [List.mem_singleton.1 hy];unfold digP;rw [Bool.and_eq_true,decide_eq_true_eq,decide_eq_true_eq];omega
   ·rw [valD_snoc,hk]
   ·rw [List.length_append,List.length_singleton];exact hC'
 ·simp only [bls] at hc
  have hex:NoDig m'∨3 < d.length:=by
   by_cases h4:d.length < 4
   ·refine .inl fun x hx=>?_
    cases m' with
    | nil=>cases hx
    | cons y t=>
     have hy:y=x:=by simpa using hx
     subst hy
     have hh:hdB (y ::t)=(y.toNat:Int):=rfl
     rw [hh] at hc
     unfold digP
     cases hd:decide (48≤y.toNat) && decide (y.toNat≤57)
     ·rfl
     ·rw [Bool.and_eq_true,decide_eq_true_eq,decide_eq_true_eq] at hd
      omega
   ·exact .inr (by omega)
  have gh:∀ (k0:Int) (rest:List UInt8),0≤k0→k0≤999→m=Lib.itoa k0++rest→NoDig rest→k=k0∧m'=rest∧1≤d.length∧d.length≤3:=by
   intro k0 rest h0 h1 h2 h3
   obtain ⟨f,rfl⟩:∃ f:Fin 1000,(f.val:Int)=k0:=⟨⟨k0.toNat,by omega⟩,by show ((k0.toNat:Nat):Int)=k0;omega⟩
   have hq:=itoa_dig3 f
   rw [Bool.and_eq_true,Bool.and_eq_true,decide_eq_true_eq,decide_eq_true_eq,List.all_eq_true] at hq
   obtain ⟨e1,e2⟩:=dig_eq (hm.symm.trans h2) hdig hq.1.1 (hex.imp id fun h=>by omega) h3
   exact ⟨by rw [hk,e1,valD_itoa],e2,by rw [e1];omega,by rw [e1];omega⟩
  refine ⟨fun hq=>?_,fun hq=>?_⟩
  ·simp only [bls] at hq
   obtain ⟨I,pre,hlm,hC,hS⟩:=hR
   refine hC.store hS (by simp) fun w' I' hC' hS'=>⟨k,m',true,rfl,by omega,by omega,⟨I',pre,hlm,hC',hS'⟩,⟨d,hm⟩,(fun h=>by cases h),?_⟩
   intro k0 rest h0 h1 h2 h3
   obtain ⟨_,_,g1,g2⟩:=gh k0 rest h0 h1 h2 h3
   omega
  ·simp only [bls] at hq
   refine ⟨k,m',b,rfl,by omega,by omega,hR,⟨d,hm⟩,fun hb=>⟨hb,by omega⟩,?_⟩
   intro k0 rest h0 h1 h2 h3
   obtain ⟨g1,g2,_,_⟩:=gh k0 rest h0 h1 h2 h3
   exact ⟨g1,g2,rfl⟩
theorem c_wordS (h:RSt u a L l m n b w) (hl:l.length≤2000000):Trip Tryz.prog 116 #[.pointer (some (a.add 0))] w fun r w'=>
  r=.string (str (m.takeWhile lowP))∧RSt u a L l (m.dropWhile lowP) n b w':=by
 refine of116 _ _ _ ?_
 unfold vc116
 obtain ⟨I,pre,hlm,hC,hS⟩:=h
 refine ⟨_,hC.load hS rfl,fun w=>∃ d m',m=d++m'∧(∀ x∈d,lowP x=true)∧RSt u a L l m' n b w,fun w=>l.length - atR w a,⟨[],m,rfl,(fun x hx=>by cases hx),I,pre,hlm,hC,hS⟩,?_⟩
 rintro w ⟨d,m',hm,hlow,hR⟩
 dsimp only
 have hN:=c_nextS hR hl
 refine ⟨_,hN,_,c_inRange,fun hc=>?_,fun hc=>?_⟩
 ·simp only [bls] at hc
  cases m' with
  | nil=>exact absurd hc.1 (by decide)
  | cons x t=>
   have hx:hdB (x ::t)=(x.toNat:Int):=rfl
   rw [hx] at hc
   have hat:=hR.at_
   obtain ⟨I,pre2,hlm2,hC,hS⟩:=hR
   have hlen:l.length=pre2.length+(x ::t).length:=by rw [hlm2,List.length_append]
   refine ⟨_,hC.load hS rfl,?_⟩
   refine go_wr (by omega) (by omega) ?_
   refine hC.store hS (by simp) fun w' I' hC' hS'=>?_
   have hR':RSt u a L l t n b w':=⟨I',pre2++[x],by rw [hlm2];simp,by rw [List.length_append,List.length_singleton];exact hC',hS'⟩
   refine ⟨⟨d++[x],t,by rw [hm];simp,?_,hR'⟩,?_⟩
   ·intro y hy
    rcases List.mem_append.1 hy with hy|hy
    ·exact hlow y hy
    ·rw [List.mem_singleton.1 hy];unfold lowP;rw [Bool.and_eq_true,decide_eq_true_eq,decide_eq_true_eq];omega
   ·rw [hR'.at_,hat,List.length_cons];omega
 ·have hex:∀ x,m'.head?=some x→lowP x=false:=by
   intro x hx
   cases m' with
   | nil=>cases hx
   | cons y t=>
    have hy:y=x:=by simpa using hx
    subst hy
    have hh:hdB (y ::t)=(y.toNat:Int):=rfl
    rw [hh] at hc
    simp only [bls] at hc
    unfold lowP
    cases hd:decide (97≤y.toNat) && decide (y.toNat≤122)
    ·rfl
    ·rw [Bool.and_eq_true,decide_eq_true_eq,decide_eq_true_eq] at hd
     omega
  have ht:m.takeWhile lowP=d:=by rw [hm];exact takeWhile_all hlow hex
  have hdr:m.dropWhile lowP=m':=by
   have:=List.takeWhile_append_dropWhile (p:=lowP) (l:=m)
   rw [ht] at this
   conv at this=>rhs;rw [hm]
   exact List.append_cancel_left this
  obtain ⟨I,pre2,hlm2,hC,hS⟩:=hR
  have hlen:l.length=pre.length+m.length:=by rw [hlm,List.length_append]
  have hlen2:l.length=pre2.length+m'.length:=by rw [hlm2,List.length_append]
  have hml:m.length=d.length+m'.length:=by rw [hm,List.length_append]
  have hz:=str_size l
  refine ⟨_,hC.load hS rfl,_,hC.load hS rfl,⟨by omega,by omega,by omega⟩,?_,?_⟩
  ·rw [ht,str_cut (by omega) (by omega) (by omega)]
   congr 2
   rw [Int.toNat_natCast,Int.toNat_natCast,hlm,hm,show pre2.length=pre.length+d.length by omega,List.take_length_add_append,List.drop_left' rfl,List.take_left' rfl]
  ·rw [hdr]
   exact ⟨I,pre2,hlm2,hC,hS⟩
theorem c_opOf (s:List UInt8):∃ op:Int,Fn Tryz.prog 115 #[.string (str s)] v (.int .i64 op)∧((op=-1∧∀ k:Int,1≤k→k≤13→wordE k≠[]→wordE k≠s)∨(1≤op∧op≤13∧wordE op=s∧s≠[])):=by
 by_cases hex:∃ k:Int,(1≤k∧k≤13)∧wordE k=s∧s≠[]
 ·obtain ⟨k,⟨k1,k2⟩,k3,k4⟩:=hex
  refine ⟨k,?_,.inr ⟨k1,k2,k3,k4⟩⟩
  refine of115 _ _ _ ?_
  unfold vc115
  refine ⟨fun i w=>Sub v w∧1≤i∧i≤k,fun i _=>(14 - i).toNat,⟨.refl v,by omega,by omega⟩,?_⟩
  rintro i w ⟨hs,i0,i1⟩
  dsimp only
  refine ⟨fun hi=>⟨_,fun _=>c_wordOf (by omega) (by omega),fun hc=>?_,fun hc=>?_⟩,fun hi=>?_⟩
  ·rw [str_eqB s _ (m:=[]) rfl,str_eqB (wordE i) _ (m:=s) (str_data _)] at hc
   simp only [bls] at hc
   obtain ⟨j,rfl⟩:=fin14 (op:=i) (by omega) (by omega)
   obtain ⟨j2,rfl⟩:=fin14 (op:=k) (by omega) (by omega)
   have:=word_inj j j2 (hc.2.trans k3.symm) (by rw [hc.2];exact k4)
   rw [this]
   exact ⟨rfl,hs⟩
  ·rw [str_eqB s _ (m:=[]) rfl,str_eqB (wordE i) _ (m:=s) (str_data _)] at hc
   simp only [bls] at hc
   have:i≠k:=by
    rintro rfl
    rcases hc with hc|hc
    ·exact k4 hc
    ·exact hc k3
   refine go_wr (by omega) (by omega) ⟨⟨hs,by omega,by omega⟩,by omega⟩
  ·simp only [bls] at hi
   omega
 ·refine ⟨-1,?_,.inl ⟨rfl,fun k k1 k2 k3 k4=>hex ⟨k,⟨k1,k2⟩,k4,by rw [←k4];exact k3⟩⟩⟩
  refine of115 _ _ _ ?_
  unfold vc115
  refine ⟨fun i w=>Sub v w∧1≤i∧i≤14,fun i _=>(14 - i).toNat,⟨.refl v,by omega,by omega⟩,?_⟩
  rintro i w ⟨hs,i0,i1⟩
  dsimp only
  refine ⟨fun hi=>?_,fun hi=>⟨rfl,hs⟩⟩
  simp only [bls] at hi
  refine ⟨_,fun _=>c_wordOf (by omega) (by omega),fun hc=>?_,fun hc=>?_⟩
  ·rw [str_eqB s _ (m:=[]) rfl,str_eqB (wordE i) _ (m:=s) (str_data _)] at hc
   simp only [bls] at hc
   exact absurd ⟨i,⟨by omega,by omega⟩,hc.2,hc.1⟩ hex
  ·exact go_wr (by omega) (by omega) ⟨⟨hs,by omega,by omega⟩,by omega⟩
end
end Go.Vc
namespace Go.Vc
open Go Go.Proofs Go.RowKit
section
variable {u v w:World} {l m:List UInt8} {a:Addr} {L I J K:Items} {n:Int} {b:Bool}
def GhR (m:List UInt8) (n:Int) (b:Bool) (e:ExprD) (m':List UInt8) (n':Int) (b':Bool):Prop:=
 ∀ (e0:ExprD) (rest:List UInt8),b=false→canE e0=true→m=showE e0++rest→NoDig rest→n+nodesE e0≤30→e=e0∧b'=false∧m'=rest∧n'=n+nodesE e0
def RX (u:World) (a:Addr) (L:Items) (l m:List UInt8) (n:Int) (b:Bool) (r:Value) (w:World):Prop:=
 ∃ (e:ExprD) (x:Sl) (m':List UInt8) (n':Int) (b':Bool) (J:Items),r=.agg #[.int .i64 e.op,.int .i64 e.num,x.val]∧OwnD x e.kids J∧InI e.op∧InI e.num∧RSt u a (J++L) l m' n' b' w∧
  (∃ pre,m=pre++m')∧n < n'∧n'+m'.length≤n+1+m.length∧(b'=false→b=false∧n'≤30∧n'=n+nodesE e)∧GhR m n b e m' n' b'
def GhK (m:List UInt8) (n:Int) (op num:Int) (ks:List ExprD) (q:Bool) (l1:List UInt8) (n1:Int):Prop:=
 ∀ (e0:ExprD) (rest:List UInt8),canE e0=true→40 ::m=showE e0++rest→NoDig rest→n+nodesE e0≤30→
  ∃ todo,e0.op=op∧e0.num=num∧e0.kids=ks++todo∧q=false∧l1=showL todo++41 ::rest∧n1=n+1+nodesL ks∧canL todo=true
theorem noDig_kids (todo:List ExprD) (rest:List UInt8):NoDig (showL todo++41 ::rest):=by
 intro b hb
 cases todo with
 | nil=>rw [showL_nil] at hb;simp at hb;subst hb;decide
 | cons k r=>rw [showL_cons] at hb;simp at hb;subst hb;decide
theorem itoa_digP {k:Int} (h0:0≤k) (h1:k≤999):(∀ b∈Lib.itoa k,digP b=true)∧Lib.itoa k≠[]:=by
 have h:=itoa_dig h0 h1
 exact ⟨fun b hb=>by have:=h.1 b hb;unfold digP;rw [Bool.and_eq_true,decide_eq_true_eq,decide_eq_true_eq];omega,h.2⟩
theorem show_head (e0:ExprD) (rest:List UInt8) (h:canE e0=true):
  (e0.op=0∧e0.kids=[]∧0≤e0.num∧e0.num≤999∧showE e0=Lib.itoa e0.num∧∃ c t,showE e0++rest=c ::t∧digP c=true)∨
  (e0.op=0∧e0.kids=[]∧e0.num < 0∧-999≤e0.num∧showE e0=45 ::Lib.itoa (-e0.num))∨
  (e0.op=12∧e0.kids=[]∧0≤e0.num∧e0.num≤99∧showE e0=118 ::Lib.itoa e0.num)∨
  (1≤e0.op∧e0.op≤13∧e0.op≠12∧(if numE e0.op then 0≤e0.num∧e0.num≤99 else e0.num=0)∧canL e0.kids=true∧showE e0=40 ::(headE e0.op e0.num++(showL e0.kids++[41]))):=by
 rcases can_cases h with ⟨h1,h2,h3,h4,h5⟩|h|h
 ·rcases Int.lt_or_le e0.num 0 with hn|hn
  ·exact .inr (.inl ⟨h1,h2,hn,h3,by rw [h5,itoa_negC hn]⟩)
  ·refine .inl ⟨h1,h2,hn,h4,h5,?_⟩
   have hd:=itoa_digP hn h4
   rw [h5]
   cases hi:Lib.itoa e0.num with
   | nil=>exact absurd hi hd.2
   | cons c t=>exact ⟨c,t++rest,rfl,hd.1 c (by rw [hi];simp)⟩
 ·exact .inr (.inr (.inl h))
 ·exact .inr (.inr (.inr h))
theorem nodes_leaf {e0:ExprD} (h:e0.kids=[]):nodesE e0=1:=by rw [nodesE_eq,h,nodesL_nil]
theorem hd_118 {m:List UInt8} (h:hdB m=118):∃ t,m=118 ::t:=by
 cases m with
 | nil=>cases h
 | cons c t=>
  have h2:(c.toNat:Int)=118:=h
  have:c=118:=UInt8.toNat_inj.1 (by have:(118:UInt8).toNat=118:=rfl;omega)
  exact ⟨t,by rw [this]⟩
theorem hd_45 {m:List UInt8} (h:hdB m=45):∃ t,m=45 ::t:=by
 cases m with
 | nil=>cases h
 | cons c t=>
  have h2:(c.toNat:Int)=45:=h
  have:c=45:=UInt8.toNat_inj.1 (by have:(45:UInt8).toNat=45:=rfl;omega)
  exact ⟨t,by rw [this]⟩
theorem hd_40 {m:List UInt8} (h:hdB m=40):∃ t,m=40 ::t:=by
 cases m with
 | nil=>cases h
 | cons c t=>
  have h2:(c.toNat:Int)=40:=h
  have:c=40:=UInt8.toNat_inj.1 (by have:(40:UInt8).toNat=40:=rfl;omega)
  exact ⟨t,by rw [this]⟩
theorem hd_32 {m:List UInt8} (h:hdB m=32):∃ t,m=32 ::t:=by
 cases m with
 | nil=>cases h
 | cons c t=>
  have h2:(c.toNat:Int)=32:=h
  have:c=32:=UInt8.toNat_inj.1 (by have:(32:UInt8).toNat=32:=rfl;omega)
  exact ⟨t,by rw [this]⟩
theorem dig_ne {c:UInt8} (h:digP c=true):c≠118∧c≠45∧c≠40:=by
 refine ⟨?_,?_,?_⟩<;>(rintro rfl;exact absurd h (by decide))
theorem ghr_var {t m':List UInt8} {k:Int} {b':Bool} (hG:GhD t b k m' b'):GhR (118 ::t) n b ⟨12,k,[]⟩ m' (n+1) b':=by
 intro e0 rest hb h1 h2 h3 h4
 rcases show_head e0 rest h1 with ⟨_,_,_,_,_,c,q,g1,g2⟩|⟨_,_,_,_,g1⟩|⟨g0,gk,g2,g3,g1⟩|⟨_,_,_,_,_,g1⟩
 ·rw [g1] at h2
  exact absurd (List.cons.inj h2).1.symm (dig_ne g2).1
 ·rw [g1] at h2
  exact absurd (List.cons.inj h2).1 (by decide)
 ·rw [g1,List.cons_append] at h2
  obtain ⟨k1,k2,k3⟩:=hG e0.num rest g2 (by omega) (List.cons.inj h2).2 h3
  exact ⟨expr_ext g0 k1.symm gk,by rw [k3,hb],k2,by rw [nodes_leaf gk];rfl⟩
 ·rw [g1] at h2
  exact absurd (List.cons.inj h2).1 (by decide)
theorem ghr_neg {t m':List UInt8} {k:Int} {b':Bool} (hG:GhD t b k m' b'):GhR (45 ::t) n b ⟨0,0 - k,[]⟩ m' (n+1) b':=by
 intro e0 rest hb h1 h2 h3 h4
 rcases show_head e0 rest h1 with ⟨_,_,_,_,_,c,q,g1,g2⟩|⟨g0,gk,g2,g3,g1⟩|⟨_,_,_,_,g1⟩|⟨_,_,_,_,_,g1⟩
 ·rw [g1] at h2
  exact absurd (List.cons.inj h2).1.symm (dig_ne g2).2.1
 ·rw [g1,List.cons_append] at h2
  obtain ⟨k1,k2,k3⟩:=hG (-e0.num) rest (by omega) (by omega) (List.cons.inj h2).2 h3
  exact ⟨expr_ext g0 (by omega) gk,by rw [k3,hb],k2,by rw [nodes_leaf gk];rfl⟩
 ·rw [g1] at h2
  exact absurd (List.cons.inj h2).1 (by decide)
 ·rw [g1] at h2
  exact absurd (List.cons.inj h2).1 (by decide)
theorem ghr_int {m':List UInt8} {k:Int} {b':Bool} (n1:hdB m≠118) (n2:hdB m≠45) (n3:hdB m≠40) (hG:GhD m b k m' b'):GhR m n b ⟨0,k,[]⟩ m' (n+1) b':=by
 intro e0 rest hb h1 h2 h3 h4
 rcases show_head e0 rest h1 with ⟨g0,gk,g2,g3,g1,_⟩|⟨_,_,_,_,g1⟩|⟨_,_,_,_,g1⟩|⟨_,_,_,_,_,g1⟩
 ·rw [g1] at h2
  obtain ⟨k1,k2,k3⟩:=hG e0.num rest g2 g3 h2 h3
  exact ⟨expr_ext g0 k1.symm gk,by rw [k3,hb],k2,by rw [nodes_leaf gk];rfl⟩
 ·rw [h2,g1] at n2;exact absurd rfl n2
 ·rw [h2,g1] at n1;exact absurd rfl n1
 ·rw [h2,g1] at n3;exact absurd rfl n3
theorem low_word:∀ k:Fin 14,∀ b∈wordE (k.val:Int),lowP b=true:=by decide
theorem ghk_word {e0:ExprD} {rest:List UInt8} (h1:canE e0=true) (h2:40 ::m=showE e0++rest):
  1≤e0.op∧e0.op≤13∧e0.op≠12∧(if numE e0.op then 0≤e0.num∧e0.num≤99 else e0.num=0)∧canL e0.kids=true∧m.takeWhile lowP=wordE e0.op∧m.dropWhile lowP=(if numE e0.op then Lib.itoa e0.num else [])++(showL e0.kids++41 ::rest):=by
 rcases show_head e0 rest h1 with ⟨_,_,_,_,_,c,q,g1,g2⟩|⟨_,_,_,_,g1⟩|⟨_,_,_,_,g1⟩|⟨k1,k2,k3,k4,k5,g1⟩
 ·rw [g1] at h2
  exact absurd (List.cons.inj h2).1.symm (dig_ne g2).2.2
 ·rw [g1] at h2
  exact absurd (List.cons.inj h2).1 (by decide)
 ·rw [g1] at h2
  exact absurd (List.cons.inj h2).1 (by decide)
 ·rw [g1,List.cons_append] at h2
  have hm:=(List.cons.inj h2).2
  unfold headE at hm
  have hm2:m=wordE e0.op++((if numE e0.op then Lib.itoa e0.num else [])++(showL e0.kids++41 ::rest)):=by rw [hm];simp only [List.append_assoc,List.singleton_append]
  have hlow:∀ b∈wordE e0.op,lowP b=true:=by
   obtain ⟨j,hj⟩:=fin14 (op:=e0.op) (by omega) k2
   rw [←hj]
   exact low_word j
  have hend:∀ b,((if numE e0.op then Lib.itoa e0.num else [])++(showL e0.kids++41 ::rest)).head?=some b→lowP b=false:=by
   intro b hb
   have hk:∀ b,(showL e0.kids++41 ::rest).head?=some b→lowP b=false:=by
    intro b hb
    generalize e0.kids=ks at hb
    cases ks with
    | nil=>rw [showL_nil] at hb;simp at hb;subst hb;decide
    | cons k r=>rw [showL_cons] at hb;simp at hb;subst hb;decide
   by_cases hq:numE e0.op=true
   ·rw [if_pos hq] at hb k4
    have hd:=itoa_digP k4.1 (by omega)
    cases hi:Lib.itoa e0.num with
    | nil=>exact absurd hi hd.2
    | cons c t=>
     rw [hi] at hb
     have hc:c=b:=by simpa using hb
     subst hc
     have:=hd.1 c (by rw [hi];simp)
     unfold digP at this
     unfold lowP
     rw [Bool.and_eq_true,decide_eq_true_eq,decide_eq_true_eq] at this
     rw [decide_eq_false (by omega)]
     rfl
   ·rw [if_neg hq] at hb
    exact hk b hb
  have ht:m.takeWhile lowP=wordE e0.op:=by rw [hm2];exact takeWhile_all hlow hend
  refine ⟨k1,k2,k3,k4,k5,ht,?_⟩
  have:=List.takeWhile_append_dropWhile (p:=lowP) (l:=m)
  rw [ht] at this
  conv at this=>rhs;rw [hm2]
  exact List.append_cancel_left this
theorem op_word {op:Int} {s:List UInt8} (h:(op=-1∧∀ k:Int,1≤k→k≤13→wordE k≠[]→wordE k≠s)∨(1≤op∧op≤13∧wordE op=s∧s≠[])) {op0:Int} (h0:1≤op0) (h1:op0≤13) (h2:op0≠12) (hs:s=wordE op0):op0=op:=by
 obtain ⟨j,rfl⟩:=fin14 (op:=op0) (by omega) h1
 have hne:wordE (j.val:Int)≠[]:=word_ne j (by omega) (by omega)
 rcases h with ⟨_,h⟩|⟨k1,k2,k3,k4⟩
 ·exact absurd hs.symm (h _ h0 h1 hne)
 ·obtain ⟨i,rfl⟩:=fin14 (op:=op) (by omega) k2
  rw [word_inj j i (hs.symm.trans k3.symm) hne]
theorem ghk_start1 {op k:Int} {m1 m2:List UInt8} {b2:Bool} (hm1:m1=m.dropWhile lowP) (hop:(op=-1∧∀ k:Int,1≤k→k≤13→wordE k≠[]→wordE k≠m.takeWhile lowP)∨(1≤op∧op≤13∧wordE op=m.takeWhile lowP∧m.takeWhile lowP≠[]))
  (hq:numE op=true) (hG:GhD m1 false k m2 b2):GhK m n op k [] b2 m2 (n+1):=by
 intro e0 rest h1 h2 h3 h4
 obtain ⟨k1,k2,k3,k4,k5,k6,k7⟩:=ghk_word h1 h2
 have ho:=op_word hop k1 k2 k3 k6
 subst ho
 rw [if_pos hq] at k7 k4
 obtain ⟨g1,g2,g3⟩:=hG e0.num _ k4.1 (by omega) (hm1.trans k7) (noDig_kids _ _)
 exact ⟨e0.kids,rfl,g1.symm,rfl,g3,g2,by rw [nodesL_nil];omega,k5⟩
theorem ghk_start0 {op:Int} {m1:List UInt8} (hm1:m1=m.dropWhile lowP) (hop:(op=-1∧∀ k:Int,1≤k→k≤13→wordE k≠[]→wordE k≠m.takeWhile lowP)∨(1≤op∧op≤13∧wordE op=m.takeWhile lowP∧m.takeWhile lowP≠[]))
  (hq:numE op=false):GhK m n op 0 [] false m1 (n+1):=by
 intro e0 rest h1 h2 h3 h4
 obtain ⟨k1,k2,k3,k4,k5,k6,k7⟩:=ghk_word h1 h2
 have ho:=op_word hop k1 k2 k3 k6
 subst ho
 rw [if_neg (by rw [hq];decide)] at k7 k4
 exact ⟨e0.kids,rfl,k4,rfl,rfl,hm1.trans k7,by rw [nodesL_nil];omega,k5⟩
theorem ghk_step {op num n1 n3:Int} {ks:List ExprD} {q q2:Bool} {e:ExprD} {l2 l3:List UInt8} (h:GhK m n op num ks q (32 ::l2) n1) (hG:GhR l2 n1 q e l3 n3 q2):GhK m n op num (ks++[e]) q2 l3 n3:=by
 intro e0 rest h1 h2 h3 h4
 obtain ⟨todo,g1,g2,g3,g4,g5,g6,g7⟩:=h e0 rest h1 h2 h3 h4
 cases todo with
 | nil=>rw [showL_nil] at g5;exact absurd (List.cons.inj g5).1 (by decide)
 | cons k r=>
  rw [showL_cons,List.cons_append] at g5
  have g5:=(List.cons.inj g5).2
  rw [canL_cons,Bool.and_eq_true] at g7
  rw [List.append_assoc] at g5
  obtain ⟨t1,t2,t3,t4⟩:=hG k _ g4 g7.1 g5 (noDig_kids _ _) (by
   rw [nodesE_eq,g3,nodesL_app,nodesL_cons] at h4
   omega)
  subst t1
  exact ⟨r,g1,g2,by rw [g3];simp,t2,t3,by rw [nodesL_app,nodesL_cons,nodesL_nil];omega,g7.2⟩
theorem ghk_end {op num n1:Int} {ks:List ExprD} {q q2:Bool} {l1 l2:List UInt8} (h:GhK m n op num ks q l1 n1) (hx:(l1=41 ::l2∧q2=q)∨((∀ m',l1≠41 ::m')∧hdB l1≠32)∨q=true):GhR (40 ::m) n b ⟨op,num,ks⟩ l2 n1 q2:=by
 intro e0 rest hb h1 h2 h3 h4
 obtain ⟨todo,g1,g2,g3,g4,g5,g6,g7⟩:=h e0 rest h1 h2 h3 h4
 rcases hx with ⟨hx,hq⟩|⟨hx1,hx2⟩|hx
 ·cases todo with
  | nil=>
   rw [showL_nil] at g5
   rw [List.append_nil] at g3
   rw [hx] at g5
   refine ⟨?_,by rw [hq];exact g4,(List.cons.inj g5).2,by rw [nodesE_eq,g3];omega⟩
   rw [←g1,←g2,←g3]
   exact e0.eta
  | cons k r=>rw [showL_cons,hx] at g5;exact absurd (List.cons.inj g5).1 (by decide)
 ·cases todo with
  | nil=>rw [showL_nil] at g5;exact absurd g5 (hx1 rest)
  | cons k r=>rw [showL_cons] at g5;rw [g5] at hx2;exact absurd rfl hx2
 ·rw [hx] at g4;cases g4
end
end Go.Vc
namespace Go.Vc
open Go Go.Proofs Go.RowKit
section
variable {u v w:World} {l m:List UInt8} {a:Addr} {L I J K:Items} {n:Int} {b:Bool}
def RXP (k:Nat):Prop:=∀ {u w:World} {l m:List UInt8} {a:Addr} {L:Items} {n:Int} {b:Bool},m.length < k→l.length≤2000000→0≤n→n+m.length≤3000000→RSt u a L l m n b w→Trip Tryz.prog 63 #[.pointer (some (a.add 0))] w (RX u a L l m n b)
def KidsL (a_0:Addr) (op num:Int) (x0:Sl) (w0:World) (Q:Value→World→Prop):Prop:=
 ∃ I60:Sl→World→Prop,∃ m61:Sl→World→Nat,I60 x0 w0∧
 ∀ x62:Sl,∀ w63:World,I60 x62 w63→
 ∃ q64:Bool,w63.cell? (a_0.add 3)=some (.bool q64)∧
 ∃ n65:Int,((!q64)=true→
  (Trip Tryz.prog 43 #[.pointer (some (a_0.add 0))] w63 fun r66 w67=>r66=.int .i64 n65∧Sub w63 w67))∧
 (((!q64) && (decide (n65=32)))=true→
  ∃ n68:Int,w63.cell? (a_0.add 1)=some (.int .i64 n68)∧
  ∃ n69:Int,Wr .i64 (n68+1) n69∧
  StoreAt w63 a_0 1 [.int .i64 n69] fun w70=>
   Trip Tryz.prog 63 #[.pointer (some (a_0.add 0))] w70 fun r71 w72=>
    ∃ n73:Int,∃ n74:Int,∃ x75:Sl,r71=.agg #[.int .i64 n73,.int .i64 n74,x75.val]∧
    StepT Tryz.prog (Instr.buildSlice 40 1 #[(0,(.agg #[.int .i64 n73,.int .i64 n74,x75.val]))]) w72 fun r76 w77=>
     ∃ x78:Sl,r76=x78.val∧
     StepT Tryz.prog (Builtin.append_ #[40,40] 40 #[(x62.val),(x78.val)]) w77 fun r79 w80=>
      ∃ x81:Sl,r79=x81.val∧
      ((.num .i64 0:SV)=.num .i64 0)∧
      ((.num .i64 0:SV)=.num .i64 0)∧
      ((.sl (Sl.mk none 0 0):SV)=.sl (Sl.mk none 0 0))∧
      I60 x81 w80∧
      m61 x81 w80 < m61 x62 w63)∧
 (((!q64) && (decide (n65=32)))=false→
  Trip Tryz.prog 86 #[.pointer (some (a_0.add 0)),.string (ByteArray.mk #[41])] w63 fun r82 w83=>
   r82=.tuple #[]∧
   Q (.agg #[.int .i64 op,.int .i64 num,x62.val]) w83)
theorem RSt.cellB (h:RSt u a L l m n b w):w.cell? (a.add 3)=some (.bool b):=by
 obtain ⟨I,pre,_,hC,hS⟩:=h
 exact hC.load hS rfl
theorem kids_go {k:Nat} (ih:RXP k) {op num n0:Int} {w0:World} {x0:Sl} {J0:Items} {m0:List UInt8} {b0:Bool} (hk:m.length < k) (hl:l.length≤2000000) (h0:0≤n) (hn:n+m.length≤2999999) (i1:InI op) (i2:InI num) (hb:b0=false→b=false)
  (hO0:OwnD x0 ([]:List ExprD) J0) (hR0:RSt u a (J0++L) l m0 n0 b0 w0) (hpre:∃ pre,m=pre++m0) (e0:n0=n+1) (hn30:b=false→n+1≤30) (hG0:b=false→GhK m n op num [] b0 m0 (n+1)):
  KidsL a op num x0 w0 (RX u a L l (40 ::m) n b):=by
 unfold KidsL
 subst e0
 have hml:∀ {t:List UInt8},(∃ pre,m=pre++t)→t.length≤m.length:=by
  rintro t ⟨pre,rfl⟩
  rw [List.length_append];omega
 refine ⟨fun x w=>∃ (ks:List ExprD) (l1:List UInt8) (n1:Int) (q:Bool) (K:Items),OwnD x ks K∧RSt u a (K++L) l l1 n1 q w∧(∃ pre,m=pre++l1)∧n+1≤n1∧n1+l1.length≤n+1+m.length∧ks.length+l1.length≤m.length∧(q=false→b=false∧n1≤30∧n1=n+1+nodesL ks)∧(b=false→GhK m n op num ks q l1 n1),fun _ w=>l.length - atR w a,?_,?_⟩
 ·have:=hml hpre
  exact ⟨[],m0,n+1,b0,J0,hO0,hR0,hpre,by omega,by omega,by simpa using this,fun hq=>⟨hb hq,hn30 (hb hq),by rw [nodesL_nil];omega⟩,hG0⟩
 rintro x w ⟨ks,l1,n1,q,K,hO,hR,hpre1,hn1,hb1,hkl,hq,hG⟩
 dsimp only
 have hN:=c_nextS hR hl
 have hl1:=hml hpre1
 refine ⟨_,hR.cellB,_,fun _=>hN,fun hc=>?_,fun hc=>?_⟩
 ·simp only [bls] at hc
  obtain ⟨hq0,h32⟩:=hc
  obtain ⟨l2,rfl⟩:=hd_32 h32
  have hat:=hR.at_
  obtain ⟨I,pre2,hlm2,hC,hS⟩:=hR
  have hlen:l.length=pre2.length+(32 ::l2).length:=by rw [hlm2,List.length_append]
  simp only [List.length_cons] at hlen hb1 hkl hl1
  refine ⟨_,hC.load hS rfl,?_⟩
  refine go_wr (by omega) (by omega) ?_
  refine hC.store hS (by simp) fun w' I' hC' hS'=>?_
  have hR':RSt u a (K++L) l l2 n1 q w':=⟨I',pre2++[32],by rw [hlm2];simp,by rw [List.length_append,List.length_singleton];exact hC',hS'⟩
  refine (ih (by omega) hl (by omega) (by omega) hR').mono' ?_
  rintro _ w6 ⟨e,x2,l3,n3,q3,J,rfl,hO2,j1,j2,hP6,⟨pre3,hpre3⟩,hn3,hb3,hq3,hG3⟩
  refine ⟨_,_,x2,rfl,?_⟩
  obtain ⟨I6,pre6,hlm6,hC6,hS6⟩:=hP6
  have hl3:l3.length≤l2.length:=by rw [hpre3,List.length_append];omega
  have hbig:ks.length+1≤1099511627776:=by omega
  refine OwnD.add (a:=e) (J:=J) (R:=I6++L) hO (hS6.perm (by
   classical
   exact List.perm_iff_count.2 fun a=>by simp only [List.count_append];omega)) rfl (expr_own.2 ⟨x2,rfl,j1,j2,hO2⟩) (by decide) hbig (by decide) ?_
  intro x7 w7 K7 hO7 hS7
  have hP7:RSt u a (K7++L) l l3 n3 q3 w7:=⟨I6,pre6,hlm6,hC6,hS7.perm (by
   classical
   exact List.perm_iff_count.2 fun a=>by simp only [List.count_append];omega)⟩
  obtain ⟨pre1,hpre1⟩:=hpre1
  refine ⟨rfl,rfl,rfl,⟨ks++[e],l3,n3,q3,K7,hO7,hP7,⟨pre1++(32 ::pre3),by rw [hpre1,hpre3];simp⟩,by omega,by omega,?_,?_,?_⟩,?_⟩
  ·simp only [List.length_append,List.length_cons,List.length_nil];omega
  ·intro hq3f
   obtain ⟨k1,k2,k3⟩:=hq3 hq3f
   obtain ⟨g1,g2,g3⟩:=hq k1
   exact ⟨g1,k2,by rw [nodesL_app,nodesL_cons,nodesL_nil];omega⟩
  ·intro hbf
   exact ghk_step (hG hbf) hG3
  ·rw [hP7.at_,hat,List.length_cons];omega
 ·simp only [bls] at hc
  rw [str_eq (l:=[41]) rfl]
  refine (c_skipS [41] hR hl (by decide)).mono' ?_
  rintro _ w6 ⟨rfl,hcase⟩
  refine ⟨rfl,?_⟩
  obtain ⟨pre1,hpre1⟩:=hpre1
  rcases hcase with ⟨l2,hl2,hR6⟩|⟨hne,hR6⟩
  ·simp only [List.singleton_append] at hl2
   have hl2':l1.length=l2.length+1:=by rw [hl2];rfl
   refine ⟨⟨op,num,ks⟩,x,l2,n1,q,K,rfl,hO,i1,i2,hR6,⟨40 ::(pre1++[41]),by rw [hpre1,hl2];simp⟩,by omega,by simp only [List.length_cons];omega,fun hqf=>?_,?_⟩
   ·obtain ⟨g1,g2,g3⟩:=hq hqf
    exact ⟨g1,g2,by rw [nodesE_eq];show _=n+((1+nodesL ks:Nat):Int);omega⟩
   ·intro e0 rest hbf
    exact ghk_end (b:=b) (hG hbf) (.inl ⟨hl2,rfl⟩) e0 rest hbf
  ·refine ⟨⟨op,num,ks⟩,x,l1,n1,true,K,rfl,hO,i1,i2,hR6,⟨40 ::pre1,by rw [hpre1];simp⟩,by omega,by simp only [List.length_cons];omega,(fun h=>by cases h),?_⟩
   intro e0 rest hbf
   refine ghk_end (b:=b) (hG hbf) (.inr ?_) e0 rest hbf
   rcases hc with hc|hc
   ·exact .inr hc
   ·exact .inl ⟨fun m'=>hne m',hc⟩
theorem empty_kids {R:Items} {w:World} {K:Sl→World→Prop} (hS:St u w R) (k:∀ x w' J,St u w' (J++R)→Sub w w'→OwnD x ([]:List ExprD) J→K x w'):StepT Tryz.prog (Instr.buildSlice 40 0 #[]) w fun r w'=>∃ x,r=x.val∧K x w':=
 St.build (α:=ExprD) (l:=[]) hS VsOf.nil rfl (by decide) fun x w' J hO hS hs=>⟨x,rfl,k x w' J hS hs hO.emptyD⟩
theorem c_rexpr:∀ k:Nat,RXP k:=by
 intro k
 induction k with
 | zero=>intro u w l m a L n b hk;omega
 | succ k ih=>
 intro u w l m a L n b hk hl h0 h1 h
 refine of63 _ _ _ ?_
 unfold vc63
 have hmle:m.length≤l.length:=by obtain ⟨I,pre,hlm,_⟩:=h;rw [hlm,List.length_append];omega
 obtain ⟨I,pre,hlm,hC,hS⟩:=h
 have hlen:l.length=pre.length+m.length:=by rw [hlm,List.length_append]
 refine ⟨_,hC.load hS rfl,?_⟩
 refine go_wr (by omega) (by omega) ?_
 refine hC.store hS (by simp) fun w1 I1 (hC1:Cel a [.string (str l),.int .i64 (pre.length:Int),.int .i64 (n+1),.bool b] I1) hS1=>?_
 have hR1:RSt u a L l m (n+1) b w1:=⟨I1,pre,hlm,hC1,hS1⟩
 refine ⟨_,hR1.cellB,_,fun _=>hC1.load hS1 rfl,fun hc=>?_,fun hc=>?_⟩
 ·refine hC1.store hS1 (by simp) fun w2 I2 hC2 hS2=>?_
  refine ⟨⟨0,0,[]⟩,⟨none,0,0⟩,m,n+1,true,[],rfl,OwnD.nil,zero_in,zero_in,⟨I2,pre,hlm,hC2,hS2⟩,⟨[],rfl⟩,by omega,by omega,(fun h=>by cases h),?_⟩
  intro e0 rest hbf _ _ _ h4
  subst hbf
  simp only [bls] at hc
  have:=nodes_pos e0
  omega
 ·simp only [bls] at hc
  obtain ⟨hbf,hn30⟩:=hc
  subst hbf
  have hN:=c_nextS hR1 hl
  refine ⟨_,hN,fun h118=>?_,fun h118=>⟨_,hN,fun h45=>?_,fun h45=>⟨_,hN,fun h40=>?_,fun h40=>?_⟩⟩⟩
  ·simp only [bls] at h118
   obtain ⟨t,rfl⟩:=hd_118 h118
   simp only [List.length_cons] at hlen hk h1 hmle
   refine ⟨_,hC1.load hS1 rfl,?_⟩
   refine go_wr (by omega) (by omega) ?_
   refine hC1.store hS1 (by simp) fun w2 I2 hC2 hS2=>?_
   have hR2:RSt u a L l t (n+1) false w2:=⟨I2,pre++[118],by rw [hlm];simp,by rw [List.length_append,List.length_singleton];exact hC2,hS2⟩
   refine (c_digits hR2 hl).mono' ?_
   rintro _ w3 ⟨kk,m',b',rfl,k0,k1,hR3,⟨d,hd⟩,hb',hG⟩
   refine ⟨_,rfl,?_⟩
   obtain ⟨I3,pre3,hlm3,hC3,hS3⟩:=hR3
   refine empty_kids hS3 fun x w4 J hS4 _ hO=>?_
   have hdl:t.length=d.length+m'.length:=by rw [hd,List.length_append]
   refine ⟨⟨12,kk,[]⟩,x,m',n+1,b',J,rfl,hO,(show InI 12 from ⟨by decide,by decide⟩),⟨by show _≤kk;omega,by show kk≤_;omega⟩,⟨I3,pre3,hlm3,hC3,hS4.perm (by
    classical
    exact List.perm_iff_count.2 fun a=>by simp only [List.count_append];omega)⟩,⟨118 ::d,by rw [hd];rfl⟩,by omega,by simp only [List.length_cons];omega,fun hf=>⟨rfl,by omega,by rw [nodes_leaf rfl];rfl⟩,ghr_var hG⟩
  ·simp only [bls] at h45
   obtain ⟨t,rfl⟩:=hd_45 h45
   simp only [List.length_cons] at hlen hk h1 hmle
   refine ⟨_,hC1.load hS1 rfl,?_⟩
   refine go_wr (by omega) (by omega) ?_
   refine hC1.store hS1 (by simp) fun w2 I2 hC2 hS2=>?_
   have hR2:RSt u a L l t (n+1) false w2:=⟨I2,pre++[45],by rw [hlm];simp,by rw [List.length_append,List.length_singleton];exact hC2,hS2⟩
   refine (c_digits hR2 hl).mono' ?_
   rintro _ w3 ⟨kk,m',b',rfl,k0,k1,hR3,⟨d,hd⟩,hb',hG⟩
   refine ⟨_,rfl,?_⟩
   refine go_wr (by omega) (by omega) ?_
   obtain ⟨I3,pre3,hlm3,hC3,hS3⟩:=hR3
   refine empty_kids hS3 fun x w4 J hS4 _ hO=>?_
   have hdl:t.length=d.length+m'.length:=by rw [hd,List.length_append]
   refine ⟨⟨0,0 - kk,[]⟩,x,m',n+1,b',J,rfl,hO,zero_in,⟨by show _≤0 - kk;omega,by show 0 - kk≤_;omega⟩,⟨I3,pre3,hlm3,hC3,hS4.perm (by
    classical
    exact List.perm_iff_count.2 fun a=>by simp only [List.count_append];omega)⟩,⟨45 ::d,by rw [hd];rfl⟩,by omega,by simp only [List.length_cons];omega,fun hf=>⟨rfl,by omega,by rw [nodes_leaf rfl];rfl⟩,ghr_neg hG⟩
  ·simp only [bls] at h118 h45 h40
   refine (c_digits hR1 hl).mono' ?_
   rintro _ w3 ⟨kk,m',b',rfl,k0,k1,hR3,⟨d,hd⟩,hb',hG⟩
   refine ⟨_,rfl,?_⟩
   obtain ⟨I3,pre3,hlm3,hC3,hS3⟩:=hR3
   refine empty_kids hS3 fun x w4 J hS4 _ hO=>?_
   have hdl:m.length=d.length+m'.length:=by rw [hd,List.length_append]
   refine ⟨⟨0,kk,[]⟩,x,m',n+1,b',J,rfl,hO,zero_in,⟨by show _≤kk;omega,by show kk≤_;omega⟩,⟨I3,pre3,hlm3,hC3,hS4.perm (by
    classical
    exact List.perm_iff_count.2 fun a=>by simp only [List.count_append];omega)⟩,⟨d,hd⟩,by omega,by omega,fun hf=>⟨rfl,by omega,by rw [nodes_leaf rfl];rfl⟩,ghr_int h118 h45 h40 hG⟩
  ·simp only [bls] at h40
   obtain ⟨t,rfl⟩:=hd_40 h40
   simp only [List.length_cons] at hlen hk h1 hmle
   refine ⟨_,hC1.load hS1 rfl,?_⟩
   refine go_wr (by omega) (by omega) ?_
   refine hC1.store hS1 (by simp) fun w2 I2 hC2 hS2=>?_
   have hR2:RSt u a L l t (n+1) false w2:=⟨I2,pre++[40],by rw [hlm];simp,by rw [List.length_append,List.length_singleton];exact hC2,hS2⟩
   refine (c_wordS hR2 hl).mono' ?_
   rintro _ w3 ⟨rfl,hR3⟩
   obtain ⟨op,hF,hop⟩:=c_opOf (v:=w3) (t.takeWhile lowP)
   have hdp:t=t.takeWhile lowP++t.dropWhile lowP:=List.takeWhile_append_dropWhile.symm
   have hdl:t.length=(t.takeWhile lowP).length+(t.dropWhile lowP).length:=by rw [←List.length_append,List.takeWhile_append_dropWhile]
   refine ⟨_,rfl,op,hF,fun hneg=>?_,fun hneg=>?_⟩
   ·simp only [bls] at hneg
    obtain ⟨I3,pre3,hlm3,hC3,hS3⟩:=hR3
    refine hC3.store hS3 (by simp) fun w4 I4 hC4 hS4=>?_
    refine ⟨⟨0,0,[]⟩,⟨none,0,0⟩,t.dropWhile lowP,n+1,true,[],rfl,OwnD.nil,zero_in,zero_in,⟨I4,pre3,hlm3,hC4,hS4⟩,⟨40 ::t.takeWhile lowP,by rw [List.cons_append,List.takeWhile_append_dropWhile]⟩,by omega,by simp only [List.length_cons];omega,(fun h=>by cases h),?_⟩
    intro e0 rest _ g1 g2 g3 g4
    obtain ⟨k1,k2,k3,_,_,k6,_⟩:=ghk_word g1 g2
    have:=op_word hop k1 k2 k3 k6
    omega
   ·simp only [bls] at hneg
    have i1:InI op:=⟨by omega,by rcases hop with ⟨e,_⟩|⟨_,e,_⟩<;>omega⟩
    refine ⟨_,c_numbered,fun hq=>?_,fun hq=>?_⟩
    ·refine (c_digits hR3 hl).mono' ?_
     rintro _ w4 ⟨kk,m',b',rfl,k0,k1,hR4,⟨d,hd⟩,hb',hG⟩
     refine ⟨_,rfl,?_⟩
     obtain ⟨I4,pre4,hlm4,hC4,hS4⟩:=hR4
     refine empty_kids hS4 fun x w5 J hS5 _ hO=>?_
     exact kids_go (b:=false) ih (by omega) hl h0 (by omega) i1 ⟨by omega,by omega⟩ (fun _=>rfl) hO ⟨I4,pre4,hlm4,hC4,hS5.perm (by
      classical
      exact List.perm_iff_count.2 fun a=>by simp only [List.count_append];omega)⟩ ⟨t.takeWhile lowP++d,by rw [List.append_assoc,←hd,List.takeWhile_append_dropWhile]⟩ rfl (fun _=>by omega) (fun _=>ghk_start1 rfl hop hq hG)
    ·obtain ⟨I4,pre4,hlm4,hC4,hS4⟩:=hR3
     refine empty_kids hS4 fun x w5 J hS5 _ hO=>?_
     exact kids_go (b:=false) ih (by omega) hl h0 (by omega) i1 zero_in (fun _=>rfl) hO ⟨I4,pre4,hlm4,hC4,hS5.perm (by
      classical
      exact List.perm_iff_count.2 fun a=>by simp only [List.count_append];omega)⟩ ⟨t.takeWhile lowP,by rw [List.takeWhile_append_dropWhile]⟩ rfl (fun _=>by omega) (fun _=>ghk_start0 rfl hop hq)
end
end Go.Vc
