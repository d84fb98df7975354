/- Part of the proofs about the heaps and memories: a law is joined in the text whose name ends in W and the law. -/
import Derived.Test.YtlcegaeioheikaaGreatEE4
import Derived.Test.YtlcegaeioheikaaGreatEG
import Derived.Test.YtlcegaeioheikaaGreatEH1
import Derived.Lib.ItoaNum
set_option linter.all false
namespace Go.Vc
open Go Go.Proofs Go.RowKit
instance:SlT Tryz.prog 28 1 8 [intV 0]:=.of (by kernel_rfl) rfl (by decide)
def Rdr (u:World) (a:Addr) (m:Int) (I:Items):Prop:=
 ∃ (b:Sl) (bs:List UInt8) (p:Int),Cel a [b.val,iV p] I∧Read u b bs∧bs.length≤2000∧0≤p∧p≤m
theorem Rdr.mono {u u':World} {a:Addr} {m:Int} {I:Items} (h:Rdr u a m I) (hs:Sub u u'):Rdr u' a m I:=
 let ⟨b,bs,p,h1,h2,h3⟩:=h;⟨b,bs,p,h1,h2.mono hs,h3⟩
theorem Rdr.le {u:World} {a:Addr} {m m':Int} {I:Items} (h:Rdr u a m I) (hm:m≤m'):Rdr u a m' I:=
 let ⟨b,bs,p,h1,h2,h3,h4,h5⟩:=h;⟨b,bs,p,h1,h2,h3,h4,by omega⟩
theorem c_pick {u w:World} {a:Addr} {m n:Int} {I L R:Items} {F:Items→Items} (hr:Rdr u a m I) (hS:St u w L) [p:Pos I L R F] (hm:m≤1000000000) (hn1:-1000000000000≤n) (hn:n≤1000000000000):
  Trip Tryz.prog 27 #[(pt a),iV n] w fun r w'=>∃ k I',r=iV k∧Rdr u a (m+1) I'∧St u w' (I'++R)∧0≤k∧(1≤n→k < n)∧(n < 1→k=0):=by
 replace hS:=hS.front (I:=I)
 obtain ⟨b,bs,q,hC,hB,hbs,hq0,hq1⟩:=hr
 refine of27 _ _ _ _ ?_
 unfold vc27
 have hbn:=hB.n
 have fin:∀ (w1:World) (I1:Items) (k:Int),Cel a [b.val,iV (q+1)] I1→St u w1 (I1++R)→0≤k→(1≤n→k < n)→(n < 1→k=0)→
   ∃ k' I',Value.int .i64 k=iV k'∧Rdr u a (m+1) I'∧St u w1 (I'++R)∧0≤k'∧(1≤n→k' < n)∧(n < 1→k'=0):=
  fun w1 I1 k h1 h2 h3 h4 h5=>⟨k,I1,rfl,⟨b,bs,q+1,h1,hB,hbs,by omega,by omega⟩,h2,h3,h4,h5⟩
 have tm:∀ x y:Int,0≤x→0 < y→0≤x.tmod y∧x.tmod y < y:=fun x y h1 h2=>⟨Int.tmod_nonneg _ h1,Int.tmod_lt_of_pos _ h2⟩
 have td:∀ x y:Int,0≤x→0 < y→0≤x.tdiv y∧x.tdiv y≤x:=fun x y h1 h2=>⟨Int.tdiv_nonneg h1 (by omega),Int.tdiv_le_self _ h1⟩
 repeat' first|(intro hc;simp only [bls] at hc)|(refine go_wr (by omega) (by omega) ?_)|(refine go_ix (by assumption) (by omega) (by omega) ?_)|(refine ld_int (by first|exact ReadB.mono (by assumption) hS.sub|exact Own.read (by assumption) hS|assumption) (by omega) (by omega) ?_;intro hlo hhi)|(refine ld_byte (by first|exact ReadB.mono (by assumption) hS.sub|exact Own.read (by assumption) hS|assumption) (by omega) (by omega) ?_;intro hlo hhi)|(refine ⟨_,Cel.load (by assumption) hS rfl,?_⟩)|(refine ⟨_,fun _=>Cel.load (by assumption) hS rfl,?_⟩)|(refine Cel.store (by assumption) hS (by simp) ?_;intro w1 I1 hC hS;simp [putR] at hC)|(with_reducible refine And.intro ?_ ?_)|omega|exact hS.sub
 ·have t0:=tm 0 1 (by omega) (by omega)
  rcases hc with hc|hc
  ·exact fin _ _ 0 hC hS (by omega) (by omega) (by omega)
  ·exact fin _ _ 0 hC hS (by omega) (by omega) (by omega)
 ·exact fin _ _ _ hC hS (tm _ n (by omega) (by omega)).1 (fun _=>(tm _ n (by omega) (by omega)).2) (by omega)
 ·exact hB.ix (tm _ _ (by omega) (by omega)).1 (by have:=(tm (q+1 - 1) b.n (by omega) (by omega)).2;omega)
 ·have t0:=tm (q+1 - 1) b.n (by omega) (by omega)
  have t1:=tm ((q+1 - 1) * 7+3) b.n (by omega) (by omega)
  have t2:=td (q+1 - 1) b.n (by omega) (by omega)
  refine ld_byte (hB.mono hS.sub) t0.1 (by omega) ?_
  intro b0 b1
  refine go_wr (by omega) (by omega) ?_
  refine go_wr (by omega) (by omega) ?_
  refine ⟨_,Cel.load hC hS rfl,?_⟩
  refine go_wr (by omega) (by omega) ?_
  refine go_wr (by omega) (by omega) ?_
  refine ⟨_,Cel.load hC hS rfl,by omega,hB.ix t1.1 (by omega),?_⟩
  refine ld_byte (hB.mono hS.sub) t1.1 (by omega) ?_
  intro b2 b3
  repeat' first|(intro hc;simp only [bls] at hc)|(refine go_wr (by omega) (by omega) ?_)|(refine go_ix (by assumption) (by omega) (by omega) ?_)|(refine ld_int (by first|exact ReadB.mono (by assumption) hS.sub|exact Own.read (by assumption) hS|assumption) (by omega) (by omega) ?_;intro hlo hhi)|(refine ld_byte (by first|exact ReadB.mono (by assumption) hS.sub|exact Own.read (by assumption) hS|assumption) (by omega) (by omega) ?_;intro hlo hhi)|(refine ⟨_,Cel.load (by assumption) hS rfl,?_⟩)|(refine ⟨_,fun _=>Cel.load (by assumption) hS rfl,?_⟩)|(refine Cel.store (by assumption) hS (by simp) ?_;intro w1 I1 hC hS;simp [putR] at hC)|(with_reducible refine And.intro ?_ ?_)|omega|exact hS.sub
  ·refine go_quo (by omega) (by omega) (by omega) ?_
   have t3:=td (↑(nth bs ((q+1 - 1).tmod ↑b.n)).toNat * 131+↑(nth bs (((q+1 - 1) * 7+3).tmod ↑b.n)).toNat * 1117+(q+1 - 1) * 29+(q+1 - 1).tdiv ↑b.n * 53) 64 (by omega) (by omega)
   refine go_wr (by omega) (by omega) ?_
   refine go_wr (by omega) (by omega) ?_
   refine go_quo (by omega) (by omega) (by omega) ?_
   refine go_xor (by omega) (by omega) (by omega) (by omega) ?_
   intro r hr0 hr1
   exact ⟨by omega,fin _ _ _ hC hS (tm _ n (by omega) (by omega)).1 (fun _=>(tm _ n (by omega) (by omega)).2) (by omega)⟩
section
variable {v w:World} {x y:Sl} {l:List Int} {n:Int} {a:Addr}
theorem c_specIsIn (hx:Read v x l):Fn Tryz.prog 91 #[x.val,iV n] v (.bool (decide (n∈l))):=by
 refine of91 _ _ _ _ ?_
 unfold vc91
 have hn:=hx.n
 have hl:=hx.le
 refine ⟨fun i w=>St v w []∧0≤i∧i≤l.length∧n∉l.take i.toNat,fun i _=>(l.length - i).toNat,⟨.refl v,by omega,by omega,by simp⟩,?_⟩
 rintro i w ⟨hS,h0,h1,h2⟩
 dsimp only
 repeat' first|(intro hc;simp only [bls] at hc)|(refine go_wr (by omega) (by omega) ?_)|(refine go_ix (by assumption) (by omega) (by omega) ?_)|(refine ld_int (by first|exact ReadB.mono (by assumption) hS.sub|exact Own.read (by assumption) hS|assumption) (by omega) (by omega) ?_;intro hlo hhi)|(refine ld_byte (by first|exact ReadB.mono (by assumption) hS.sub|exact Own.read (by assumption) hS|assumption) (by omega) (by omega) ?_;intro hlo hhi)|(refine ⟨_,Cel.load (by assumption) hS rfl,?_⟩)|(refine ⟨_,fun _=>Cel.load (by assumption) hS rfl,?_⟩)|(refine Cel.store (by assumption) hS (by simp) ?_;intro w1 I1 hC hS;simp [putR] at hC)|(with_reducible refine And.intro ?_ ?_)|omega|exact hS.sub
 ·exact val_true (hc ▸ nth_mem h0 (by omega))
 ·rw [take_nth h0 (by omega)];simp only [List.mem_append,List.mem_singleton,not_or];exact ⟨h2,fun e=>hc e.symm⟩
 ·rw [take_all (by omega)] at h2;exact val_false h2
theorem c_copyInts (hx:Read v x l):Mk Tryz.prog 50 #[x.val] v fun r J=>∃ y,r=y.val∧Own v y l J:=by
 refine of50 _ _ _ ?_
 unfold vc50
 have hS:=St.refl v
 have hl:=hx.le
 refine St.build (α:=Int) hS (by (repeat' (first|exact VsOf.nil|apply VsOf.cons|(apply VOf.int;first|assumption|(constructor<;>first|omega|(simp only [lz] at *;omega)))|exact VOf.bool|exact VOf.str))) rfl (by decide) ?_
 intro x1 w1 I1 hO hS hs
 refine ⟨_,rfl,?_⟩
 refine Own.append hO hS (hx.src hS.sub) (by simp;omega) (by decide) ?_
 intro x2 w2 I2 hO hS
 exact ⟨_,rfl,I2,by simpa using hS,_,rfl,by simpa using hO⟩
theorem c_inRange {a b:Int}:Fn Tryz.prog 36 #[iV n,iV a,iV b] v (.bool (decide (a≤n) && decide (n≤b))):=by
 refine of36 _ _ _ _ _ ?_
 unfold vc36
 exact ⟨rfl,.refl v⟩
end
section
variable {u v w:World} {x y:Sl} {l m:List Int} {h:List CellD} {n k:Int} {a:Addr} {I J L R:Items} {F:Items→Items}
theorem c_newReader {code:List UInt8} (hx:Read v x code):Mk Tryz.prog 17 #[x.val] v fun r J=>∃ a,r=(pt a)∧Rdr v a 0 J:=by
 refine of17 _ _ _ ?_
 unfold vc17
 have hn:=hx.n
 refine ⟨fun hc=>⟨?_,?_⟩,fun hc=>?_⟩
 ·simp only [bls] at hc
  obtain ⟨_,h,_⟩:=hx
  have:=h.2.1
  exact ⟨by omega,by omega,by omega⟩
 ·simp only [bls] at hc
  refine St.box (vals:=[(x.cut 0 2000 1).val,iV 0]) (.refl v) fun a w I hC hS hs=>?_
  have:=hx.cut (lo:=0) (hi:=2000) (by omega) (by omega) (by omega)
  exact ⟨I,by simpa using hS,a,rfl,_,_,0,hC,this,by simp;omega,by omega,by omega⟩
 ·simp only [bls] at hc
  refine St.box (vals:=[x.val,iV 0]) (.refl v) fun a w I hC hS hs=>?_
  exact ⟨I,by simpa using hS,a,rfl,_,_,0,hC,hx,by omega,by omega,by omega⟩
theorem c_one {m:Int} {l:List Int} (hr:Rdr u a m I) (hO:Own u x l J) (hS:St u w (J++L)) [p:Pos I L R F] (hm:m≤1000000000) (hl:0 < l.length) (hl2:l.length≤1000000):
  Trip Tryz.prog 20 #[(pt a),x.val] w fun r w'=>∃ k I',r=iV k∧Rdr u a (m+1) I'∧St u w' (I'++R)∧k∈l:=by
 refine of20 _ _ _ _ ?_
 unfold vc20
 have hn:=hO.n
 refine Trip.mono' (c_pick (n:=x.n) hr hS hm (by omega) (by omega)) ?_
 rintro _ w1 ⟨k,I1,rfl,hR,hS,hk0,hk1,hk2⟩
 refine ⟨_,rfl,?_⟩
 refine go_oix hO hk0 (by omega) ?_
 refine ld_int (Own.read hO hS) hk0 (by omega) ?_
 intro b0 b1
 exact ⟨_,I1,rfl,hR,hS.to,nth_mem hk0 (by omega)⟩
theorem c_spoilInts {m:Int} {l:List Int} (hr:Rdr u a m I) (hx:Read w x l) (hS:St u w L) [p:Pos I L R F] (hm:m≤999999990) (hl:l.length≤1000000):
  Trip Tryz.prog 38 #[(pt a),x.val] w fun r w'=>∃ y,∃ (l':List Int),∃ J I',r=y.val∧Own u y l' J∧Rdr u a (m+3) I'∧St u w' (J++(I'++R))∧l'.length≤l.length+1:=by
 replace hS:=hS.front (I:=I)
 refine of38 _ _ _ _ ?_
 unfold vc38
 refine Mk.usew (c_copyInts hx) hS ?_
 rintro _ w1 J1 ⟨y,rfl,hO⟩ hS hsub
 replace hO:Own u y l J1:=hO.ofInts
 have hn:=hO.n
 refine ⟨_,rfl,?_⟩
 have tail:∀ (w:World) (I:Items) (m':Int),Rdr u a m' I→St u w (I++(J1++R))→m'≤m+1→
  StepT Tryz.prog (Instr.buildSlice 28 5 #[(0,iV 0),(1,iV 1),(2,iV 2),(3,iV (-1)),(4,iV 1000)]) w fun r17 w18=>
   ∃ x19:Sl,r17=x19.val∧Trip Tryz.prog 20 #[(pt a),x19.val] w18 fun r20 w21=>
    ∃ n22:Int,r20=iV n22∧StepT Tryz.prog (Instr.buildSlice 28 1 #[(0,iV n22)]) w21 fun r23 w24=>
     ∃ x25:Sl,r23=x25.val∧StepT Tryz.prog (Builtin.append_ #[28,28] 28 #[y.val,x25.val]) w24 fun r26 w27=>
      ∃ x28:Sl,r26=x28.val∧∃ y,∃ (l':List Int),∃ J I',x28.val=y.val∧Own u y l' J∧Rdr u a (m+3) I'∧St u w27 (J++(I'++R))∧l'.length≤l.length+1:=by
  intro w I m' hR hS hm'
  refine St.build (α:=Int) hS (by (repeat' (first|exact VsOf.nil|apply VsOf.cons|(apply VOf.int;first|assumption|(constructor<;>first|omega|(simp only [lz] at *;omega)))|exact VOf.bool|exact VOf.str))) rfl (by decide) ?_
  intro x1 w1 I1 hO1 hS hs
  refine ⟨_,rfl,?_⟩
  refine Trip.mono' (c_one hR hO1 hS (by omega) (by simp) (by simp)) ?_
  rintro _ w2 ⟨k,I2,rfl,hR,hS,hk⟩
  refine ⟨_,rfl,?_⟩
  have hki:InI k:=by simp only [List.mem_cons,List.not_mem_nil,or_false] at hk;omega
  refine St.build (α:=Int) hS (by (repeat' (first|exact VsOf.nil|apply VsOf.cons|(apply VOf.int;first|assumption|(constructor<;>first|omega|(simp only [lz] at *;omega)))|exact VOf.bool|exact VOf.str))) rfl (by decide) ?_
  intro x3 w3 I3 hO3 hS hs
  refine ⟨_,rfl,?_⟩
  refine Own.append hO hS (hO3.src hS) (by simp;omega) (by decide) ?_
  intro x4 w4 I4 hO4 hS
  exact ⟨_,rfl,_,_,I4,I2,rfl,hO4,hR.le (by omega),hS.to,by simp⟩
 refine ⟨fun hc=>?_,fun hc=>tail _ _ _ hr hS.to (by omega)⟩
 simp only [bls] at hc
 refine Trip.mono' (c_pick (n:=2) hr hS (by omega) (by omega) (by omega)) ?_
 rintro _ w2 ⟨k,I2,rfl,hR,hS,hk0,hk1,hk2⟩
 refine ⟨_,rfl,fun hc=>?_,fun hc=>tail _ _ _ hR hS.to (by omega)⟩
 refine Trip.mono' (c_pick (n:=y.n) hR hS (by omega) (by omega) (by omega)) ?_
 rintro _ w3 ⟨k3,I3,rfl,hR,hS,hk0,hk1,hk2⟩
 refine ⟨_,rfl,?_⟩
 refine St.build (α:=Int) hS (by (repeat' (first|exact VsOf.nil|apply VsOf.cons|(apply VOf.int;first|assumption|(constructor<;>first|omega|(simp only [lz] at *;omega)))|exact VOf.bool|exact VOf.str))) rfl (by decide) ?_
 intro x4 w4 I4 hO4 hS hs
 refine ⟨_,rfl,?_⟩
 refine Trip.mono' (c_one hR hO4 hS (by omega) (by simp) (by simp)) ?_
 rintro _ w5 ⟨k5,I5,rfl,hR,hS,hk⟩
 have hki:InI k5:=by simp only [List.mem_cons,List.not_mem_nil,or_false] at hk;omega
 refine ⟨_,rfl,?_⟩
 refine go_oix hO (by omega) (by omega) ?_
 refine st_int hO hS (by omega) (by omega) hki ?_
 intro w6 I6 hO6 hS
 exact ⟨_,_,I6,I5,rfl,hO6,hR.le (by omega),hS.to,by simp⟩
end
section

end
section

end
section

end
instance:DatO CellD where
 own cs c K:=∃ f:Sl,cs=[intV c.count,intV c.tag,f.val]∧InI c.count∧InI c.tag∧∀ u,Own u f c.fields K
 read:=fun ⟨f,h1,h2,h3,h4⟩ hA=>⟨f,h1,h2,h3,let ⟨rows,k1,k2,k3⟩:=h4 _;⟨rows,k1.rd hA,k2,k3⟩⟩
theorem Own.toAll {u:World} {x:Sl} {l:List Int} {I:Items} (h:Own u x l I):∀ u,Own u x l I:=fun _=>h.ofInts
section

end
section

end
section

end
section

end
def GA (h:List CellD):Prop:=h.length≤100∧∀ c∈h,c.fields.length≤100
section

end
def LawTrue (P:Program) (f:FuncId):Prop:=∀ (W:World) (x:Sl) (bs:List UInt8),Bytes W x bs→Trip P f #[x.val] W fun r v'=>r=.bool true∧Sub W v'
theorem Bytes.read {W:World} {x:Sl} {bs:List UInt8} (h:Bytes W x bs) (hl:x.n≤1099511627776):Read W x bs:=by
 have hn:x.n=bs.length:=by have:=Rows.len h;simpa using this
 refine ⟨_,h,⟨by simp,fun i r a hr ha=>?_⟩,by show bs.length≤1099511627776;omega⟩
 simp only [List.getElem?_map] at hr
 rw [ha] at hr
 simp at hr
 exact hr.symm
section

end
section

end
section

end
section

end
section
variable {l:List Int}
theorem set_same {α:Type} [Inhabited α] {l:List α} {i:Int} (h0:0≤i) (h1:i < l.length):l.set i.toNat (nth l i)=l:=by
 refine List.ext_getElem? fun j=>?_
 rw [List.getElem?_set]
 split
 ·rename_i e
  subst e
  rw [if_pos (by omega),←nth_get h0 h1]
 ·rfl
end
section

end
section

end
section

end
abbrev BM:Nat:=9223372036854775807
section
variable {v:World} {x:Sl} {l:List Int}
theorem ReadB.toInts {B:Nat} {l:List Int} (hx:ReadB B v x l) (hl:l.length≤BB):Read v x l:=let ⟨rows,h1,h2,_⟩:=hx;⟨rows,h1,⟨h2.1,h2.2⟩,hl⟩
end
section

end
def marks (n:Int) (k:Nat):List Int:=(List.range k).map fun (i:Nat)=>n+(i:Int)
section

end
section

end
end Go.Vc
namespace Go.Vc
open Go Go.RowKit
structure ConD where
 fields:List Int
deriving DecidableEq
instance:Inhabited ConD:=⟨⟨[]⟩⟩
instance:Dat ConD where
 sz:=1
 cells B w cs c:=∃ f_fields:Sl,cs=[f_fields.val]∧ReadB B w f_fields c.fields
 mono:=fun hs ⟨f_fields,h0,r_fields⟩=>⟨f_fields,h0,r_fields.mono hs⟩
 len:=fun ⟨f_fields,h0,_⟩=>by rw [h0];rfl
 one:=fun ⟨f_fields,h0,_⟩ v hv=>by
  rw [h0] at hv;simp only [List.mem_cons,List.not_mem_nil,or_false] at hv
  rcases hv with rfl<;>rfl
instance:DatO ConD where
 own cs c K:=∃ f_fields:Sl,∃ K_fields:Items,cs=[f_fields.val]∧(∀ u,Own u f_fields c.fields K_fields)∧K=K_fields
 read:=by
  intro w cs c I h hA
  obtain ⟨f_fields,K_fields,h0,o_fields,rfl⟩:=h
  exact ⟨f_fields,h0,(let ⟨rows,k1,k2,k3⟩:=o_fields w;⟨rows,k1.rd fun p hp=>hA p (hp),k2,k3⟩)⟩
section
variable {u w:World} {x:Sl} {l:List ConD} {i:Int}
theorem Src.ofConD (hx:Src u w x l) (h0:0≤i) (h1:i < l.length):∃ f_fields:Sl,w.cell? ((elA x i 1).add 0)=some (f_fields.val)∧Read u f_fields (nth l i).fields:=by
 obtain ⟨r,⟨f_fields,rfl,r_fields⟩,h5⟩:=hx.row h0 h1
 exact ⟨f_fields,h5 0 _ rfl,r_fields⟩
theorem ld_con_fields (hx:Src u w x l) (h0:0≤i) (h1:i < l.length) {K:Sl→Prop} (k:∀ f,Read u f (nth l i).fields→K f):∃ f:Sl,w.cell? ((elA x i 1).add 0)=some f.val∧K f:=by
 obtain ⟨f_fields,e_fields,r_fields⟩:=hx.ofConD h0 h1
 exact ⟨f_fields,e_fields,k _ r_fields⟩
theorem ldg_con_fields {C:Prop} (hx:Src u w x l) (h0:C→0≤i∧i < l.length) {K:Sl→Prop} (k:∀ f,(C→Read u f (nth l i).fields)→K f):∃ f:Sl,(C→w.cell? ((elA x i 1).add 0)=some f.val)∧K f:=by
 rcases Classical.em C with hc|hc
 ·obtain ⟨f_fields,e_fields,r_fields⟩:=hx.ofConD (h0 hc).1 (h0 hc).2
  exact ⟨f_fields,fun _=>e_fields,k _ fun _=>r_fields⟩
 ·exact ⟨⟨none,0,0⟩,fun h=>absurd h hc,k _ fun h=>absurd h hc⟩
end
structure DeclD where
 frm:Int
 to_:Int
 cons:List ConD
deriving DecidableEq
instance:Inhabited DeclD:=⟨⟨0,0,[]⟩⟩
instance:Dat DeclD where
 sz:=3
 cells B w cs c:=∃ f_cons:Sl,cs=[intV c.frm,intV c.to_,f_cons.val]∧InI c.frm∧InI c.to_∧ReadB B w f_cons c.cons
 mono:=fun hs ⟨f_cons,h0,i_frm,i_to_,r_cons⟩=>⟨f_cons,h0,i_frm,i_to_,r_cons.mono hs⟩
 len:=fun ⟨f_cons,h0,_⟩=>by rw [h0];rfl
 one:=fun ⟨f_cons,h0,_⟩ v hv=>by
  rw [h0] at hv;simp only [List.mem_cons,List.not_mem_nil,or_false] at hv
  rcases hv with rfl|rfl|rfl<;>rfl
instance:DatO DeclD where
 own cs c K:=∃ f_cons:Sl,∃ K_cons:Items,cs=[intV c.frm,intV c.to_,f_cons.val]∧InI c.frm∧InI c.to_∧OwnD f_cons c.cons K_cons∧K=K_cons
 read:=by
  intro w cs c I h hA
  obtain ⟨f_cons,K_cons,h0,i_frm,i_to_,o_cons,rfl⟩:=h
  exact ⟨f_cons,h0,i_frm,i_to_,(o_cons.readA fun p hp=>hA p (hp))⟩
section
variable {u w:World} {x:Sl} {l:List DeclD} {i:Int}
theorem Src.ofDeclD (hx:Src u w x l) (h0:0≤i) (h1:i < l.length):∃ f_cons:Sl,w.cell? ((elA x i 3).add 0)=some (iV (nth l i).frm)∧w.cell? ((elA x i 3).add 1)=some (iV (nth l i).to_)∧w.cell? ((elA x i 3).add 2)=some (f_cons.val)∧InI (nth l i).frm∧InI (nth l i).to_∧Read u f_cons (nth l i).cons:=by
 obtain ⟨r,⟨f_cons,rfl,i_frm,i_to_,r_cons⟩,h5⟩:=hx.row h0 h1
 exact ⟨f_cons,h5 0 _ rfl,h5 1 _ rfl,h5 2 _ rfl,i_frm,i_to_,r_cons⟩
theorem ldg_decl_frm {C:Prop} (hx:Src u w x l) (h0:C→0≤i∧i < l.length) {K:Int→Prop} (k:K (nth l i).frm):∃ n,(C→w.cell? ((elA x i 3).add 0)=some (iV n))∧K n:=by
 refine ⟨_,fun hc=>?_,k⟩
 obtain ⟨f_cons,e_frm,e_to_,e_cons,i_frm,i_to_,r_cons⟩:=hx.ofDeclD (h0 hc).1 (h0 hc).2
 exact e_frm
theorem ldg_decl_to_ {C:Prop} (hx:Src u w x l) (h0:C→0≤i∧i < l.length) {K:Int→Prop} (k:K (nth l i).to_):∃ n,(C→w.cell? ((elA x i 3).add 1)=some (iV n))∧K n:=by
 refine ⟨_,fun hc=>?_,k⟩
 obtain ⟨f_cons,e_frm,e_to_,e_cons,i_frm,i_to_,r_cons⟩:=hx.ofDeclD (h0 hc).1 (h0 hc).2
 exact e_to_
theorem ld_decl_cons (hx:Src u w x l) (h0:0≤i) (h1:i < l.length) {K:Sl→Prop} (k:∀ f,Read u f (nth l i).cons→K f):∃ f:Sl,w.cell? ((elA x i 3).add 2)=some f.val∧K f:=by
 obtain ⟨f_cons,e_frm,e_to_,e_cons,i_frm,i_to_,r_cons⟩:=hx.ofDeclD h0 h1
 exact ⟨f_cons,e_cons,k _ r_cons⟩
theorem ldg_decl_cons {C:Prop} (hx:Src u w x l) (h0:C→0≤i∧i < l.length) {K:Sl→Prop} (k:∀ f,(C→Read u f (nth l i).cons)→K f):∃ f:Sl,(C→w.cell? ((elA x i 3).add 2)=some f.val)∧K f:=by
 rcases Classical.em C with hc|hc
 ·obtain ⟨f_cons,e_frm,e_to_,e_cons,i_frm,i_to_,r_cons⟩:=hx.ofDeclD (h0 hc).1 (h0 hc).2
  exact ⟨f_cons,fun _=>e_cons,k _ fun _=>r_cons⟩
 ·exact ⟨⟨none,0,0⟩,fun h=>absurd h hc,k _ fun h=>absurd h hc⟩
end
structure InstrD where
 op:Int
 dst:Int
 num:Int
 into:Int
 args:List Int
 jumps:List Int
deriving DecidableEq
instance:Inhabited InstrD:=⟨⟨0,0,0,0,[],[]⟩⟩
instance:Dat InstrD where
 sz:=6
 cells B w cs c:=∃ f_args f_jumps:Sl,cs=[intV c.op,intV c.dst,intV c.num,intV c.into,f_args.val,f_jumps.val]∧InI c.op∧InI c.dst∧InI c.num∧InI c.into∧ReadB B w f_args c.args∧ReadB B w f_jumps c.jumps
 mono:=fun hs ⟨f_args,f_jumps,h0,i_op,i_dst,i_num,i_into,r_args,r_jumps⟩=>⟨f_args,f_jumps,h0,i_op,i_dst,i_num,i_into,r_args.mono hs,r_jumps.mono hs⟩
 len:=fun ⟨f_args,f_jumps,h0,_⟩=>by rw [h0];rfl
 one:=fun ⟨f_args,f_jumps,h0,_⟩ v hv=>by
  rw [h0] at hv;simp only [List.mem_cons,List.not_mem_nil,or_false] at hv
  rcases hv with rfl|rfl|rfl|rfl|rfl|rfl<;>rfl
instance:DatO InstrD where
 own cs c K:=∃ f_args f_jumps:Sl,∃ K_args K_jumps:Items,cs=[intV c.op,intV c.dst,intV c.num,intV c.into,f_args.val,f_jumps.val]∧InI c.op∧InI c.dst∧InI c.num∧InI c.into∧(∀ u,Own u f_args c.args K_args)∧(∀ u,Own u f_jumps c.jumps K_jumps)∧K=K_args++K_jumps
 read:=by
  intro w cs c I h hA
  obtain ⟨f_args,f_jumps,K_args,K_jumps,h0,i_op,i_dst,i_num,i_into,o_args,o_jumps,rfl⟩:=h
  exact ⟨f_args,f_jumps,h0,i_op,i_dst,i_num,i_into,(let ⟨rows,k1,k2,k3⟩:=o_args w;⟨rows,k1.rd fun p hp=>hA p (List.mem_append_left _ hp),k2,k3⟩),(let ⟨rows,k1,k2,k3⟩:=o_jumps w;⟨rows,k1.rd fun p hp=>hA p (List.mem_append_right _ hp),k2,k3⟩)⟩
section

end
structure ProcD where
 params:List Int
 lent:List Int
 result:Int
 regs:Int
 code:List InstrD
deriving DecidableEq
instance:Inhabited ProcD:=⟨⟨[],[],0,0,[]⟩⟩
instance:Dat ProcD where
 sz:=5
 cells B w cs c:=∃ f_params f_lent f_code:Sl,cs=[f_params.val,f_lent.val,intV c.result,intV c.regs,f_code.val]∧InI c.result∧InI c.regs∧ReadB B w f_params c.params∧ReadB B w f_lent c.lent∧ReadB B w f_code c.code
 mono:=fun hs ⟨f_params,f_lent,f_code,h0,i_result,i_regs,r_params,r_lent,r_code⟩=>⟨f_params,f_lent,f_code,h0,i_result,i_regs,r_params.mono hs,r_lent.mono hs,r_code.mono hs⟩
 len:=fun ⟨f_params,f_lent,f_code,h0,_⟩=>by rw [h0];rfl
 one:=fun ⟨f_params,f_lent,f_code,h0,_⟩ v hv=>by
  rw [h0] at hv;simp only [List.mem_cons,List.not_mem_nil,or_false] at hv
  rcases hv with rfl|rfl|rfl|rfl|rfl<;>rfl
instance:DatO ProcD where
 own cs c K:=∃ f_params f_lent f_code:Sl,∃ K_params K_lent K_code:Items,cs=[f_params.val,f_lent.val,intV c.result,intV c.regs,f_code.val]∧InI c.result∧InI c.regs∧(∀ u,Own u f_params c.params K_params)∧(∀ u,Own u f_lent c.lent K_lent)∧OwnD f_code c.code K_code∧K=K_params++(K_lent++K_code)
 read:=by
  intro w cs c I h hA
  obtain ⟨f_params,f_lent,f_code,K_params,K_lent,K_code,h0,i_result,i_regs,o_params,o_lent,o_code,rfl⟩:=h
  exact ⟨f_params,f_lent,f_code,h0,i_result,i_regs,(let ⟨rows,k1,k2,k3⟩:=o_params w;⟨rows,k1.rd fun p hp=>hA p (List.mem_append_left _ hp),k2,k3⟩),(let ⟨rows,k1,k2,k3⟩:=o_lent w;⟨rows,k1.rd fun p hp=>hA p (List.mem_append_right _ (List.mem_append_left _ hp)),k2,k3⟩),(o_code.readA fun p hp=>hA p (List.mem_append_right _ (List.mem_append_right _ hp)))⟩
section

end
structure SigD where
 params:List Int
 lent:List Int
 result:Int
deriving DecidableEq
instance:Inhabited SigD:=⟨⟨[],[],0⟩⟩
instance:Dat SigD where
 sz:=3
 cells B w cs c:=∃ f_params f_lent:Sl,cs=[f_params.val,f_lent.val,intV c.result]∧InI c.result∧ReadB B w f_params c.params∧ReadB B w f_lent c.lent
 mono:=fun hs ⟨f_params,f_lent,h0,i_result,r_params,r_lent⟩=>⟨f_params,f_lent,h0,i_result,r_params.mono hs,r_lent.mono hs⟩
 len:=fun ⟨f_params,f_lent,h0,_⟩=>by rw [h0];rfl
 one:=fun ⟨f_params,f_lent,h0,_⟩ v hv=>by
  rw [h0] at hv;simp only [List.mem_cons,List.not_mem_nil,or_false] at hv
  rcases hv with rfl|rfl|rfl<;>rfl
instance:DatO SigD where
 own cs c K:=∃ f_params f_lent:Sl,∃ K_params K_lent:Items,cs=[f_params.val,f_lent.val,intV c.result]∧InI c.result∧(∀ u,Own u f_params c.params K_params)∧(∀ u,Own u f_lent c.lent K_lent)∧K=K_params++K_lent
 read:=by
  intro w cs c I h hA
  obtain ⟨f_params,f_lent,K_params,K_lent,h0,i_result,o_params,o_lent,rfl⟩:=h
  exact ⟨f_params,f_lent,h0,i_result,(let ⟨rows,k1,k2,k3⟩:=o_params w;⟨rows,k1.rd fun p hp=>hA p (List.mem_append_left _ hp),k2,k3⟩),(let ⟨rows,k1,k2,k3⟩:=o_lent w;⟨rows,k1.rd fun p hp=>hA p (List.mem_append_right _ hp),k2,k3⟩)⟩
section

end
end Go.Vc
namespace Go.Vc
open Go Go.Proofs Go.RowKit
class Cost (α:Type) where
 cost:α→Nat
def costL {α:Type} [Cost α] (l:List α):Nat:=l.length+(l.map Cost.cost).sum
instance:Cost ConD:=⟨fun c=>c.fields.length⟩
section

end
instance:Cost DeclD:=⟨fun c=>costL c.cons⟩
section

end
instance:Cost InstrD:=⟨fun c=>c.args.length+c.jumps.length⟩
section

end
instance:Cost ProcD:=⟨fun c=>c.params.length+c.lent.length+costL c.code⟩
section

end
section

end
section

end
section

end
section

end
section
variable {α:Type} [DatO α] [Inhabited α]
end
instance:SlT Tryz.prog 73 1 24 [.slice none 0 0]:=.of (by kernel_rfl) rfl (by decide)
section

end
instance:SlT Tryz.prog 47 3 40 [intV 0,intV 0,.slice none 0 0]:=.of (by kernel_rfl) rfl (by decide)
section

end
section

end
section

end
end Go.Vc
namespace Go.Vc
open Go Go.RowKit
inductive ExprD where
 | mk (op num:Int) (kids:List ExprD)
def ExprD.op:ExprD→Int
 | ⟨o,_,_⟩=>o
def ExprD.num:ExprD→Int
 | ⟨_,n,_⟩=>n
def ExprD.kids:ExprD→List ExprD
 | ⟨_,_,k⟩=>k
instance:Inhabited ExprD:=⟨⟨0,0,[]⟩⟩
noncomputable instance:DecidableEq ExprD:=fun a b=>Classical.propDecidable _
inductive ExC (B:Nat) (w:World):List Value→ExprD→Prop where
 | mk {op num:Int} {kids:List ExprD} {xk:Sl} {rows:List (List Value)}:InI op→InI num→Rows w xk 3 rows→rows.length=kids.length→
   (∀ (i:Nat) (r:List Value) (b:ExprD),rows[i]?=some r→kids[i]?=some b→ExC B w r b)→kids.length≤B→ExC B w [intV op,intV num,xk.val] ⟨op,num,kids⟩
theorem ExC.mono {B:Nat} {u w:World} {cs:List Value} {a:ExprD} (hs:Sub u w):ExC B u cs a→ExC B w cs a
 | .mk h1 h2 h5 h6 h7 h8=>.mk h1 h2 (h5.sub hs) h6 (fun i r b hr hb=>ExC.mono hs (h7 i r b hr hb)) h8
instance:Dat ExprD where
 sz:=3
 cells:=ExC
 mono:=fun hs h=>h.mono hs
 len:=fun h=>by cases h;rfl
 one:=fun h v hv=>by
  cases h
  simp only [List.mem_cons,List.not_mem_nil,or_false] at hv
  rcases hv with rfl|rfl|rfl<;>rfl
theorem expr_cells {B:Nat} {w:World} {cs:List Value} {c:ExprD}:Dat.cells B w cs c↔∃ f_kids:Sl,cs=[intV c.op,intV c.num,f_kids.val]∧InI c.op∧InI c.num∧ReadB B w f_kids c.kids:=by
 constructor
 ·intro h
  cases h with
  | mk h1 h2 h5 h6 h7 h8=>exact ⟨_,rfl,h1,h2,_,h5,⟨h6,h7⟩,h8⟩
 ·obtain ⟨op,num,kids⟩:=c
  rintro ⟨xk,rfl,h1,h2,rows,h5,⟨h6,h7⟩,h8⟩
  exact .mk h1 h2 h5 h6 h7 h8
inductive ExO:List Value→ExprD→Items→Prop where
 | mk {op num:Int} {kids:List ExprD} {xk:Sl} {rows:List (List Value)} {I0 E I:Items} {Is:List Items}:InI op→InI num→OSl 3 xk rows I0→rows.length=kids.length→Is.length=kids.length→
   (∀ (i:Nat) (r:List Value) (b:ExprD) (K:Items),rows[i]?=some r→kids[i]?=some b→Is[i]?=some K→ExO r b K)→I.Perm (I0++(Is.flatten++E))→kids.length≤BB→
   ExO [intV op,intV num,xk.val] ⟨op,num,kids⟩ I
theorem exg_len {α β:Type} {l:List α} {m:List β} {i:Nat} {a:α} (h:l[i]?=some a) (hl:l.length=m.length):i < m.length:=by
 have:=(List.getElem?_eq_some_iff.1 h).1
 omega
theorem ExO.read {w:World} {cs:List Value} {a:ExprD} {I:Items}:ExO cs a I→AtAll w I→ExC BB w cs a
 | .mk (Is:=Is) (kids:=kids) (rows:=rows) h1 h2 h5 h6 h7 h8 h9 h10,hA=>by
  have hA':=hA.perm h9.symm
  refine .mk h1 h2 (h5.rd fun p hp=>hA' p (List.mem_append_left _ hp)) h6 (fun i r b hr hb=>?_) h10
  have hlt:i < Is.length:=exg_len hr (by omega)
  exact ExO.read (h8 i r b _ hr hb (List.getElem?_eq_getElem hlt)) fun p hp=>hA' p (List.mem_append_right _ (List.mem_append_left _ (List.mem_flatten.2 ⟨_,List.getElem_mem hlt,hp⟩)))
instance:DatO ExprD where
 own:=ExO
 read:=ExO.read
mutual
theorem ex_indA {P:ExprD→Prop} (h:∀ b:ExprD,(∀ k∈b.kids,P k)→P b):∀ b:ExprD,P b
 | ⟨_,_,kids⟩=>h _ (exs_indA h kids)
theorem exs_indA {P:ExprD→Prop} (h:∀ b:ExprD,(∀ k∈b.kids,P k)→P b):∀ (l:List ExprD),∀ k∈l,P k
 | []=>fun s hs=>by cases hs
 | a ::r=>fun s hs=>by
  rcases List.mem_cons.1 hs with e|hs
  ·rw [e];exact ex_indA h a
  ·exact exs_indA h r s hs
end
theorem ex_ind {P:ExprD→Prop} (h:∀ b:ExprD,(∀ k∈b.kids,P k)→P b) (b:ExprD):P b:=ex_indA h b
def wordE (op:Int):List UInt8:=
 if op=1 then [97,100,100] else if op=2 then [115,117,98] else if op=3 then [109,117,108] else if op=4 then [108,101,115,115] else if op=5 then [112,114,105,110,116] else if op=6 then [99,111,110]
 else if op=7 then [105,102] else if op=8 then [109,97,116,99,104] else if op=9 then [99,97,108,108] else if op=10 then [99,108,111,115,101] else if op=11 then [97,112,112,108,121] else if op=13 then [108,101,116] else []
def numE (op:Int):Bool:=decide (op=6) || decide (op=8) || decide (op=9) || decide (op=10)
def okN (op num:Int) (kids:Nat):Bool:=
 if op=0 then decide (kids=0) && decide (-999≤num) && decide (num≤999)
 else if op=12 then decide (kids=0) && decide (0≤num) && decide (num≤99)
 else decide (1≤op) && decide (op≤13) && (if numE op then decide (0≤num) && decide (num≤99) else decide (num=0))
mutual
def nodesE:ExprD→Nat
 | ⟨_,_,kids⟩=>1+nodesL kids
def nodesL:List ExprD→Nat
 | []=>0
 | k ::r=>nodesE k+nodesL r
end
mutual
def canE:ExprD→Bool
 | ⟨op,num,kids⟩=>okN op num kids.length && canL kids
def canL:List ExprD→Bool
 | []=>true
 | k ::r=>canE k && canL r
end
mutual
def showE:ExprD→List UInt8
 | ⟨op,num,kids⟩=>if op=0 then Lib.itoa num else if op=12 then 118 ::Lib.itoa num
  else 40 ::(wordE op++(if numE op then Lib.itoa num else [])++showL kids++[41])
def showL:List ExprD→List UInt8
 | []=>[]
 | k ::r=>32 ::(showE k++showL r)
end
theorem nodesE_eq (e:ExprD):nodesE e=1+nodesL e.kids:=by cases e;rw [nodesE];rfl
theorem canE_eq (e:ExprD):canE e=(okN e.op e.num e.kids.length && canL e.kids):=by cases e;rw [canE];rfl
theorem nodesL_cons (k:ExprD) (r:List ExprD):nodesL (k ::r)=nodesE k+nodesL r:=by rw [nodesL]
theorem canL_cons (k:ExprD) (r:List ExprD):canL (k ::r)=(canE k && canL r):=by rw [canL]
theorem nodesL_nil:nodesL []=0:=by rw [nodesL]
theorem canL_nil:canL []=true:=by rw [canL]
theorem nodesL_app (l m:List ExprD):nodesL (l++m)=nodesL l+nodesL m:=by
 induction l with
 | nil=>rw [nodesL_nil];simp
 | cons k r ih=>rw [List.cons_append,nodesL_cons,nodesL_cons,ih];omega
theorem canL_app (l m:List ExprD):canL (l++m)=(canL l && canL m):=by
 induction l with
 | nil=>rw [canL_nil];simp
 | cons k r ih=>rw [List.cons_append,canL_cons,canL_cons,ih,Bool.and_assoc]
end Go.Vc
namespace Go.Vc
open Go Go.Proofs Go.RowKit
mutual
def costEx:ExprD→Nat
 | ⟨_,_,ks⟩=>costExs ks
def costExs:List ExprD→Nat
 | []=>0
 | b ::r=>1+costEx b+costExs r
end
instance:Cost ExprD:=⟨costEx⟩
section
variable {u v w:World} {x:Sl} {i:Int}
theorem rowExprD {B:Nat} {l:List ExprD} (hx:ReadB B v x l) (h0:0≤i) (h1:i < l.length):∃ f_kids:Sl,(v.cell? ((elA x i 3).add 0)=some (iV (nth l i).op)∧v.cell? ((elA x i 3).add 1)=some (iV (nth l i).num)∧v.cell? ((elA x i 3).add 2)=some (f_kids.val))∧ReadB B v f_kids (nth l i).kids:=by
 obtain ⟨r,hr,hc⟩:=hx.row h0 h1
 obtain ⟨f,rfl,i1,i2,r1⟩:=expr_cells.1 hr
 exact ⟨f,⟨hc 0 _ rfl,hc 1 _ rfl,hc 2 _ rfl⟩,r1⟩
theorem Src.ofExprD {l:List ExprD} (hx:Src u w x l) (h0:0≤i) (h1:i < l.length):∃ f_kids:Sl,w.cell? ((elA x i 3).add 0)=some (iV (nth l i).op)∧w.cell? ((elA x i 3).add 1)=some (iV (nth l i).num)∧w.cell? ((elA x i 3).add 2)=some f_kids.val∧InI (nth l i).op∧InI (nth l i).num∧Read u f_kids (nth l i).kids:=by
 obtain ⟨r,hr,h5⟩:=hx.row h0 h1
 obtain ⟨f,rfl,i1,i2,r1⟩:=expr_cells.1 hr
 exact ⟨f,h5 0 _ rfl,h5 1 _ rfl,h5 2 _ rfl,i1,i2,r1⟩
end
section

end
section

end
instance:SlT Tryz.prog 84 3 40 [intV 0,intV 0,.slice none 0 0]:=.of (by kernel_rfl) rfl (by decide)
section

end
section

end
theorem numE_iff {op:Int}:numE op=true↔op=6∨op=8∨op=9∨op=10:=by
 unfold numE
 simp only [Bool.or_eq_true,decide_eq_true_eq]
 omega
theorem numE_f {op:Int}:numE op=false↔¬(op=6∨op=8∨op=9∨op=10):=by rw [←numE_iff];simp
theorem okN_iff {op num:Int} {k:Nat}:okN op num k=true↔(op=0∧k=0∧-999≤num∧num≤999)∨(op=12∧k=0∧0≤num∧num≤99)∨(op≠0∧op≠12∧1≤op∧op≤13∧(((op=6∨op=8∨op=9∨op=10)∧0≤num∧num≤99)∨(¬(op=6∨op=8∨op=9∨op=10)∧num=0))):=by
 unfold okN
 split
 ·simp only [Bool.and_eq_true,decide_eq_true_eq];omega
 split
 ·simp only [Bool.and_eq_true,decide_eq_true_eq];omega
 cases hn:numE op
 ·rw [numE_f] at hn
  simp only [Bool.and_eq_true,decide_eq_true_eq,Bool.false_eq_true,if_false];omega
 ·rw [numE_iff] at hn
  simp only [Bool.and_eq_true,decide_eq_true_eq,if_true];omega
theorem nodes_pos (e:ExprD):1≤nodesE e:=by rw [nodesE_eq];omega
theorem nodesL_drop {l:List ExprD} {i:Int} (h0:0≤i) (h1:i < l.length):nodesL (l.drop i.toNat)=nodesE (nth l i)+nodesL (l.drop (i+1).toNat):=by
 rw [show l.drop i.toNat=nth l i ::l.drop (i+1).toNat from ?_,nodesL_cons]
 rw [show (i+1).toNat=i.toNat+1 from by omega]
 have:=nth_get h0 h1
 rw [List.drop_eq_getElem_cons (by omega)]
 congr 1
 rw [List.getElem?_eq_getElem (by omega)] at this
 exact Option.some.inj this
theorem nodes_mem {l:List ExprD} {k:ExprD} (h:k∈l):nodesE k≤nodesL l:=by
 induction l with
 | nil=>cases h
 | cons a r ih=>
  rw [nodesL_cons]
  rcases List.mem_cons.1 h with rfl|h
  ·omega
  ·have:=ih h;omega
def NlP (e:ExprD):Prop:=∀ (v:World) (f:Sl) (left:Int),Read v f e.kids→0≤left→left≤1000→Fn Tryz.prog 106 #[.agg #[iV e.op,iV e.num,f.val],iV left] v (iV (if (nodesE e:Int)≤left then left - nodesE e else -1))
section
variable {v w:World} {f:Sl} {i n op num left:Int} {e:ExprD}
theorem c_nodesLeft (e:ExprD):NlP e:=by
 refine ex_ind (P:=NlP) (fun e ih=>?_) e
 intro v f left hf hl0 hl1
 refine of106 _ _ _ _ _ _ ?_
 unfold vc106
 have hn:=hf.n
 have hl:=hf.le
 have hp:=nodes_pos e
 refine ⟨fun hc=>⟨?_,.refl v⟩,fun hc=>?_⟩
 ·simp only [bls] at hc
  rw [if_neg (by omega)]
 simp only [bls] at hc
 rw [nodesE_eq]
 refine go_wr (by omega) (by omega) ?_
 refine ⟨fun m i w=>Sub v w∧0≤i∧i≤e.kids.length∧0≤m∧m≤1000∧m - nodesL (e.kids.drop i.toNat)=left - 1 - nodesL e.kids,fun _ i _=>(e.kids.length - i).toNat,⟨.refl v,by omega,by omega,by omega,by omega,by rfl⟩,?_⟩
 rintro m i w ⟨hs,h0,h1,h2,h3,h4⟩
 dsimp only
 refine ⟨fun hi=>?_,fun hi=>?_⟩
 ·simp only [bls] at hi
  obtain ⟨g,hcell,rg⟩:=rowExprD (hf.mono hs) h0 (by omega)
  refine go_ix hf h0 (by omega) ?_
  have hm:=nth_mem (l:=e.kids) h0 (by omega)
  rw [nodesL_drop h0 (by omega)] at h4
  refine ⟨_,_,g,hcell,_,ih _ hm w g m rg h2 h3,fun hq=>⟨?_,hs⟩,fun hq=>?_⟩
  ·simp only [bls] at hq
   have:¬ ((nodesE (nth e.kids i):Int)≤m):=fun hh=>by rw [if_pos hh] at hq;omega
   rw [if_neg (by omega)]
  ·simp only [bls] at hq
   have:(nodesE (nth e.kids i):Int)≤m:=Classical.byContradiction fun hh=>by rw [if_neg hh] at hq;omega
   rw [if_pos this]
   refine go_wr (by omega) (by omega) ?_
   exact ⟨rfl,rfl,rfl,⟨hs,by omega,by omega,by omega,by omega,by omega⟩,by omega⟩
 ·simp only [bls] at hi
  rw [List.drop_eq_nil_of_le (by omega),nodesL_nil] at h4
  rw [if_pos (by omega)]
  exact ⟨by congr 1;omega,hs⟩
theorem c_spNodesOf (hf:Read v f e.kids):Fn Tryz.prog 81 #[.agg #[iV e.op,iV e.num,f.val]] v (iV (if nodesE e≤30 then nodesE e else -1)):=by
 refine of81 _ _ _ _ _ ?_
 unfold vc81
 refine ⟨_,c_nodesLeft e v f 30 hf (by omega) (by omega),fun hq=>⟨?_,.refl v⟩,fun hq=>?_⟩
 ·simp only [bls] at hq
  rw [if_neg fun hh=>by rw [if_pos (by omega)] at hq;omega]
 ·simp only [bls] at hq
  have hle:nodesE e≤30:=Classical.byContradiction fun hh=>by rw [if_neg (by omega)] at hq;omega
  rw [if_pos (by omega)] at hq ⊢
  refine go_wr (by omega) (by omega) ?_
  refine ⟨?_,.refl v⟩
  rw [if_pos hle]
  congr 1;omega
end
def typeB (n:Nat) (t:Int):Bool:=decide (0≤t) && decide (t≤n)
def laterB (a b t:Int):Bool:=decide (a≤t) && decide (t≤b)
def firstC (ds:List DeclD) (n:Nat):Nat:=((ds.take n).map fun d=>d.cons.length).sum
section
variable {v w:World} {x y t:Sl} {l:List Int} {ds:List DeclD} {n f i:Int}
theorem all_take {p:Int→Bool} (h0:0≤i) (h1:i < l.length) (h:∀ t∈l.take i.toNat,p t=true) (hp:p (nth l i)=true):∀ t∈l.take (i+1).toNat,p t=true:=by
 rw [take_nth h0 h1]
 intro t ht
 rcases List.mem_append.1 ht with ht|ht
 ·exact h t ht
 ·rw [List.mem_singleton.1 ht];exact hp
theorem c_allTypes (hx:x.n=ds.length) (hl:ds.length≤1099511627776) (hy:Read v y l):Fn Tryz.prog 171 #[x.val,y.val] v (.bool (l.all (typeB ds.length))):=by
 refine of171 _ _ _ _ ?_
 unfold vc171
 have hn:=hy.n
 have hyl:=hy.le
 refine ⟨fun i w=>w=v∧0≤i∧i≤l.length∧∀ t∈l.take i.toNat,typeB ds.length t=true,fun i _=>(l.length - i).toNat,⟨rfl,by omega,by omega,fun t ht=>by simp at ht⟩,?_⟩
 rintro i _ ⟨rfl,i0,i1,h⟩
 dsimp only
 refine ⟨fun hi=>?_,fun hi=>?_⟩
 ·simp only [bls] at hi
  refine go_ix hy i0 (by omega) ?_
  refine ld_int hy i0 (by omega) ?_
  intro c0 c1
  rw [hx]
  refine ⟨_,c_inRange,fun hq=>⟨?_,.refl _⟩,fun hq=>?_⟩
  ·have hm:=nth_mem (l:=l) i0 (by omega)
   have:l.all (typeB ds.length)=false:=by
    refine Bool.eq_false_iff.2 fun h2=>?_
    have:=List.all_eq_true.1 h2 _ hm
    unfold typeB at this
    rw [this] at hq;cases hq
   rw [this]
  ·have hp:typeB ds.length (nth l i)=true:=by unfold typeB;simpa using hq
   refine go_wr (by omega) (by omega) ?_
   exact ⟨⟨rfl,by omega,by omega,all_take i0 (by omega) h hp⟩,by omega⟩
 ·simp only [bls] at hi
  rw [take_all (by omega)] at h
  exact ⟨by rw [List.all_eq_true.2 h],.refl _⟩
theorem c_defines:Fn Tryz.prog 97 #[iV n] v (.bool (decide (0≤n) && decide (n≤11))):=by
 refine of97 _ _ _ ?_
 unfold vc97
 exact ⟨_,c_inRange,rfl,.refl v⟩
theorem firstC_succ (h0:0≤i) (h1:i < ds.length):firstC ds (i+1).toNat=firstC ds i.toNat+(nth ds i).cons.length:=by
 unfold firstC
 rw [take_nth h0 h1,List.map_append,List.sum_append]
 simp
theorem c_firstCon (hx:Read v x ds) (hd:ds.length≤1000000) (hc:∀ d∈ds,d.cons.length≤1000000) (h0:0≤n) (h1:n≤ds.length):Fn Tryz.prog 125 #[x.val,iV n] v (iV (firstC ds n.toNat)):=by
 refine of125 _ _ _ _ ?_
 unfold vc125
 refine ⟨fun c i w=>w=v∧0≤i∧i≤n∧c=firstC ds i.toNat∧c≤1000000 * i,fun _ i _=>(n - i).toNat,⟨rfl,by omega,by omega,by simp [firstC],by omega⟩,?_⟩
 rintro c i _ ⟨rfl,i0,i1,hs,hb⟩
 dsimp only
 refine ⟨fun hi=>?_,fun hi=>?_⟩
 ·simp only [bls] at hi
  have e1:=firstC_succ (ds:=ds) i0 (by omega)
  have e2:=hc _ (nth_mem (l:=ds) i0 (by omega))
  refine go_ix hx i0 (by omega) ?_
  refine ld_decl_cons (hx.src (.refl _)) i0 (by omega) ?_
  intro f hf
  have hfn:=hf.n
  refine go_wr (by omega) (by omega) ?_
  refine go_wr (by omega) (by omega) ?_
  exact ⟨⟨rfl,by omega,by omega,by omega,by omega⟩,by omega⟩
 ·simp only [bls] at hi
  rw [show i=n from by omega] at hs
  exact ⟨by rw [hs],.refl _⟩
end
def conOk (N:Nat) (c:ConD):Prop:=c.fields.length≤3∧c.fields.all (typeB N)=true
def declOk (ds:List DeclD) (i:Int):Prop:=
 if 0 < (nth ds i).cons.length then (nth ds i).cons.length≤3∧(nth ds i).frm=0∧(nth ds i).to_=0∧∀ c∈(nth ds i).cons,conOk ds.length c
 else (∀ j:Int,0≤j→j < i→¬ ((nth ds j).cons.length=0∧(nth ds j).frm=(nth ds i).frm∧(nth ds j).to_=(nth ds i).to_))∧typeB ds.length (nth ds i).frm=true∧typeB ds.length (nth ds i).to_=true
noncomputable def declB (ds:List DeclD) (i:Int):Bool:=@decide (declOk ds i) (Classical.propDecidable _)
def typesOk (ds:List DeclD):Prop:=ds.length≤4∧∀ i:Int,0≤i→i < ds.length→declOk ds i
noncomputable def typesB (ds:List DeclD):Bool:=@decide (typesOk ds) (Classical.propDecidable _)
section
variable {v w:World} {x:Sl} {l:List Int} {ds:List DeclD} {n f e i:Int}
theorem declB_t (h:declOk ds i):declB ds i=true:=by unfold declB;exact @decide_eq_true _ (Classical.propDecidable _) h
theorem declB_f (h:¬ declOk ds i):declB ds i=false:=by unfold declB;exact @decide_eq_false _ (Classical.propDecidable _) h
theorem typesB_t (h:typesOk ds):typesB ds=true:=by unfold typesB;exact @decide_eq_true _ (Classical.propDecidable _) h
theorem typesB_f (h:¬ typesOk ds):typesB ds=false:=by unfold typesB;exact @decide_eq_false _ (Classical.propDecidable _) h
theorem c_validDecl (hx:Read v x ds) (h0:0≤n) (h1:n < ds.length):Fn Tryz.prog 176 #[x.val,iV n] v (.bool (declB ds n)):=by
 refine of176 _ _ _ _ ?_
 unfold vc176
 have hxn:=hx.n
 have hxl:=hx.le
 have hsr:=hx.src (.refl v)
 refine go_ix hx h0 h1 ?_
 obtain ⟨f_cons,e_frm,e_to,e_cons,i_frm,i_to,r_cons⟩:=hsr.ofDeclD h0 h1
 have hcn:=r_cons.n
 have hcl:=r_cons.le
 refine ⟨_,_,f_cons,⟨e_frm,e_to,e_cons⟩,fun hc=>⟨fun hq=>⟨?_,.refl v⟩,fun hq=>?_⟩,fun hc=>?_⟩
 ·simp only [bls] at hc
  rw [declB_f]
  intro hd
  unfold declOk at hd
  rw [if_pos (by omega)] at hd
  rw [decide_eq_false (by omega),decide_eq_true hd.2.1,decide_eq_true hd.2.2.1] at hq
  cases hq
 ·simp only [bls] at hc
  have hq3:(nth ds n).cons.length≤3∧(nth ds n).frm=0∧(nth ds n).to_=0:=by
   simp at hq;omega
  refine ⟨fun i w=>w=v∧0≤i∧i≤(nth ds n).cons.length∧∀ c∈(nth ds n).cons.take i.toNat,conOk ds.length c,fun i _=>((nth ds n).cons.length - i).toNat,⟨rfl,by omega,by omega,fun c hc=>by simp at hc⟩,?_⟩
  rintro i _ ⟨rfl,i0,i1,h⟩
  dsimp only
  have no:∀ {c},c∈(nth ds n).cons→¬ conOk ds.length c→declB ds n=false:=fun hm hno=>declB_f fun hd=>by
   unfold declOk at hd
   rw [if_pos (by omega)] at hd
   exact hno (hd.2.2.2 _ hm)
  refine ⟨fun hi=>?_,fun hi=>?_⟩
  ·simp only [bls] at hi
   have hil:i < (nth ds n).cons.length:=by omega
   have hm:=nth_mem (l:=(nth ds n).cons) i0 hil
   refine go_ix r_cons i0 hil ?_
   refine ld_con_fields (r_cons.src (.refl _)) i0 hil ?_
   intro f hf
   have hfn:=hf.n
   refine go_ixg r_cons (fun _=>⟨i0,hil⟩) ?_
   refine ldg_con_fields (r_cons.src (.refl _)) (fun _=>⟨i0,hil⟩) ?_
   intro g hg
   refine ⟨_,fun hc=>c_allTypes hxn hxl (hg hc),fun hq=>⟨?_,.refl _⟩,fun hq=>?_⟩
   ·rw [no hm fun hk=>?_]
    rw [decide_eq_false (by have:=hk.1;omega),hk.2] at hq
    cases hq
   ·have hk:conOk ds.length (nth (nth ds n).cons i):=by
     simp only [Bool.or_eq_false_iff,Bool.not_eq_false'] at hq
     exact ⟨by have:=of_decide_eq_false hq.1;omega,hq.2⟩
    refine go_wr (by omega) (by omega) ?_
    refine ⟨rfl,rfl,rfl,⟨rfl,by omega,by omega,?_⟩,by omega⟩
    rw [take_nth i0 hil]
    intro c hc
    rcases List.mem_append.1 hc with hc|hc
    ·exact h c hc
    ·rw [List.mem_singleton.1 hc];exact hk
  ·simp only [bls] at hi
   rw [take_all (by omega)] at h
   refine ⟨?_,.refl _⟩
   rw [declB_t]
   unfold declOk
   rw [if_pos (by omega)]
   exact ⟨hq3.1,hq3.2.1,hq3.2.2,h⟩
 ·simp only [bls] at hc
  have hz:¬ 0 < (nth ds n).cons.length:=by omega
  refine ⟨fun i w=>w=v∧0≤i∧i≤n∧∀ j:Int,0≤j→j < i→¬ ((nth ds j).cons.length=0∧(nth ds j).frm=(nth ds n).frm∧(nth ds j).to_=(nth ds n).to_),fun i _=>(n - i).toNat,⟨rfl,by omega,by omega,fun j j0 j1=>by omega⟩,?_⟩
  rintro i _ ⟨rfl,i0,i1,h⟩
  dsimp only
  refine ⟨fun hi=>?_,fun hi=>?_⟩
  ·simp only [bls] at hi
   have hil:i < ds.length:=by omega
   refine go_ix hx i0 hil ?_
   refine ld_decl_cons hsr i0 hil ?_
   intro f hf
   have hfn:=hf.n
   refine go_ixg hx (fun _=>⟨i0,hil⟩) ?_
   refine ldg_decl_frm hsr (fun _=>⟨i0,hil⟩) ?_
   refine go_ixg hx (fun _=>⟨i0,hil⟩) ?_
   refine ldg_decl_to_ hsr (fun _=>⟨i0,hil⟩) ?_
   refine ⟨fun hq=>⟨?_,.refl _⟩,fun hq=>?_⟩
   ·simp only [Bool.and_eq_true,decide_eq_true_eq] at hq
    rw [declB_f]
    intro hd
    unfold declOk at hd
    rw [if_neg hz] at hd
    exact hd.1 i i0 (by omega) ⟨by omega,hq.1.2,hq.2⟩
   ·refine go_wr (by omega) (by omega) ?_
    refine ⟨rfl,rfl,rfl,⟨rfl,by omega,by omega,fun j j0 j1 hj=>?_⟩,by omega⟩
    by_cases e:j=i
    ·subst e
     rw [decide_eq_true (show (f.n:Int)=0 by omega),decide_eq_true hj.2.1,decide_eq_true hj.2.2] at hq
     cases hq
    ·exact h j j0 (by omega) hj
  ·simp only [bls] at hi
   have hin:i=n:=by omega
   subst hin
   rw [hxn]
   refine ⟨_,c_inRange,_,fun _=>c_inRange,?_,.refl _⟩
   congr 1
   have key:declB ds i=(typeB ds.length (nth ds i).frm && typeB ds.length (nth ds i).to_):=by
    cases ht:(typeB ds.length (nth ds i).frm && typeB ds.length (nth ds i).to_) with
    | true=>
     rw [Bool.and_eq_true] at ht
     refine declB_t ?_
     unfold declOk
     rw [if_neg hz]
     exact ⟨h,ht.1,ht.2⟩
    | false=>
     refine declB_f fun hd=>?_
     unfold declOk at hd
     rw [if_neg hz] at hd
     rw [hd.2.1,hd.2.2] at ht
     cases ht
   rw [key];rfl
theorem c_specValidTypes (hx:Read v x ds):Fn Tryz.prog 170 #[x.val] v (.bool (typesB ds)):=by
 refine of170 _ _ _ ?_
 unfold vc170
 have hxn:=hx.n
 refine ⟨fun hc=>⟨?_,.refl v⟩,fun hc=>?_⟩
 ·simp only [bls] at hc
  rw [typesB_f fun hd=>by have:=hd.1;omega]
 simp only [bls] at hc
 refine ⟨fun i w=>w=v∧0≤i∧i≤ds.length∧∀ j:Int,0≤j→j < i→declOk ds j,fun i _=>(ds.length - i).toNat,⟨rfl,by omega,by omega,fun j j0 j1=>by omega⟩,?_⟩
 rintro i _ ⟨rfl,i0,i1,h⟩
 dsimp only
 refine ⟨fun hi=>?_,fun hi=>?_⟩
 ·simp only [bls] at hi
  refine ⟨_,c_validDecl hx i0 (by omega),fun hq=>⟨?_,.refl _⟩,fun hq=>?_⟩
  ·rw [typesB_f fun hd=>by rw [declB_t (hd.2 i i0 (by omega))] at hq;cases hq]
  ·have hd:declOk ds i:=Classical.byContradiction fun hn=>by rw [declB_f hn] at hq;cases hq
   refine go_wr (by omega) (by omega) ?_
   refine ⟨⟨rfl,by omega,by omega,fun j j0 j1=>?_⟩,by omega⟩
   by_cases e:j=i
   ·rw [e];exact hd
   ·exact h j j0 (by omega)
 ·simp only [bls] at hi
  exact ⟨by rw [typesB_t ⟨by omega,fun j j0 j1=>h j j0 (by omega)⟩],.refl _⟩
end
section
variable {ds:List DeclD} {n i:Int}
theorem typeB_zero (n:Nat):typeB n 0=true:=by unfold typeB;simp
theorem declOk_easy (h:declOk ds i):typeB ds.length (nth ds i).frm=true∧typeB ds.length (nth ds i).to_=true∧(nth ds i).cons.length≤3∧(0 < (nth ds i).cons.length→(nth ds i).frm=0∧(nth ds i).to_=0)∧(∀ c∈(nth ds i).cons,conOk ds.length c)∧
  (∀ j:Int,0≤j→j < i→¬ ((nth ds i).cons.length=0∧(nth ds j).cons.length=0∧(nth ds j).frm=(nth ds i).frm∧(nth ds j).to_=(nth ds i).to_)):=by
 unfold declOk at h
 split at h
 ·rename_i hp
  refine ⟨by rw [h.2.1];exact typeB_zero _,by rw [h.2.2.1];exact typeB_zero _,h.1,fun _=>⟨h.2.1,h.2.2.1⟩,h.2.2.2,fun j _ _ hj=>by omega⟩
 ·rename_i hp
  have hz:(nth ds i).cons=[]:=List.eq_nil_of_length_eq_zero (by omega)
  exact ⟨h.2.1,h.2.2,by rw [hz];simp,fun hp2=>absurd hp2 hp,fun c hc=>(by rw [hz] at hc;cases hc),fun j j0 j1 hj=>h.1 j j0 j1 hj.2⟩
end
def lent1 (ps ls:List Int) (i:Int):Prop:=0≤nth ls i∧nth ls i < ps.length∧nth ps (nth ls i)≠0∧(0 < i→nth ls (i - 1) < nth ls i)
def lentOk (ps ls:List Int):Prop:=∀ i:Int,0≤i→i < ls.length→lent1 ps ls i
noncomputable def lentB (ps ls:List Int):Bool:=@decide (lentOk ps ls) (Classical.propDecidable _)
section
variable {v w:World} {x y:Sl} {l ps ls:List Int} {ds:List DeclD} {n k f e i:Int}
theorem lentB_t (h:lentOk ps ls):lentB ps ls=true:=by unfold lentB;exact @decide_eq_true _ (Classical.propDecidable _) h
theorem lentB_f (h:¬ lentOk ps ls):lentB ps ls=false:=by unfold lentB;exact @decide_eq_false _ (Classical.propDecidable _) h
theorem c_validLent (hx:Read v x ps) (hy:Read v y ls):Fn Tryz.prog 160 #[x.val,y.val] v (.bool (lentB ps ls)):=by
 refine of160 _ _ _ _ ?_
 unfold vc160
 have hxn:=hx.n
 have hyn:=hy.n
 have hxl:=hx.le
 have hyl:=hy.le
 refine ⟨fun i w=>v=w∧0≤i∧i≤ls.length∧∀ j:Int,0≤j→j < i→lent1 ps ls j,fun i _=>(ls.length - i).toNat,⟨rfl,by omega,by omega,fun j j0 j1=>by omega⟩,?_⟩
 rintro i _ ⟨rfl,i0,i1,h⟩
 dsimp only
 refine ⟨fun hi=>?_,fun hi=>?_⟩
 ·simp only [bls] at hi
  have hil:i < ls.length:=by omega
  refine go_ix hy i0 hil ?_
  refine ld_int hy i0 hil ?_
  intro c0 c1
  refine go_wr (by omega) (by omega) ?_
  refine ⟨_,c_inRange,?_⟩
  have hr:(!(decide (0≤nth ls i) && decide (nth ls i≤(x.n:Int) - 1)))=false→0≤nth ls i∧nth ls i < ps.length:=fun hc=>by
   simp at hc;omega
  refine go_ixg hy (fun _=>⟨i0,hil⟩) ?_
  refine ld_intg hy (fun _=>⟨i0,hil⟩) ?_
  refine go_ixg hx hr ?_
  refine ld_intg hx hr ?_
  refine ⟨fun _ _=>hy.ix i0 hil,_,fun _ _=>(hy.int i0 hil).1,i - 1,fun _ _=>inK_i64 (by omega) (by omega),fun h1 _=>hy.ix (by have:=of_decide_eq_true h1;omega) (by omega),nth ls (i - 1),fun h1 _=>(hy.int (by have:=of_decide_eq_true h1;omega) (by omega)).1,fun hq=>⟨?_,.refl _⟩,fun hq=>?_⟩
  ·rw [lentB_f fun hd=>?_]
   obtain ⟨d1,d2,d3,d4⟩:=hd i i0 hil
   rw [decide_eq_true d1,decide_eq_true (show nth ls i≤(x.n:Int) - 1 by omega),decide_eq_false d3] at hq
   by_cases hp:0 < i
   ·rw [decide_eq_false (show ¬ nth ls i≤nth ls (i - 1) by have:=d4 hp;omega)] at hq
    simp at hq
   ·rw [decide_eq_false (show ¬ i > 0 by omega)] at hq
    simp at hq
  ·have hd:lent1 ps ls i:=by
    simp only [Bool.or_eq_false_iff] at hq
    obtain ⟨d1,d2⟩:=hr hq.1.1
    refine ⟨d1,d2,of_decide_eq_false hq.1.2,fun hp=>?_⟩
    have h2:=hq.2
    rw [decide_eq_true (show i > 0 from hp),Bool.true_and] at h2
    have:=of_decide_eq_false h2
    omega
   refine go_wr (by omega) (by omega) ?_
   refine ⟨⟨rfl,by omega,by omega,fun j j0 j1=>?_⟩,by omega⟩
   by_cases e:j=i
   ·rw [e];exact hd
   ·exact h j j0 (by omega)
 ·simp only [bls] at hi
  exact ⟨by rw [lentB_t fun j j0 j1=>h j j0 (by omega)],.refl _⟩
def conTyOk (ds:List DeclD) (c:Int) (i:Int):Prop:=(firstC ds i.toNat:Int)≤c∧c≤firstC ds i.toNat+(nth ds i).cons.length - 1
theorem c_conType (hx:Read v x ds) (hd:ds.length≤1000000) (hc:∀ d∈ds,d.cons.length≤1000000) (hb:∀ i:Int,0≤i→i≤ds.length→(firstC ds i.toNat:Int)≤1000000 * 1000000):
  ∃ r:Int,Fn Tryz.prog 126 #[x.val,iV n] v (iV r)∧((r=-1∧∀ i:Int,0≤i→i < ds.length→¬ conTyOk ds n i)∨(1≤r∧r≤ds.length∧conTyOk ds n (r - 1)∧∀ i:Int,0≤i→i < r - 1→¬ conTyOk ds n i)):=by
 classical
 have hxn:=hx.n
 have key:∀ (r:Int),((r=-1∧∀ i:Int,0≤i→i < ds.length→¬ conTyOk ds n i)∨(1≤r∧r≤ds.length∧conTyOk ds n (r - 1)∧∀ i:Int,0≤i→i < r - 1→¬ conTyOk ds n i))→Fn Tryz.prog 126 #[x.val,iV n] v (iV r):=by
  intro r hr
  refine of126 _ _ _ _ ?_
  unfold vc126
  refine ⟨fun i w=>v=w∧0≤i∧i≤ds.length∧∀ j:Int,0≤j→j < i→¬ conTyOk ds n j,fun i _=>(ds.length - i).toNat,⟨rfl,by omega,by omega,fun j j0 j1=>by omega⟩,?_⟩
  rintro i _ ⟨rfl,i0,i1,h⟩
  dsimp only
  refine ⟨fun hi=>?_,fun hi=>?_⟩
  ·simp only [bls] at hi
   have hil:i < ds.length:=by omega
   have hbi:=hb i i0 (by omega)
   have e2:=hc _ (nth_mem (l:=ds) i0 hil)
   refine ⟨_,c_firstCon hx hd hc i0 (by omega),?_⟩
   refine go_ix hx i0 hil ?_
   refine ld_decl_cons (hx.src (.refl _)) i0 hil ?_
   intro f hf
   have hfn:=hf.n
   refine go_wr (by omega) (by omega) ?_
   refine go_wr (by omega) (by omega) ?_
   refine ⟨_,c_inRange,fun hq=>?_,fun hq=>?_⟩
   ·simp only [Bool.and_eq_true,decide_eq_true_eq] at hq
    have hk:conTyOk ds n i:=⟨hq.1,by rw [←hfn];exact hq.2⟩
    refine go_wr (by omega) (by omega) ?_
    refine ⟨?_,.refl _⟩
    congr 1
    rcases hr with ⟨_,hr⟩|⟨r1,r2,r3,r4⟩
    ·exact absurd hk (hr i i0 hil)
    ·rcases Int.lt_trichotomy i (r - 1) with h1|h1|h1
     ·exact absurd hk (r4 i i0 h1)
     ·omega
     ·exact absurd r3 (h (r - 1) (by omega) h1)
   ·have hk:¬ conTyOk ds n i:=fun hk=>by
     rw [decide_eq_true hk.1,decide_eq_true (show n≤(firstC ds i.toNat:Int)+f.n - 1 by have:=hk.2;omega)] at hq
     cases hq
    refine go_wr (by omega) (by omega) ?_
    refine ⟨⟨rfl,by omega,by omega,fun j j0 j1=>?_⟩,by omega⟩
    by_cases e:j=i
    ·rw [e];exact hk
    ·exact h j j0 (by omega)
  ·simp only [bls] at hi
   refine ⟨?_,.refl _⟩
   congr 1
   rcases hr with ⟨hr,_⟩|⟨r1,r2,r3,r4⟩
   ·exact hr.symm
   ·exact absurd r3 (h (r - 1) (by omega) (by omega))
 by_cases hex:∃ i:Nat,(i:Int) < ds.length∧conTyOk ds n i
 ·have h1:=leastM_spec hex
  have h2:=fun k hk=>leastM_le (p:=fun i:Nat=>(i:Int) < ds.length∧conTyOk ds n i) (k:=k) hk
  generalize leastM (fun i:Nat=>(i:Int) < ds.length∧conTyOk ds n i)=j at h1 h2
  have hr:((((j:Int)+1)=-1∧∀ i:Int,0≤i→i < ds.length→¬ conTyOk ds n i)∨(1≤((j:Int)+1)∧((j:Int)+1)≤ds.length∧conTyOk ds n (((j:Int)+1) - 1)∧∀ i:Int,0≤i→i < ((j:Int)+1) - 1→¬ conTyOk ds n i)):=by
   right
   refine ⟨by omega,by omega,by rw [show (j:Int)+1 - 1=j from by omega];exact h1.2,fun i i0 i1 hk=>?_⟩
   have:=h2 i.toNat ⟨by omega,by rw [show ((i.toNat:Nat):Int)=i from by omega];exact hk⟩
   omega
  exact ⟨_,key _ hr,hr⟩
 ·have hr:(((-1:Int)=-1∧∀ i:Int,0≤i→i < ds.length→¬ conTyOk ds n i)∨(1≤(-1:Int)∧(-1:Int)≤ds.length∧conTyOk ds n ((-1:Int) - 1)∧∀ i:Int,0≤i→i < (-1:Int) - 1→¬ conTyOk ds n i)):=by
   left
   exact ⟨rfl,fun i i0 i1 hk=>hex ⟨i.toNat,by omega,by rw [show ((i.toNat:Nat):Int)=i from by omega];exact hk⟩⟩
  exact ⟨_,key _ hr,hr⟩
end
section

end
section

end
section

end
section

end
section
variable {v w:World} {x t:Sl} {l:List Int} {n k i:Int} {I J:Items}
def consL (ds:List DeclD) (t:Int):List Int:=if 1≤t∧t≤ds.length then (List.range (nth ds (t - 1)).cons.length).map fun (k:Nat)=>(firstC ds (t - 1).toNat:Int)+k else []
theorem c_consOf {ds:List DeclD} (hx:Read v x ds) (hn:InI n) (hd:ds.length≤1000) (hc:∀ d∈ds,d.cons.length≤1000) (hb:∀ i:Int,0≤i→i≤ds.length→(firstC ds i.toNat:Int)≤1000000000):
  Mk Tryz.prog 94 #[x.val,iV n] v fun r J=>∃ z,r=z.val∧Own v z (consL ds n) J:=by
 refine of94 _ _ _ _ ?_
 unfold vc94
 have hxn:=hx.n
 have hS:=St.refl v
 refine St.build (α:=Int) hS (by (repeat' (first|exact VsOf.nil|apply VsOf.cons|(apply VOf.int;first|assumption|(constructor<;>first|omega|(simp only [lz] at *;omega)))|exact VOf.bool|exact VOf.str))) rfl (by decide) ?_
 intro z0 w0 I0 hO0 hS hs
 refine ⟨_,rfl,_,c_inRange,fun hq=>?_,fun hq=>?_⟩
 ·have hno:consL ds n=[]:=if_neg (fun h=>by
   rw [decide_eq_true h.1,decide_eq_true (show n≤(x.n:Int) by omega)] at hq;cases hq)
  exact ⟨I0,by simpa using hS,z0,rfl,by rw [hno];exact hO0⟩
 ·have hr:1≤n∧n≤ds.length:=by simp at hq;omega
  have hyes:consL ds n=(List.range (nth ds (n - 1)).cons.length).map fun (k:Nat)=>(firstC ds (n - 1).toNat:Int)+k:=if_pos hr
  have h0:0≤n - 1:=by omega
  have h1:n - 1 < ds.length:=by omega
  have hcl:=hc _ (nth_mem (l:=ds) h0 h1)
  have hbf:=hb (n - 1) h0 (by omega)
  refine ⟨fun z i w=>∃ I,Own v z ((List.range i.toNat).map fun (k:Nat)=>(firstC ds (n - 1).toNat:Int)+k) I∧St v w (I++[])∧0≤i∧i≤(nth ds (n - 1)).cons.length,fun _ i _=>((nth ds (n - 1)).cons.length - i).toNat,⟨I0,hO0,hS,by omega,by omega⟩,?_⟩
  clear hO0 hS
  rintro z i w ⟨I,hO,hS,i0,i1⟩
  dsimp only
  have hxr:=hx.mono hS.sub
  refine go_wr (by omega) (by omega) ?_
  refine go_ix hxr h0 h1 ?_
  refine ld_decl_cons (hxr.src (.refl _)) h0 h1 ?_
  intro g hg
  have hgn:=hg.n
  refine ⟨fun hi=>?_,fun hi=>?_⟩
  ·simp only [bls] at hi
   refine go_wr (by omega) (by omega) ?_
   refine ⟨_,c_firstCon hxr (by omega) (fun d hd2=>by have:=hc d hd2;omega) h0 (by omega),?_⟩
   refine go_wr (by omega) (by omega) ?_
   refine St.build (α:=Int) hS (by (repeat' (first|exact VsOf.nil|apply VsOf.cons|(apply VOf.int;first|assumption|(constructor<;>first|omega|(simp only [lz] at *;omega)))|exact VOf.bool|exact VOf.str))) rfl (by decide) ?_
   intro x4 w4 I4 hO4 hS hs
   refine ⟨_,rfl,?_⟩
   refine Own.append hO hS (Own.src hO4 hS) (by simp;omega) (by decide) ?_
   intro x5 w5 I5 hO5 hS
   refine ⟨_,rfl,?_⟩
   refine go_wr (by omega) (by omega) ?_
   refine ⟨⟨I5,?_,hS.to,by omega,by omega⟩,by omega⟩
   rw [show (i+1).toNat=i.toNat+1 from by omega,List.range_succ,List.map_append,List.map_singleton,show ((i.toNat:Nat):Int)=i from by omega]
   exact hO5
  ·simp only [bls] at hi
   rw [show i.toNat=(nth ds (n - 1)).cons.length from by omega] at hO
   exact ⟨I,by simpa using hS,z,rfl,by rw [hyes];exact hO⟩
end
section

end
def conP (ds:List DeclD) (c:Int) (i:Nat):Prop:=(i:Int) < ds.length∧conTyOk ds c i
open Classical in
noncomputable def conI (ds:List DeclD) (c:Int):Int:=if ∃ i:Nat,conP ds c i then (leastM (conP ds c):Int) else -1
noncomputable def conF (ds:List DeclD) (c:Int):List Int:=if conI ds c < 0 then [] else (nth (nth ds (conI ds c)).cons (c - firstC ds (conI ds c).toNat)).fields
structure SmDs (ds:List DeclD):Prop where
 len:ds.length≤4
 cons:∀ d∈ds,d.cons.length≤3
section
variable {ds:List DeclD} {c i j n:Int}
theorem conI_cases (ds:List DeclD) (c:Int):(conI ds c=-1∧∀ i:Int,0≤i→i < ds.length→¬ conTyOk ds c i)∨(0≤conI ds c∧conI ds c < ds.length∧conTyOk ds c (conI ds c)∧∀ i:Int,0≤i→i < conI ds c→¬ conTyOk ds c i):=by
 unfold conI
 split
 ·rename_i h
  have h1:=leastM_spec h
  refine .inr ⟨by omega,h1.1,h1.2,fun i i0 i1 hk=>?_⟩
  have:=leastM_le (p:=conP ds c) (k:=i.toNat) ⟨by have:=h1.1;omega,by rw [show ((i.toNat:Nat):Int)=i from by omega];exact hk⟩
  omega
 ·rename_i h
  exact .inl ⟨rfl,fun i i0 i1 hk=>h ⟨i.toNat,by omega,by rw [show ((i.toNat:Nat):Int)=i from by omega];exact hk⟩⟩
theorem conI_some (i0:0≤i) (i1:i < ds.length) (h:conTyOk ds c i) (hm:∀ j:Int,0≤j→j < i→¬ conTyOk ds c j):conI ds c=i:=by
 rcases conI_cases ds c with ⟨_,h2⟩|⟨h1,h2,h3,h4⟩
 ·exact absurd h (h2 i i0 i1)
 ·rcases Int.lt_trichotomy i (conI ds c) with h5|h5|h5
  ·exact absurd h (h4 i i0 h5)
  ·exact h5.symm
  ·exact absurd h3 (hm _ h1 h5)
theorem conI_none (h:∀ i:Int,0≤i→i < ds.length→¬ conTyOk ds c i):conI ds c=-1:=by
 rcases conI_cases ds c with ⟨h1,_⟩|⟨h1,h2,h3,h4⟩
 ·exact h1
 ·exact absurd h3 (h _ h1 h2)
theorem firstC_le (h:∀ d∈ds,d.cons.length≤3):∀ n:Nat,firstC ds n≤3 * n
 | 0=>by simp [firstC]
 | n+1=>by
  have ih:=firstC_le h n
  by_cases hn:n < ds.length
  ·have:=firstC_succ (ds:=ds) (i:=n) (by omega) (by omega)
   rw [show ((n:Int)+1).toNat=n+1 from by omega,show ((n:Int)).toNat=n from by omega] at this
   have:=h _ (nth_mem (l:=ds) (i:=n) (by omega) (by omega))
   omega
  ·have:firstC ds (n+1)=firstC ds n:=by unfold firstC;rw [List.take_of_length_le (by omega),List.take_of_length_le (by omega)]
   omega
theorem firstC_mono {a b:Nat} (h:a≤b):firstC ds a≤firstC ds b:=by
 induction b with
 | zero=>rw [show a=0 from by omega];exact Nat.le_refl _
 | succ b ih=>
  rcases Nat.lt_or_ge a (b+1) with h1|h1
  ·refine Nat.le_trans (ih (by omega)) ?_
   by_cases hn:b < ds.length
   ·have:=firstC_succ (ds:=ds) (i:=b) (by omega) (by omega)
    rw [show ((b:Int)+1).toNat=b+1 from by omega,show ((b:Int)).toNat=b from by omega] at this
    omega
   ·have:firstC ds (b+1)=firstC ds b:=by unfold firstC;rw [List.take_of_length_le (by omega),List.take_of_length_le (by omega)]
    omega
  ·rw [show a=b+1 from by omega];exact Nat.le_refl _
theorem SmDs.fc (h:SmDs ds) (n:Nat) (hn:n≤ds.length):firstC ds n≤12:=by
 have:=firstC_le h.cons n
 have:=h.len
 omega
theorem SmDs.hb (h:SmDs ds):∀ i:Int,0≤i→i≤ds.length→(firstC ds i.toNat:Int)≤1000000000:=fun i i0 i1=>by
 have:=h.fc i.toNat (by omega);omega
theorem SmDs.hb' (h:SmDs ds):∀ i:Int,0≤i→i≤ds.length→(firstC ds i.toNat:Int)≤1000000 * 1000000:=fun i i0 i1=>by
 have:=h.fc i.toNat (by omega);omega
end
section
variable {v:World} {x:Sl} {l:List Int} {ds:List DeclD} {n a i:Int}
theorem typesOk.sm (h:typesOk ds):SmDs ds:=by
 refine ⟨h.1,fun d hd=>?_⟩
 obtain ⟨i,hi,rfl⟩:=List.mem_iff_getElem.1 hd
 have:=(declOk_easy (h.2 i (by omega) (by omega))).2.2.1
 rwa [nth_of (i:=i) (l:=ds) (a:=ds[i]) (by simp [hi])] at this
noncomputable def conTyV (ds:List DeclD) (c:Int):Int:=if conI ds c < 0 then -1 else conI ds c+1
theorem c_specConType (hx:Read v x ds) (hd:SmDs ds):Fn Tryz.prog 126 #[x.val,iV n] v (iV (conTyV ds n)):=by
 obtain ⟨r,h1,h2⟩:=c_conType (n:=n) hx (by have:=hd.len;omega) (fun d h=>by have:=hd.cons d h;omega) hd.hb'
 have:r=conTyV ds n:=by
  unfold conTyV
  rcases h2 with ⟨rfl,h2⟩|⟨r1,r2,r3,r4⟩
  ·rw [conI_none h2,if_pos (by omega)]
  ·rw [conI_some (by omega) (by omega) r3 r4,if_neg (by omega)];omega
 rw [←this];exact h1
end
def setsR (op:Int):Bool:=(((decide (op≥0) && decide (op≤11)) || decide (op=18)) || decide (op=19))
def opOk (op:Int):Prop:=0≤op∧op≤24∧op≠7∧op≠8∧op≠12∧op≠13
def numV (ds:List DeclD) (ss:List SigD) (at_ end_ op num:Int) (jl:Nat):Prop:=
 (op=0→-999≤num∧num≤999)∧(op=6→0≤num∧num < firstC ds ds.length)∧(op=9∨op=24→0≤num∧num < ss.length)∧(op=10→0≤num∧num < ss.length∧(nth ss num).lent.length=0)∧
 (op=19→0≤num∧num < 3)∧(op=20∨op=22→at_ < num∧num < end_)∧(op=21→0 < (consL ds num).length∧jl=(consL ds num).length)∧
 (op=1∨op=2∨op=3∨op=4∨op=5∨op=11∨op=14∨op=15∨op=16∨op=17∨op=18∨op=23→num=0)
noncomputable def argLo (ds:List DeclD) (ss:List SigD) (op num:Int):Int:=
 if op=0∨op=22 then 0 else if op=1∨op=2∨op=3∨op=4∨op=11 then 2 else if op=6 then (conF ds num).length else if op=9∨op=24 then (nth ss num).params.length else if op=10 then ((nth ss num).params.length:Int) - 1 else 1
noncomputable def argHi (ds:List DeclD) (ss:List SigD) (op num:Int):Int:=if op=16∨op=17 then 4 else argLo ds ss op num
def instrOk (ds:List DeclD) (ss:List SigD) (regs end_ at_:Int) (c:InstrD):Prop:=
 opOk c.op∧c.args.all (laterB 0 (regs - 1))=true∧(0≤c.dst∧c.dst < regs)∧(c.dst=0∨setsR c.op=true)∧(0≤c.into∧c.into≤regs)∧(c.into=0∨c.op=6)∧(c.op=21∨c.jumps.length=0)∧
 c.jumps.all (laterB (at_+1) (end_ - 1))=true∧numV ds ss at_ end_ c.op c.num c.jumps.length∧argLo ds ss c.op c.num≤c.args.length∧(c.args.length:Int)≤argHi ds ss c.op c.num
section

end
def sigOf (p:ProcD):SigD:=⟨p.params,p.lent,p.result⟩
section

end
section

set_option maxHeartbeats 1600000 in
end
noncomputable def pB (p:Prop):Bool:=@decide p (Classical.propDecidable p)
theorem pB_t {p:Prop} (h:p):pB p=true:=by unfold pB;exact @decide_eq_true _ (Classical.propDecidable _) h
theorem pB_f {p:Prop} (h:¬ p):pB p=false:=by unfold pB;exact @decide_eq_false _ (Classical.propDecidable _) h
theorem pB_eq {p:Prop} {q:Bool} (h:q=true↔p):q=pB p:=by
 cases q with
 | true=>rw [pB_t (h.1 rfl)]
 | false=>rw [pB_f fun hh=>Bool.noConfusion (h.2 hh)]
theorem pB_iff {p:Prop}:pB p=true↔p:=by unfold pB;exact @decide_eq_true_iff _ (Classical.propDecidable _)
structure FuncD where
 params:List Int
 result:Int
instance:Inhabited FuncD:=⟨⟨[],0⟩⟩
instance:Dat FuncD where
 sz:=5
 cells B w cs c:=∃ f:Sl,cs=[f.val,intV c.result,intV 0,intV 0,.slice none 0 0]∧InI c.result∧ReadB B w f c.params
 mono:=fun hs ⟨f,h0,i,r⟩=>⟨f,h0,i,r.mono hs⟩
 len:=fun ⟨f,h0,_⟩=>by rw [h0];rfl
 one:=fun ⟨f,h0,_⟩ v hv=>by
  rw [h0] at hv;simp only [List.mem_cons,List.not_mem_nil,or_false] at hv
  rcases hv with rfl|rfl|rfl|rfl|rfl<;>rfl
instance:SlT Tryz.prog 66 5 72 [.slice none 0 0,intV 0,intV 0,intV 0,.slice none 0 0]:=.of (by kernel_rfl) rfl (by decide)
theorem Src.ofFuncD {u w:World} {x:Sl} {l:List FuncD} {i:Int} (hx:Src u w x l) (h0:0≤i) (h1:i < l.length):∃ f:Sl,w.cell? ((elA x i 5).add 0)=some f.val∧w.cell? ((elA x i 5).add 1)=some (iV (nth l i).result)∧w.cell? ((elA x i 5).add 2)=some (iV 0)∧w.cell? ((elA x i 5).add 3)=some (iV 0)∧w.cell? ((elA x i 5).add 4)=some (.slice none 0 0)∧InI (nth l i).result∧Read u f (nth l i).params:=by
 obtain ⟨r,⟨f,rfl,i1,r1⟩,h5⟩:=hx.row h0 h1
 exact ⟨f,h5 0 _ rfl,h5 1 _ rfl,h5 2 _ rfl,h5 3 _ rfl,h5 4 _ rfl,i1,r1⟩
def sigP (ds:List DeclD) (ps:List Int) (r:Int):Prop:=ps.length≤3∧ps.all (typeB ds.length)=true∧typeB ds.length r=true
def fnSigs (ds:List DeclD) (fs:List FuncD):Prop:=typesOk ds∧1≤fs.length∧fs.length≤4∧(∀ i:Int,0≤i→i < fs.length→sigP ds (nth fs i).params (nth fs i).result)∧(nth fs 0).params.length=0∧(nth fs 0).result=0
def sigSigs (ds:List DeclD) (ss:List SigD):Prop:=typesOk ds∧1≤ss.length∧ss.length≤4∧(nth ss 0).params.length=0∧(nth ss 0).result=0∧∀ i:Int,0≤i→i < ss.length→sigP ds (nth ss i).params (nth ss i).result∧lentOk (nth ss i).params (nth ss i).lent
section
variable {v w:World} {x y:Sl} {ds:List DeclD} {gs:List FuncD} {b n a e i:Int}
theorem typesB_iff:typesB ds=true↔typesOk ds:=by unfold typesB;exact @decide_eq_true_iff _ (Classical.propDecidable _)
theorem lentB_iff {a b:List Int}:lentB a b=true↔lentOk a b:=by unfold lentB;exact @decide_eq_true_iff _ (Classical.propDecidable _)
theorem c_specValidSigs (hx:Read v x ds) (hy:Read v y gs):Fn Tryz.prog 158 #[.agg #[x.val,y.val]] v (.bool (pB (fnSigs ds gs))):=by
 refine of158 _ _ _ _ ?_
 unfold vc158
 have hxn:=hx.n
 have hxl:=hx.le
 have hyn:=hy.n
 have bad:¬ fnSigs ds gs→Value.bool false=.bool (pB (fnSigs ds gs)):=fun h=>by rw [pB_f h]
 refine ⟨_,c_specValidTypes hx,_,fun _=>c_inRange,fun hq=>⟨?_,.refl v⟩,fun hq=>?_⟩
 ·refine bad fun h=>?_
  rw [typesB_t h.1] at hq
  have h2:=h.2.1
  have h3:=h.2.2.1
  simp at hq
  omega
 simp only [Bool.or_eq_false_iff,Bool.not_eq_false',Bool.and_eq_true,decide_eq_true_eq] at hq
 have hty:=typesB_iff.1 hq.1
 have hlen:=hty.1
 refine ⟨fun i w=>v=w∧0≤i∧i≤gs.length∧∀ j:Int,0≤j→j < i→sigP ds (nth gs j).params (nth gs j).result,fun i _=>(gs.length - i).toNat,⟨rfl,by omega,by omega,fun j j0 j1=>by omega⟩,?_⟩
 rintro i _ ⟨rfl,i0,i1,h⟩
 dsimp only
 refine ⟨fun hi=>?_,fun hi=>?_⟩
 ·simp only [bls] at hi
  have hil:i < gs.length:=by omega
  obtain ⟨f1,e1,e2,e3,e4,e5,j1,r1⟩:=(hy.src (.refl v)).ofFuncD i0 hil
  have hfn:=r1.n
  refine go_ix hy i0 hil ?_
  refine ⟨f1,_,_,_,⟨none,0,0⟩,⟨e1,e2,e3,e4,e5⟩,?_⟩
  refine ⟨_,fun _=>c_allTypes hxn hxl r1,_,fun _=>c_inRange,fun hq=>⟨?_,.refl v⟩,fun hq=>?_⟩
  ·refine bad fun h=>?_
   obtain ⟨s1,s2,s3⟩:=h.2.2.2.1 i i0 hil
   unfold typeB at s3
   rw [s2,hxn,s3] at hq
   simp at hq
   omega
  ·have hs:sigP ds (nth gs i).params (nth gs i).result:=by
    simp only [Bool.or_eq_false_iff,Bool.not_eq_false'] at hq
    refine ⟨by have:=of_decide_eq_false hq.1.1;omega,hq.1.2,?_⟩
    have:=hq.2
    rw [hxn] at this
    exact this
   refine go_wr (by omega) (by omega) ?_
   refine ⟨rfl,rfl,⟨rfl,by omega,by omega,fun j j0 j1=>?_⟩,by omega⟩
   by_cases e:j=i
   ·rw [e];exact hs
   ·exact h j j0 (by omega)
 ·simp only [bls] at hi
  have h0:(0:Int) < gs.length:=by omega
  obtain ⟨f1,e1,e2,e3,e4,e5,j1,r1⟩:=(hy.src (.refl v)).ofFuncD (Int.le_refl 0) h0
  have hfn:=r1.n
  refine go_ix hy (Int.le_refl 0) h0 ?_
  refine ⟨f1,e1,fun _=>hy.ix (Int.le_refl 0) h0,_,fun _=>e2,?_,.refl v⟩
  congr 1
  refine pB_eq ?_
  simp only [Bool.and_eq_true,decide_eq_true_eq]
  constructor
  ·intro hq2
   exact ⟨hty,by omega,by omega,fun j j0 j1=>h j j0 (by omega),by omega,hq2.2⟩
  ·intro hh
   exact ⟨by have:=hh.2.2.2.2.1;omega,hh.2.2.2.2.2⟩
end
section

end
class Shr (α:Type) [Dat α] [Cost α]:Prop where
 shr:∀ {B:Nat} {w:World} {cs:List Value} {a:α},Dat.cells B w cs a→Cost.cost a≤1099511627776→Dat.cells BB w cs a
theorem cost_mem {α:Type} [Cost α] {l:List α} {a:α} (h:a∈l):Cost.cost a≤(l.map Cost.cost).sum:=by
 induction l with
 | nil=>cases h
 | cons b r ih=>
  rw [List.map_cons,List.sum_cons]
  rcases List.mem_cons.1 h with rfl|h
  ·omega
  ·have:=ih h;omega
theorem ReadB.shr {α:Type} [Dat α] [Cost α] [Shr α] {B:Nat} {v:World} {x:Sl} {l:List α} (hx:ReadB B v x l) (h:costL l≤1099511627776):Read v x l:=by
 obtain ⟨rows,h1,h2,h3⟩:=hx
 unfold costL at h
 exact ⟨rows,h1,⟨h2.1,fun i r a hr ha=>Shr.shr (h2.2 i r a hr ha) (by have:=cost_mem (List.mem_of_getElem? ha);omega)⟩,by show l.length≤1099511627776;omega⟩
instance:Shr ConD:=⟨fun ⟨f,h0,r⟩ hc=>⟨f,h0,r.toInts hc⟩⟩
instance:Shr DeclD:=⟨fun ⟨f,h0,i1,i2,r⟩ hc=>⟨f,h0,i1,i2,r.shr hc⟩⟩
instance:Shr InstrD:=⟨fun {B w cs a} ⟨f,g,h0,i1,i2,i3,i4,r1,r2⟩ hc=>⟨f,g,h0,i1,i2,i3,i4,r1.toInts (by have:a.args.length+a.jumps.length≤1099511627776:=hc;show _≤1099511627776;omega),r2.toInts (by have:a.args.length+a.jumps.length≤1099511627776:=hc;show _≤1099511627776;omega)⟩⟩
instance:Shr ProcD:=⟨fun {B w cs a} ⟨f,g,k,h0,i1,i2,r1,r2,r3⟩ hc=>by
 have hc:a.params.length+a.lent.length+costL a.code≤1099511627776:=hc
 exact ⟨f,g,k,h0,i1,i2,r1.toInts (by show _≤1099511627776;omega),r2.toInts (by show _≤1099511627776;omega),r3.shr (by omega)⟩⟩
section
variable {ds:List DeclD} {n:Int}
theorem consL_sm (h:typesOk ds):(consL ds n).length≤3∧(0 < (consL ds n).length→1≤n∧n≤ds.length):=by
 unfold consL
 split
 ·rename_i hp
  have:=(declOk_easy (h.2 (n - 1) (by omega) (by omega))).2.2.1
  simp only [List.length_map,List.length_range]
  exact ⟨this,fun _=>hp⟩
 ·simp
end
section

end
class Mark (α:Type) where
 room:α→Nat
 mark:Int→α→α
def rooms {α:Type} [Mark α] (l:List α):Nat:=(l.map Mark.room).sum
def markL {α:Type} [Mark α]:Int→List α→List α
 | _,[]=>[]
 | n,a ::r=>Mark.mark n a ::markL (n+Mark.room a) r
section
variable {α:Type} [Mark α]
end
instance:Mark ConD:=⟨fun c=>c.fields.length,fun n c=>⟨marks (n) c.fields.length⟩⟩
section

end
instance:Mark DeclD:=⟨fun c=>1+1+rooms c.cons,fun n c=>⟨n,n+1,markL (n+1+1) c.cons⟩⟩
section

end
instance:Mark InstrD:=⟨fun c=>1+1+1+1+c.args.length+c.jumps.length,fun n c=>⟨n,n+1,n+1+1,n+1+1+1,marks (n+1+1+1+1) c.args.length,marks (n+1+1+1+1+c.args.length) c.jumps.length⟩⟩
section

end
instance:Mark ProcD:=⟨fun c=>c.params.length+c.lent.length+1+1+rooms c.code,fun n c=>⟨marks (n) c.params.length,marks (n+c.params.length) c.lent.length,n+c.params.length+c.lent.length,n+c.params.length+c.lent.length+1,markL (n+c.params.length+c.lent.length+1+1) c.code⟩⟩
section

end
end Go.Vc
