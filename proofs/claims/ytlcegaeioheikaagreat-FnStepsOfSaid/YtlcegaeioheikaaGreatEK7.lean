/- Part of the proofs about the heaps and memories: a law is joined in the text whose name ends in W and the law. -/
import Derived.Test.YtlcegaeioheikaaGreatEK6
import Derived.Test.YtlcegaeioheikaaGreatEK1
set_option linter.all false
namespace Go.Vc
open Go Go.Proofs Go.RowKit
theorem c_pickL {u w:World} {a:Addr} {m n:Int} {I L R:Items} {F:Items→Items} (hr:Rdr u a m I) (hS:St u w L) [p:Pos I L R F] (hm:m≤1000000000) (hn1:-1000000000000≤n) (hn:n≤2000000000000):
  Trip Tryz.prog 27 #[.pointer (some (a.add 0)),.int .i64 n] w fun r w'=>∃ k I',r=.int .i64 k∧Rdr u a (m+1) I'∧St u w' (I'++R)∧0≤k∧(1≤n→k < n)∧(n < 1→k=0):=by
 replace hS:=hS.front (I:=I)
 obtain ⟨b,bs,q,hC,hB,hbs,hq0,hq1⟩:=hr
 refine of27 _ _ _ _ ?_
 unfold vc27
 have hbn:=hB.n
 have fin:∀ (w1:World) (I1:Items) (k:Int),Cel a [b.val,.int .i64 (q+1)] I1→St u w1 (I1++R)→0≤k→(1≤n→k < n)→(n < 1→k=0)→
   ∃ k' I',Value.int .i64 k=.int .i64 k'∧Rdr u a (m+1) I'∧St u w1 (I'++R)∧0≤k'∧(1≤n→k' < n)∧(n < 1→k'=0):=
  fun w1 I1 k h1 h2 h3 h4 h5=>⟨k,I1,rfl,⟨b,bs,q+1,h1,hB,hbs,by omega,by omega⟩,h2,h3,h4,h5⟩
 have tm:∀ x y:Int,0≤x→0 < y→0≤x.tmod y∧x.tmod y < y:=fun x y h1 h2=>⟨Int.tmod_nonneg _ h1,Int.tmod_lt_of_pos _ h2⟩
 have td:∀ x y:Int,0≤x→0 < y→0≤x.tdiv y∧x.tdiv y≤x:=fun x y h1 h2=>⟨Int.tdiv_nonneg h1 (by omega),Int.tdiv_le_self _ h1⟩
 repeat' first|(intro hc;simp only [bls] at hc)|(refine go_wr (by first|omega|(simp only [lz] at *;omega)) (by first|omega|(simp only [lz] at *;omega)) ?_)|(refine go_wrg (by (intro hc;simp only [bls] at hc;constructor<;>first|omega|(simp only [lz] at *;omega))) ?_)|(refine go_ix (by assumption) (by first|omega|(simp only [lz] at *;omega)) (by first|omega|(simp only [lz] at *;omega)) ?_)|(refine go_oix (by assumption) (by first|omega|(simp only [lz] at *;omega)) (by first|omega|(simp only [lz] at *;omega)) ?_)|(refine go_ixg (by assumption) (by (intro hc;simp only [bls] at hc;constructor<;>first|omega|(simp only [lz] at *;omega))) ?_)|(refine go_oixg (by assumption) (by (intro hc;simp only [bls] at hc;constructor<;>first|omega|(simp only [lz] at *;omega))) ?_)|(refine ld_cell (by first|exact ReadB.src (by assumption) hS.sub|exact Own.src (by assumption) hS) (by first|omega|(simp only [lz] at *;omega)) (by first|omega|(simp only [lz] at *;omega)) ?_;intro f hf hcI htI)|(refine ld_count (by first|exact ReadB.src (by assumption) hS.sub|exact Own.src (by assumption) hS) (by first|omega|(simp only [lz] at *;omega)) (by first|omega|(simp only [lz] at *;omega)) ?_;intro hlo hhi)|(refine ld_countg (by first|exact ReadB.src (by assumption) hS.sub|exact Own.src (by assumption) hS) (by (intro hc;simp only [bls] at hc;constructor<;>first|omega|(simp only [lz] at *;omega))) ?_)|(refine ld_tag (by first|exact ReadB.src (by assumption) hS.sub|exact Own.src (by assumption) hS) (by first|omega|(simp only [lz] at *;omega)) (by first|omega|(simp only [lz] at *;omega)) ?_;intro hlo hhi)|(refine ld_fields (by first|exact ReadB.src (by assumption) hS.sub|exact Own.src (by assumption) hS) (by first|omega|(simp only [lz] at *;omega)) (by first|omega|(simp only [lz] at *;omega)) ?_;intro f hf)|(refine ld_fieldsg (by first|exact ReadB.src (by assumption) hS.sub|exact Own.src (by assumption) hS) (by (intro hc;simp only [bls] at hc;constructor<;>first|omega|(simp only [lz] at *;omega))) ?_;intro f hf)|(refine ld_int (by first|exact ReadB.mono (by assumption) hS.sub|exact Own.read (by assumption) hS|assumption) (by first|omega|(simp only [lz] at *;omega)) (by first|omega|(simp only [lz] at *;omega)) ?_;intro hlo hhi)|(refine ld_bool (by first|exact ReadB.mono (by assumption) hS.sub|exact Own.read (by assumption) hS|assumption) (by first|omega|(simp only [lz] at *;omega)) (by first|omega|(simp only [lz] at *;omega)) ?_)|(refine ld_byte (by first|exact ReadB.mono (by assumption) hS.sub|exact Own.read (by assumption) hS|assumption) (by first|omega|(simp only [lz] at *;omega)) (by first|omega|(simp only [lz] at *;omega)) ?_;intro hlo hhi)|(refine ld_intg (by first|exact ReadB.mono (by assumption) hS.sub|exact Own.read (by assumption) hS|assumption) (by (intro hc;simp only [bls] at hc;constructor<;>first|omega|(simp only [lz] at *;omega))) ?_)|(refine ld_boolg (by first|exact ReadB.mono (by assumption) hS.sub|exact Own.read (by assumption) hS|assumption) (by (intro hc;simp only [bls] at hc;constructor<;>first|omega|(simp only [lz] at *;omega))) ?_)|(refine ⟨_,Cel.load (by assumption) hS rfl,?_⟩)|(refine ⟨_,fun _=>Cel.load (by assumption) hS rfl,?_⟩)|(refine go_max ?_)|(refine go_nil ?_)|(refine Cel.store (by assumption) hS (by simp) ?_;intro w1 I1 hC hS;simp [putR] at hC)|(refine st_int (by assumption) hS (by first|omega|(simp only [lz] at *;omega)) (by first|omega|(simp only [lz] at *;omega)) (by first|assumption|(constructor<;>first|omega|(simp only [lz] at *;omega))) ?_;intro w1 I1 hO hS)|(refine st_bool (by assumption) hS (by first|omega|(simp only [lz] at *;omega)) (by first|omega|(simp only [lz] at *;omega)) ?_;intro w1 I1 hO hS)|(with_reducible refine And.intro rfl ?_)|(with_reducible refine And.intro (by omega) ?_)|(with_reducible refine And.intro ?_ ?_)|(with_reducible rfl)|assumption|omega|exact hS.sub
 ·have t0:=tm 0 1 (by omega) (by omega)
  rcases hc with hc|hc
  ·exact fin _ _ 0 hC hS (by omega) (by omega) (by omega)
  ·exact fin _ _ 0 hC hS (by omega) (by omega) (by omega)
 ·exact fin _ _ _ hC hS (tm _ n (by omega) (by omega)).1 (fun _=>(tm _ n (by omega) (by omega)).2) (by omega)
 ·exact hB.ix (tm _ _ (by omega) (by omega)).1 (by have:=(tm (q+1 - 1) b.n (by omega) (by omega)).2;omega)
 ·have t0:=tm (q+1 - 1) b.n (by omega) (by omega)
  have t1:=tm ((q+1 - 1) * 7+3) b.n (by omega) (by omega)
  have t2:=td (q+1 - 1) b.n (by omega) (by omega)
  refine ld_byte (hB.mono hS.sub) t0.1 (by omega) ?_
  intro b0 b1
  refine go_wr (by omega) (by omega) ?_
  refine go_wr (by omega) (by omega) ?_
  refine ⟨_,Cel.load hC hS rfl,?_⟩
  refine go_wr (by omega) (by omega) ?_
  refine go_wr (by omega) (by omega) ?_
  refine ⟨_,Cel.load hC hS rfl,by omega,hB.ix t1.1 (by omega),?_⟩
  refine ld_byte (hB.mono hS.sub) t1.1 (by omega) ?_
  intro b2 b3
  repeat' first|(intro hc;simp only [bls] at hc)|(refine go_wr (by first|omega|(simp only [lz] at *;omega)) (by first|omega|(simp only [lz] at *;omega)) ?_)|(refine go_wrg (by (intro hc;simp only [bls] at hc;constructor<;>first|omega|(simp only [lz] at *;omega))) ?_)|(refine go_ix (by assumption) (by first|omega|(simp only [lz] at *;omega)) (by first|omega|(simp only [lz] at *;omega)) ?_)|(refine go_oix (by assumption) (by first|omega|(simp only [lz] at *;omega)) (by first|omega|(simp only [lz] at *;omega)) ?_)|(refine go_ixg (by assumption) (by (intro hc;simp only [bls] at hc;constructor<;>first|omega|(simp only [lz] at *;omega))) ?_)|(refine go_oixg (by assumption) (by (intro hc;simp only [bls] at hc;constructor<;>first|omega|(simp only [lz] at *;omega))) ?_)|(refine ld_cell (by first|exact ReadB.src (by assumption) hS.sub|exact Own.src (by assumption) hS) (by first|omega|(simp only [lz] at *;omega)) (by first|omega|(simp only [lz] at *;omega)) ?_;intro f hf hcI htI)|(refine ld_count (by first|exact ReadB.src (by assumption) hS.sub|exact Own.src (by assumption) hS) (by first|omega|(simp only [lz] at *;omega)) (by first|omega|(simp only [lz] at *;omega)) ?_;intro hlo hhi)|(refine ld_countg (by first|exact ReadB.src (by assumption) hS.sub|exact Own.src (by assumption) hS) (by (intro hc;simp only [bls] at hc;constructor<;>first|omega|(simp only [lz] at *;omega))) ?_)|(refine ld_tag (by first|exact ReadB.src (by assumption) hS.sub|exact Own.src (by assumption) hS) (by first|omega|(simp only [lz] at *;omega)) (by first|omega|(simp only [lz] at *;omega)) ?_;intro hlo hhi)|(refine ld_fields (by first|exact ReadB.src (by assumption) hS.sub|exact Own.src (by assumption) hS) (by first|omega|(simp only [lz] at *;omega)) (by first|omega|(simp only [lz] at *;omega)) ?_;intro f hf)|(refine ld_fieldsg (by first|exact ReadB.src (by assumption) hS.sub|exact Own.src (by assumption) hS) (by (intro hc;simp only [bls] at hc;constructor<;>first|omega|(simp only [lz] at *;omega))) ?_;intro f hf)|(refine ld_int (by first|exact ReadB.mono (by assumption) hS.sub|exact Own.read (by assumption) hS|assumption) (by first|omega|(simp only [lz] at *;omega)) (by first|omega|(simp only [lz] at *;omega)) ?_;intro hlo hhi)|(refine ld_bool (by first|exact ReadB.mono (by assumption) hS.sub|exact Own.read (by assumption) hS|assumption) (by first|omega|(simp only [lz] at *;omega)) (by first|omega|(simp only [lz] at *;omega)) ?_)|(refine ld_byte (by first|exact ReadB.mono (by assumption) hS.sub|exact Own.read (by assumption) hS|assumption) (by first|omega|(simp only [lz] at *;omega)) (by first|omega|(simp only [lz] at *;omega)) ?_;intro hlo hhi)|(refine ld_intg (by first|exact ReadB.mono (by assumption) hS.sub|exact Own.read (by assumption) hS|assumption) (by (intro hc;simp only [bls] at hc;constructor<;>first|omega|(simp only [lz] at *;omega))) ?_)|(refine ld_boolg (by first|exact ReadB.mono (by assumption) hS.sub|exact Own.read (by assumption) hS|assumption) (by (intro hc;simp only [bls] at hc;constructor<;>first|omega|(simp only [lz] at *;omega))) ?_)|(refine ⟨_,Cel.load (by assumption) hS rfl,?_⟩)|(refine ⟨_,fun _=>Cel.load (by assumption) hS rfl,?_⟩)|(refine go_max ?_)|(refine go_nil ?_)|(refine Cel.store (by assumption) hS (by simp) ?_;intro w1 I1 hC hS;simp [putR] at hC)|(refine st_int (by assumption) hS (by first|omega|(simp only [lz] at *;omega)) (by first|omega|(simp only [lz] at *;omega)) (by first|assumption|(constructor<;>first|omega|(simp only [lz] at *;omega))) ?_;intro w1 I1 hO hS)|(refine st_bool (by assumption) hS (by first|omega|(simp only [lz] at *;omega)) (by first|omega|(simp only [lz] at *;omega)) ?_;intro w1 I1 hO hS)|(with_reducible refine And.intro rfl ?_)|(with_reducible refine And.intro (by omega) ?_)|(with_reducible refine And.intro ?_ ?_)|(with_reducible rfl)|assumption|omega|exact hS.sub
  ·refine go_quo (by omega) (by omega) (by omega) ?_
   have t3:=td (↑(nth bs ((q+1 - 1).tmod ↑b.n)).toNat * 131+↑(nth bs (((q+1 - 1) * 7+3).tmod ↑b.n)).toNat * 1117+(q+1 - 1) * 29+(q+1 - 1).tdiv ↑b.n * 53) 64 (by omega) (by omega)
   refine go_wr (by omega) (by omega) ?_
   refine go_wr (by omega) (by omega) ?_
   refine go_quo (by omega) (by omega) (by omega) ?_
   refine go_xor (by omega) (by omega) (by omega) (by omega) ?_
   intro r hr0 hr1
   exact ⟨by omega,fin _ _ _ hC hS (tm _ n (by omega) (by omega)).1 (fun _=>(tm _ n (by omega) (by omega)).2) (by omega)⟩
def AQ (u:World) (a:Addr) (R:Items) (m:Int) (r:Value) (w:World):Prop:=∃ (x y:Sl) (u':World) (rs:List RoutD),r=.agg #[x.val,y.val]∧Sub u u'∧GS u' a R m w∧Read u' y rs∧1≤rs.length∧rs.length≤4
section
variable {u u' v w:World} {x y z s f xa xk xs px lx xo xl xf:Sl} {ds:List DeclD} {rs:List RoutD} {fs:List FunD} {a:Addr} {I J L R:Items} {n m op num into result fr nf i many q m':Int} {d V N N2 N' e M:Nat} {l k args vars params lent env owned later fields mine vs kept:List Int} {ll:List (List Int)} {kids:List BlockD} {steps sts run:List StepD} {b:BlockD} {c:StepD} {ro:RoutD}
theorem gs_pickL (h:GS u a R m w) (hm:m≤1000000000) (hn1:-1000000000000≤n) (hn:n≤2000000000000) {K:Int→World→Prop}
  (k:∀ j w',GS u a R (m+1) w'→0≤j→(1≤n→j < n)→(n < 1→j=0)→K j w'):
  Trip Tryz.prog 27 #[.pointer (some (a.add 0)),.int .i64 n] w fun r w'=>∃ j,r=.int .i64 j∧K j w':=by
 obtain ⟨I,h1,h2⟩:=h
 refine (c_pickL h1 h2 hm hn1 hn).mono' ?_
 rintro _ w' ⟨j,I',rfl,h3,h4,h5,h6,h7⟩
 exact ⟨j,rfl,k j w' ⟨I',h3,h4⟩ h5 h6 h7⟩
theorem GS.start {code:List UInt8} {K:Addr→World→Prop} (hx:Read v x code) (k:∀ a w',GS v a [] 0 w'→K a w'):Trip Tryz.prog 17 #[x.val] v fun r w'=>∃ a:Addr,r=.pointer (some (a.add 0))∧K a w':=by
 refine Mk.use (c_newReader hx) (.refl v) ?_
 rintro _ w1 J1 ⟨a,rfl,hR⟩ hS _
 exact ⟨a,rfl,k a w1 ⟨J1,hR,hS⟩⟩
theorem PlL.sh:∀ {d m:Nat} {l:List StepD},PlL ds nf d m l→d≤M→∀ s∈l,ShS ds M d s
 | _,_,[],_,_=>fun s hs=>by cases hs
 | 0,_,_ ::_,h,_=>h.elim
 | d+1,m,s ::r,h,hM=>by
  obtain ⟨h1,h2,h3⟩:=PlL.cons.1 h
  intro t ht
  rcases List.mem_cons.1 ht with rfl|ht
  ·refine ⟨h1.sh,fun k hk=>?_⟩
   obtain ⟨i,hi⟩:=List.getElem?_of_mem hk
   have h4:=(h2 i k hi).1
   exact ⟨Nat.le_trans h4.len (by omega),PlL.sh h4 (by omega)⟩
  ·exact ShS.le (PlL.sh h3 (by omega) t ht) (Nat.le_refl _) (by omega)
theorem PlB.sh {p:Nat} (h:PlB ds nf d p b) (hM:d≤M):ShB ds M (d+1) b:=⟨Nat.le_trans h.1.len hM,PlL.sh h.1 hM⟩
theorem PI.fi (h:PI u x y):FI u x y 5000:=let ⟨ds,rs,h1,h2,h3,h4,h5,h6⟩:=h;⟨ds,rs,h1,h2,h3,h4,h5,fun r hr=>⟨(h6 r hr).2.1.sh (Nat.le_refl _),(h6 r hr).2.2⟩⟩
theorem c_spoilForm (hF:FI u x y N) (hN:N≤500000000) (hm:m+200000≤999900000) (h:GS u a R m w):Trip Tryz.prog 32 #[.pointer (some (a.add 0)),.agg #[x.val,y.val],.int .i64 8] w (AQ u a R (m+100100)):=by
 refine of32 _ _ _ _ _ _ ?_
 unfold vc32
 obtain ⟨ds,rs,hg,hx,hy,hl1,hl4,hsh⟩:=hF
 have hyn:=hy.n
 refine gs_pick h (by omega) (by omega) (by omega) fun p w1 h _ _ _=>⟨fun _=>⟨x,y,u,rs,rfl,.refl u,h.le (by omega),hy,hl1,hl4⟩,fun _=>?_⟩
 refine gs_pick (n:=y.n) h (by omega) (by omega) (by omega) fun f w2 h f0 f1 _=>?_
 have hf:f < rs.length:=by have:=f1 (by omega);omega
 have hbs:=hsh _ (nth_mem f0 hf)
 have hix:=hy.ix f0 hf
 refine gs_pick h (by omega) (by omega) (by omega) fun p w3 h _ _ _=>⟨fun _=>?_,fun _=>⟨fun _=>?_,fun _=>?_⟩⟩
 ·obtain ⟨g1,g2,g3,e1,e2,e3,e4,e5,q1,q2,r1,r2,rb⟩:=(hy.src h.sub).ofRoutD f0 hf
  have fin:∀ {w4 u4:World} {y4:Sl} {J4:Items},Sub u u4→GS u4 a (J4++R) (m+1+1+1) w4→Own u4 y4 (rs.set f.toNat ⟨(nth rs f).params,(nth rs f).lent,(nth rs f).result,(nth rs f).body⟩) J4→
    IxOk y4 f∧∃ x16:Sl,w4.cell? ((elA y4 f 5).add 1)=some (x16.val)∧
     Trip Tryz.prog 38 #[.pointer (some (a.add 0)),x16.val] w4 fun r17 w18=>
      ∃ x19:Sl,r17=x19.val∧IxOk y4 f∧StoreAt w18 (elA y4 f 5) 1 [x19.val] fun w20=>AQ u a R (m+100100) (.agg #[x.val,y4.val]) w20:=by
   intro w4 u4 y4 J4 hu4 h hO
   have hnk:nth (rs.set f.toNat ⟨(nth rs f).params,(nth rs f).lent,(nth rs f).result,(nth rs f).body⟩) f=⟨(nth rs f).params,(nth rs f).lent,(nth rs f).result,(nth rs f).body⟩:=nth_of (i:=f) (List.getElem?_set_self (by omega))
   have hll:(rs.set f.toNat ⟨(nth rs f).params,(nth rs f).lent,(nth rs f).result,(nth rs f).body⟩).length=rs.length:=by simp
   generalize rs.set f.toNat ⟨(nth rs f).params,(nth rs f).lent,(nth rs f).result,(nth rs f).body⟩=l1 at hO hnk hll
   obtain ⟨I,hR,hS⟩:=h
   have hf1:f < l1.length:=by omega
   obtain ⟨g1,g2,g3,e1,e2,e3,e4,e5,q1,q2,r1,r2,rb⟩:=(hO.src hS).ofRoutD f0 hf1
   have hl3:=hbs.2
   refine ⟨(hO.read hS).ix f0 hf1,g2,e2,?_⟩
   refine Trip.mono' (c_spoilInts hR (r2.mono hS.sub) hS (by omega) (by rw [hnk];show (nth rs f).lent.length≤1000000;omega)) ?_
   rintro _ w5 ⟨y5,l5,J5,I5,rfl,hO5,hR5,hS5,_⟩
   obtain ⟨u6,hu6,hS6,hJ6⟩:=hS5.freeze J5
   refine ⟨y5,rfl,((hO.mono hu6).read hS6).ix f0 hf1,?_⟩
   have hz:=hO5.read1 hJ6
   refine (hO.mono hu6).store hS6 f0 hf1 (⟨(nth l1 f).params,l5,(nth l1 f).result,(nth l1 f).body⟩:RoutD) (Nat.le_of_ble_eq_true rfl) (fun r hr'=>?_) fun w7 J7 hO7 hS7=>?_
   ·obtain ⟨g1,g2,g3,rfl,a1,a2,a3,a4,a5⟩:=hr'
    exact ⟨g1,y5,g3,rfl,a1,a2,a3,hz,a5⟩
   have h7:GS u6 a (J7++R) (m+1+1+1+3) w7:=⟨I5,hR5.mono hu6,hS7.to⟩
   obtain ⟨u8,hu8,h8,hJ8⟩:=h7.freeze
   have hl7:(l1.set f.toNat (⟨(nth l1 f).params,l5,(nth l1 f).result,(nth l1 f).body⟩:RoutD)).length=l1.length:=by rw [List.length_set]
   exact ⟨x,y4,u8,_,rfl,hu4.trans (hu6.trans hu8),h8.le (by omega),hO7.read1 hJ8,by omega,by omega⟩
  have call:∀ {K:Value→World→Prop},(∀ y' w' u' J',Sub u u'→GS u' a (J'++R) (m+1+1+1) w'→Own u' y' (rs.set f.toNat ⟨(nth rs f).params,(nth rs f).lent,(nth rs f).result,(nth rs f).body⟩) J'→K (.agg #[x.val,Sl.val y']) w')→Trip Tryz.prog 37 #[.agg #[x.val,y.val],.int .i64 f,.agg #[g3.val,.int .i64 (nth rs f).body.result]] w3 K:=by
   intro K k
   refine gs_fo (c_withRoutine (x:=x) (b:=(nth rs f).body) hy f0 hf rb q2) h ?_
   rintro _ w4 u4 J4 hu4 hs4 h ⟨y4,rfl,hO⟩
   exact k y4 w4 u4 J4 hu4 h hO
  refine ⟨hix,g3,_,⟨e4,e5⟩,call fun y' w' u' J' h1 h2 h3=>⟨x,y',rfl,.refl _,fin h1 h2 h3⟩,.refl _,call fun y' w' u' J' h1 h2 h3=>⟨x,y',rfl,fin h1 h2 h3⟩⟩
 ·refine (c_anyDecls (by omega) h).mono' ?_
  rintro _ w4 ⟨z4,rfl,u4,ds4,hu4,h,hz4⟩
  exact ⟨z4,rfl,z4,y,u4,rs,rfl,hu4,h.le (by omega),hy.mono hu4,hl1,hl4⟩
 ·obtain ⟨g1,g2,g3,e1,e2,e3,e4,e5,q1,q2,r1,r2,rb⟩:=(hy.src h.sub).ofRoutD f0 hf
  refine ⟨hix,g3,_,⟨e4,e5⟩,?_⟩
  refine (c_spoilBlock (ds:=ds) hN 5001 (nth rs f).body u a R _ w3 g3 hbs.1 h (by omega) (rb.mono h.sub) q2).mono' ?_
  rintro _ w4 ⟨b4,y4,u4,rfl,hb4,hu4,h,hy4⟩
  refine ⟨y4,_,rfl,?_⟩
  refine gs_fo (c_withRoutine (x:=x) (b:=b4) (hy.mono hu4) f0 hf hy4 hb4) h ?_
  rintro _ w5 u5 J5 hu5 hs5 h ⟨y5,rfl,hO⟩
  obtain ⟨u6,hu6,h,hJ⟩:=h.freeze
  exact ⟨x,y5,rfl,x,y5,u6,_,rfl,hu4.trans (hu5.trans hu6),h.le (by omega),hO.read1 hJ,by simp;omega,by simp;omega⟩
theorem c_anyForm (hm:m+5000000≤999900000) (h:GS u a R m w):Trip Tryz.prog 26 #[.pointer (some (a.add 0))] w (AQ u a R (m+2000000)):=by
 refine of26 _ _ _ ?_
 unfold vc26
 refine gs_pick h (by omega) (by omega) (by omega) fun p w1 h _ _ _=>⟨fun _=>?_,fun _=>?_⟩
 ·refine (c_plainForm (by omega) h).mono' ?_
  rintro _ w2 ⟨x2,y2,u2,rfl,hu2,h,hP⟩
  refine ⟨x2,y2,rfl,?_⟩
  refine (c_spoilForm hP.fi (by omega) (by omega) h).mono' ?_
  rintro _ w3 ⟨x3,y3,u3,rs3,rfl,hu3,h,hq⟩
  exact ⟨x3,y3,rfl,x3,y3,u3,rs3,rfl,hu2.trans hu3,h.le (by omega),hq⟩
 ·refine (c_balancedForm (by omega) h).mono' ?_
  rintro _ w2 ⟨x2,y2,u2,rfl,hu2,h,hP⟩
  refine ⟨x2,y2,rfl,?_⟩
  refine (c_spoilForm hP (by omega) (by omega) h).mono' ?_
  rintro _ w3 ⟨x3,y3,u3,rs3,rfl,hu3,h,hq⟩
  exact ⟨x3,y3,rfl,x3,y3,u3,rs3,rfl,hu2.trans hu3,h.le (by omega),hq⟩
end
section
variable {u u' v w:World} {x y z s f xa xk xs px lx xo xl xf g:Sl} {ds:List DeclD} {rs:List RoutD} {fs:List FunD} {a:Addr} {I J L R:Items} {n m op num into result fr nf i many q m':Int} {d V N N2 N' e M:Nat} {l k args vars params lent env owned later fields mine vs kept:List Int} {ll:List (List Int)} {kids:List BlockD} {steps sts run:List StepD} {b:BlockD} {c:StepD} {ro:RoutD} {Q:Value→World→Prop} {code:List UInt8}
theorem ab_tail (hm:m≤999900000) (h:GS u' a R m w) (hg:Read u' g b.steps) (hr:InI b.result) (hQ:∀ (b':BlockD) (y':Sl) (w':World),GS u' a R (m+2) w'→Read u' y' b'.steps→InI b'.result→Q (.agg #[y'.val,.int .i64 b'.result]) w'):
  ∃ n10:Int,Wr .i64 ((g.n:Int)+1) n10∧
    Trip Tryz.prog 27 #[.pointer (some (a.add 0)),.int .i64 n10] w fun r11 w12=>
     ∃ n13:Int,r11=.int .i64 n13∧
     ((decide (n13 < (g.n:Int)))=true→
      IxOk g n13)∧
     ∃ x14:Sl,((decide (n13 < (g.n:Int)))=true→
      w12.cell? ((elA g n13 5).add 4)=some (x14.val))∧
     (((decide (n13 < (g.n:Int))) && (decide ((x14.n:Int) > 0)))=true→
      IxOk g n13∧
      ∃ x15:Sl,w12.cell? ((elA g n13 5).add 4)=some (x15.val)∧
      (IxOk g n13∧
       (∃ x16:Sl,w12.cell? ((elA g n13 5).add 4)=some (x16.val)∧
        Trip Tryz.prog 27 #[.pointer (some (a.add 0)),.int .i64 (x15.n:Int)] w12 fun r17 w18=>
         ∃ n19:Int,r17=.int .i64 n19∧
         IxOk x16 n19∧
         ∃ x20:Sl,∃ n21:Int,(w18.cell? ((elA x16 n19 2).add 0)=some (x20.val)∧
          w18.cell? ((elA x16 n19 2).add 1)=some (.int .i64 n21))∧
         Q (.agg #[x20.val,.int .i64 n21]) w18)∧
       Trip Tryz.prog 27 #[.pointer (some (a.add 0)),.int .i64 (x15.n:Int)] w12 fun r22 w23=>
        ∃ n24:Int,r22=.int .i64 n24∧
        ∃ x25:Sl,w23.cell? ((elA g n13 5).add 4)=some (x25.val)∧
        IxOk x25 n24∧
        ∃ x26:Sl,∃ n27:Int,(w23.cell? ((elA x25 n24 2).add 0)=some (x26.val)∧
         w23.cell? ((elA x25 n24 2).add 1)=some (.int .i64 n27))∧
        Q (.agg #[x26.val,.int .i64 n27]) w23)∧
      Trip Tryz.prog 27 #[.pointer (some (a.add 0)),.int .i64 (x15.n:Int)] w12 fun r28 w29=>
       ∃ n30:Int,r28=.int .i64 n30∧
       IxOk g n13∧
       ∃ x31:Sl,w29.cell? ((elA g n13 5).add 4)=some (x31.val)∧
       IxOk x31 n30∧
       ∃ x32:Sl,∃ n33:Int,(w29.cell? ((elA x31 n30 2).add 0)=some (x32.val)∧
        w29.cell? ((elA x31 n30 2).add 1)=some (.int .i64 n33))∧
       Q (.agg #[x32.val,.int .i64 n33]) w29)∧
     (((decide (n13 < (g.n:Int))) && (decide ((x14.n:Int) > 0)))=false→
      Q (.agg #[g.val,.int .i64 b.result]) w12):=by
 have hgn:=hg.n
 have hgl:=hg.le
 refine go_wr (by omega) (by omega) ?_
 refine gs_pickL h (by omega) (by omega) (by omega) fun j w2 h j0 j1 _=>?_
 have hfin:=hQ b g w2 (h.le (by omega)) hg hr
 by_cases hj:j < b.steps.length
 ·have hix:=hg.ix j0 hj
  have hop:∀ {w:World},Sub u' w→∃ fk:Sl,w.cell? ((elA g j 5).add 4)=some fk.val∧Read u' fk (nth b.steps j).kids:=fun hs=>by
   obtain ⟨fa,fk,e1,e2,e3,e4,e5,q1,q2,q3,ra,rk⟩:=(hg.src hs).ofStepD j0 hj
   exact ⟨fk,e5,rk⟩
  obtain ⟨fk,e5,rk⟩:=hop h.sub
  have hkn:=rk.n
  have hkl:=rk.le
  have kid:∀ {w:World} {fk:Sl} {i:Int},GS u' a R (m+2) w→Read u' fk (nth b.steps j).kids→0≤i→i < (nth b.steps j).kids.length→IxOk fk i∧∃ x20:Sl,∃ n21:Int,(w.cell? ((elA fk i 2).add 0)=some (x20.val)∧w.cell? ((elA fk i 2).add 1)=some (.int .i64 n21))∧Q (.agg #[x20.val,.int .i64 n21]) w:=by
   intro w fk i h hk i0 i1
   obtain ⟨g2,a1,a2,hr2,hg2⟩:=(hk.src h.sub).ofBlockD i0 i1
   exact ⟨hk.ix i0 i1,g2,_,⟨a1,a2⟩,hQ _ g2 w h hg2 hr2⟩
  refine ⟨fun _=>hix,fk,fun _=>e5,fun hc=>?_,fun _=>hfin⟩
  simp only [bls] at hc
  refine ⟨hix,fk,e5,⟨hix,⟨fk,e5,?_⟩,?_⟩,?_⟩
  ·refine gs_pickL h (by omega) (by omega) (by omega) fun i w3 h i0 i1 _=>?_
   exact kid (h.le (by omega)) rk i0 (by have:=i1 (by omega);omega)
  ·refine gs_pickL h (by omega) (by omega) (by omega) fun i w3 h i0 i1 _=>?_
   obtain ⟨f2,e2,r2⟩:=hop h.sub
   exact ⟨f2,e2,kid (h.le (by omega)) r2 i0 (by have:=i1 (by omega);omega)⟩
  ·refine gs_pickL h (by omega) (by omega) (by omega) fun i w3 h i0 i1 _=>?_
   obtain ⟨f2,e2,r2⟩:=hop h.sub
   exact ⟨hix,f2,e2,kid (h.le (by omega)) r2 i0 (by have:=i1 (by omega);omega)⟩
 ·have hd:decide (j < (g.n:Int))=false:=by simp only [decide_eq_false_iff_not];omega
  rw [hd]
  exact ⟨fun hh=>(by cases hh),⟨none,0,0⟩,fun hh=>(by cases hh),fun hh=>(by simp at hh),fun _=>hfin⟩
theorem c_anyBlock (hm:m+6000000≤999900000) (h:GS u a R m w):Trip Tryz.prog 16 #[.pointer (some (a.add 0))] w (BQ u a R (m+2000010)):=by
 refine of16 _ _ _ ?_
 unfold vc16
 refine (c_anyForm (by omega) h).mono' ?_
 rintro _ w1 ⟨x1,y1,u1,rs,rfl,hu1,h,hy,hl1,hl4⟩
 have hyn:=hy.n
 have pk:∀ {K:Value→World→Prop},(∀ f w' g3,GS u1 a R (m+2000000+1) w'→IxOk y1 f→(w'.cell? ((elA y1 f 5).add 3)=some (Sl.val g3)∧w'.cell? ((elA y1 f 5).add 4)=some (.int .i64 (nth rs f).body.result))→Read u1 g3 (nth rs f).body.steps→InI (nth rs f).body.result→K (.int .i64 f) w')→Trip Tryz.prog 27 #[.pointer (some (a.add 0)),.int .i64 (y1.n:Int)] w1 K:=by
  intro K k
  refine (gs_pick (n:=y1.n) (K:=fun j w'=>K (.int .i64 j) w') h (by omega) (by omega) (by omega) fun f w2 h f0 f1 _=>?_).mono' ?_
  ·have hf:f < rs.length:=by have:=f1 (by omega);omega
   obtain ⟨g1,g2,g3,e1,e2,e3,e4,e5,q1,q2,r1,r2,rb⟩:=(hy.src h.sub).ofRoutD f0 hf
   exact k f w2 g3 h (hy.ix f0 hf) ⟨e4,e5⟩ rb q2
  ·rintro _ w' ⟨j,rfl,h⟩
   exact h
 have fin:∀ (b':BlockD) (y':Sl) (w':World),GS u1 a R (m+2000000+1+2) w'→Read u1 y' b'.steps→InI b'.result→BQ u a R (m+2000010) (.agg #[y'.val,.int .i64 b'.result]) w':=fun b' y' w' h1 h2 h3=>⟨b',y',u1,rfl,h3,hu1,h1.le (by omega),h2⟩
 refine ⟨x1,y1,rfl,pk fun f w2 g3 h hix hc rb q2=>⟨_,rfl,hix,g3,_,hc,.refl _,?_⟩,.refl _,pk fun f w2 g3 h hix hc rb q2=>⟨_,rfl,hix,g3,_,hc,?_⟩⟩
 ·exact ab_tail (b:=(nth rs f).body) (by omega) h rb q2 fin
 ·exact ab_tail (b:=(nth rs f).body) (by omega) h rb q2 fin
def DQ (v:World) (r:Value) (w:World):Prop:=∃ (b:BlockD) (y:Sl),r=.agg #[y.val,.int .i64 b.result]∧InI b.result∧Sub v w∧Read w y b.steps
theorem c_DrawStepsOf (hx:Read v x code):Trip Tryz.prog 6 #[x.val] v (DQ v):=by
 refine of6 _ _ _ ?_
 unfold vc6
 refine GS.start hx fun a w1 h=>?_
 refine (c_anyBlock (by omega) h).mono' ?_
 rintro _ w2 ⟨b,y,u2,rfl,hr,hu2,h,hy⟩
 exact ⟨y,_,rfl,b,y,rfl,hr,hu2.trans h.sub,hy.mono h.sub⟩
end
mutual
def visB:BlockD→List Int
 | ⟨ss,r⟩=>visL ss++[r]
def visL:List (StepP BlockD)→List Int
 | []=>[]
 | s ::r=>visS s++visL r
def visS:StepP BlockD→List Int
 | ⟨op,_,_,args,ks⟩=>if 14≤op∧op≤17 then [] else args++visK ks
def visK:List BlockD→List Int
 | []=>[]
 | b ::r=>visB b++visK r
end
section
variable {u u' v w:World} {x y z s f xa xk xs px lx xo xl xf g:Sl} {ds:List DeclD} {rs:List RoutD} {a:Addr} {I J L R:Items} {n m op num into result fr nf i many q m':Int} {d V N N2 N' e M:Nat} {l k args vars:List Int} {kids:List BlockD} {steps sts run:List StepD} {b:BlockD} {c:StepD} {Q:Value→World→Prop} {code:List UInt8}
theorem ucntL_mem:∀ {steps:List StepD} {c:StepD},c∈steps→cntS c≤cntL steps
 | [],_,h=>by cases h
 | s ::r,c,h=>by
  rw [cntL_cons]
  rcases List.mem_cons.1 h with rfl|h
  ·omega
  ·have:=ucntL_mem h
   omega
theorem ucntK_mem:∀ {kids:List BlockD} {b:BlockD},b∈kids→cntB b≤cntK kids
 | [],_,h=>by cases h
 | s ::r,c,h=>by
  rw [cntK_cons]
  rcases List.mem_cons.1 h with rfl|h
  ·omega
  ·have:=ucntK_mem h
   omega
theorem c_specStepsOf (hxs:Read v xs b.steps):Fn Tryz.prog 8 #[.agg #[xs.val,.int .i64 b.result]] v (.int .i64 (if cntB b≤600 then cntB b else -1)):=by
 refine of8 _ _ _ _ ?_
 unfold vc8
 exact ⟨_,c_stepsOf hxs,rfl,.refl v⟩
theorem l_StepsOf:LawTrue Tryz.prog 3:=by
 intro v x0 bs hb
 refine of3 _ _ _ ?_
 unfold vc3
 refine ⟨fun hc=>⟨rfl,.refl v⟩,fun hc=>?_⟩
 simp only [bls] at hc
 have hcode:=hb.read (by omega)
 refine (c_DrawStepsOf hcode).mono' ?_
 rintro _ w ⟨b,y,rfl,hr,hs,hy⟩
 have hyn:=hy.n
 have hyl:=hy.le
 refine ⟨y,_,rfl,_,c_implStepsOf hy,_,c_specStepsOf hy,fun hc=>⟨_,c_specStepsOf hy,by simp,hs⟩,fun hc=>?_⟩
 have hle:cntB b≤600:=Classical.byContradiction fun hh=>by rw [if_neg hh] at hc;simp at hc
 rw [if_pos hle]
 have hle2:=hle
 rw [cntB_eq] at hle2
 refine ⟨fun acc i w'=>w'=w∧0≤i∧i≤b.steps.length∧0≤acc∧acc+(cntL (b.steps.drop i.toNat):Int)=cntL b.steps+(b.steps.length - i),fun _ i _=>(b.steps.length - i).toNat,⟨rfl,by omega,by omega,by omega,by simp;omega⟩,?_⟩
 rintro acc i w ⟨rfl,i0,i1,a0,ha⟩
 dsimp only
 refine ⟨fun hc2=>?_,fun hc2=>?_⟩
 ·simp only [bls] at hc2
  have hil:i < b.steps.length:=by omega
  have hmem:=nth_mem (l:=b.steps) i0 hil
  have hcm:=ucntL_mem hmem
  rw [drop_cons i0 hil,cntL_cons] at ha
  obtain ⟨f1,f2,e1,e2,e3,e4,e5,j1,j2,j3,r1,r2⟩:=(hy.src (.refl w)).ofStepD i0 hil
  have hkn:=r2.n
  have hkl:=r2.le
  have hix:=hy.ix i0 hil
  rw [cntS_eq] at ha hcm
  refine ⟨fun acc2 j w'=>w'=w∧0≤j∧j≤(nth b.steps i).kids.length∧0≤acc2∧acc2+(cntK ((nth b.steps i).kids.drop j.toNat):Int)=acc+cntK (nth b.steps i).kids,fun _ j _=>((nth b.steps i).kids.length - j).toNat,⟨rfl,by omega,by omega,by omega,by simp⟩,?_⟩
  rintro acc2 j w ⟨rfl,k0,k1,b0,hb⟩
  dsimp only
  refine ⟨hix,f2,e5,fun hc3=>?_,fun hc3=>?_⟩
  ·simp only [bls] at hc3
   have hjl:j < (nth b.steps i).kids.length:=by omega
   have hmk:=nth_mem (l:=(nth b.steps i).kids) k0 hjl
   have hkm:=ucntK_mem hmk
   rw [drop_cons k0 hjl,cntK_cons] at hb
   obtain ⟨g1,d1,d2,q1,t1⟩:=(r2.src (.refl w)).ofBlockD k0 hjl
   refine ⟨hix,f2,e5,r2.ix k0 hjl,g1,_,⟨d1,d2⟩,_,c_implStepsOf t1,?_⟩
   rw [if_pos (by omega)]
   refine go_wr (by omega) (by omega) ?_
   refine go_wr (by omega) (by omega) ?_
   exact ⟨rfl,rfl,⟨rfl,by omega,by omega,by omega,by omega⟩,by omega⟩
  ·simp only [bls] at hc3
   rw [drop_end (by omega),cntK_nil] at hb
   refine go_wr (by omega) (by omega) ?_
   exact ⟨rfl,rfl,⟨rfl,by omega,by omega,by omega,by omega⟩,by omega⟩
 ·simp only [bls] at hc2
  rw [drop_end (by omega),cntL_nil] at ha
  refine ⟨?_,hs⟩
  rw [cntB_eq,decide_eq_true (by omega)]
end
end Go.Vc
