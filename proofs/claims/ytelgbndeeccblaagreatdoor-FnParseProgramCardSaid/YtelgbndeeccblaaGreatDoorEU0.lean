/- Part of the proofs about the heaps and memories: a law is joined in the text whose name ends in W and the law. -/
import Derived.Test.YtelgbndeeccblaaGreatDoorET0
import Derived.Lib.SplitLaws
import Derived.Lib.IndexBytes
import Derived.Shelf.Strings.OnBuilder
import Derived.Test.YtelgbndeeccblaaGreatDoorES4
import Derived.Test.YtelgbndeeccblaaGreatDoorEP5
set_option linter.all false
namespace Go.Vc
open Go Go.RowKit
theorem idx1_none {c:UInt8}:∀ {a:List UInt8},c∉a→Lib.index a [c]=-1:=by
 intro a h
 rw [Lib.index_one]
 induction a with
 | nil=>rfl
 | cons b r ih=>
  have h1:b≠c:=fun e=>h (by simp [e])
  have h2:=ih fun hm=>h (by simp [hm])
  unfold Lib.indexByte
  simp [h1,h2]
theorem idx1_hit {c:UInt8}:∀ {a:List UInt8} (r:List UInt8),c∉a→Lib.index (a++c ::r) [c]=(a.length:Int):=by
 intro a r h
 rw [Lib.index_one]
 induction a with
 | nil=>simp [Lib.indexByte]
 | cons b q ih=>
  have h1:b≠c:=fun e=>h (by simp [e])
  have h2:=ih fun hm=>h (by simp [hm])
  rw [List.cons_append]
  unfold Lib.indexByte
  rw [h2]
  simp [h1]
theorem cutK_none {c:UInt8} {sv k:Nat} {a:List UInt8} (h:c∉a):Lib.splitK [c] sv k a=[a]:=by
 cases k with
 | zero=>rfl
 | succ k=>rw [Lib.splitK,idx1_none h];rfl
theorem cutK_hit {c:UInt8} {sv k:Nat} {a:List UInt8} (r:List UInt8) (h:c∉a):Lib.splitK [c] sv (k+1) (a++c ::r)=(a++c ::r).take (a.length+sv) ::Lib.splitK [c] sv k r:=by
 have hi:=idx1_hit r h
 rw [Lib.splitK,hi]
 have h1:((a.length:Int) == -1)=false:=by rw [beq_eq_false_iff_ne];omega
 rw [h1]
 simp only [Bool.false_eq_true,if_false,Int.toNat_natCast,List.length_singleton]
 congr 2
 rw [show a++c ::r=(a++[c])++r by simp,List.drop_left' (by simp)]
theorem cutK0_hit {c:UInt8} {k:Nat} {a:List UInt8} (r:List UInt8) (h:c∉a):Lib.splitK [c] 0 (k+1) (a++c ::r)=a ::Lib.splitK [c] 0 k r:=by
 rw [cutK_hit r h,Nat.add_zero,List.take_left' rfl]
theorem cutK1_hit {c:UInt8} {k:Nat} {a:List UInt8} (r:List UInt8) (h:c∉a):Lib.splitK [c] 1 (k+1) (a++c ::r)=(a++[c]) ::Lib.splitK [c] 1 k r:=by
 rw [cutK_hit r h,show a++c ::r=(a++[c])++r by simp,List.take_left' (by simp)]
theorem cutK_lines {c:UInt8}:∀ (ls:List (List UInt8)) (k:Nat),(∀ a∈ls,c∉a)→ls.length≤k→Lib.splitK [c] 1 k ((ls.map fun a=>a++[c]).flatten)=(ls.map fun a=>a++[c])++[[]]:=by
 intro ls
 induction ls with
 | nil=>intro k _ _;rw [List.map_nil,List.flatten_nil,cutK_none (by simp)];rfl
 | cons a r ih=>
  intro k h hk
  cases k with
  | zero=>simp at hk
  | succ k=>
   rw [List.map_cons,List.flatten_cons,List.append_assoc,List.singleton_append,cutK1_hit _ (h a (by simp)),ih k (fun b hb=>h b (by simp [hb])) (by simpa using hk)]
   rfl
theorem cutK_words {c:UInt8}:∀ (ls:List (List UInt8)) (a:List UInt8) (k:Nat),c∉a→(∀ b∈ls,c∉b)→ls.length≤k→Lib.splitK [c] 0 k (a++(ls.map fun b=>c ::b).flatten)=a ::ls:=by
 intro ls
 induction ls with
 | nil=>intro a k h _ _;rw [List.map_nil,List.flatten_nil,List.append_nil,cutK_none h]
 | cons b r ih=>
  intro a k h hl hk
  cases k with
  | zero=>simp at hk
  | succ k=>
   rw [List.map_cons,List.flatten_cons,List.cons_append,cutK0_hit _ h,ih b k (hl b (by simp)) (fun x hx=>hl x (by simp [hx])) (by simpa using hk)]
theorem count_words {c:UInt8} (ls:List (List UInt8)) (a:List UInt8) (h:c∉a) (hl:∀ b∈ls,c∉b):(a++(ls.map fun b=>c ::b).flatten).count c=ls.length:=by
 rw [List.count_append,List.count_eq_zero.2 h]
 induction ls with
 | nil=>rfl
 | cons b r ih=>
  rw [List.map_cons,List.flatten_cons,List.count_append,List.count_cons_self,List.count_eq_zero.2 (hl b (by simp)),List.length_cons]
  have:=ih fun x hx=>hl x (by simp [hx])
  omega
theorem join_words {c:UInt8} (a:List UInt8) (r:List (List UInt8)):Lib.join (a ::r) [c]=a++(r.map fun b=>c ::b).flatten:=by
 rw [Lib.join_cons]
 unfold Lib.joinTail
 rfl
end Go.Vc
namespace Go.Vc
open Go Go.Proofs Go.RowKit
def badN (w:World) (a:Addr):Nat:=match w.cell? (a.add 3) with
 | some (.bool false)=>1
 | _=>0
def moreN (started:Bool) (todo:List Int) (rest:List UInt8):List UInt8:=match todo with
 | []=>41 ::rest
 | t ::r=>(if started then [44] else [])++(Lib.itoa t++((r.map fun k=>44 ::Lib.itoa k).flatten++41 ::rest))
theorem moreN_start (ns:List Int) (rest:List UInt8):shN ns++rest=40 ::moreN false ns rest:=by
 unfold shN
 cases ns with
 | nil=>simp [moreN,Lib.join_nil]
 | cons t r=>
  rw [List.map_cons,join_words,List.map_map]
  simp only [moreN,List.cons_append,List.append_assoc,List.singleton_append,Bool.false_eq_true,if_false,List.nil_append]
  rfl
theorem moreN_next (t:Int) (r:List Int) (rest:List UInt8):((r.map fun k=>44 ::Lib.itoa k).flatten++41 ::rest)=moreN true r rest:=by
 cases r with
 | nil=>rfl
 | cons s q=>simp only [moreN,List.map_cons,List.flatten_cons,List.append_assoc,List.cons_append,if_true,List.nil_append]
theorem moreN_nodig (r:List Int) (rest:List UInt8):NoDig (moreN true r rest):=by
 intro b hb
 cases r with
 | nil=>simp [moreN] at hb;subst hb;decide
 | cons s q=>simp [moreN] at hb;subst hb;decide
def small3 (l:List Int):Prop:=∀ n∈l,0≤n∧n≤999
theorem moreN_ne41 {started:Bool} {t:Int} {r:List Int} {rest:List UInt8} (h:0≤t) (h2:t≤999):hdB (moreN started (t ::r) rest)≠41:=by
 cases started
 ·have hd:=itoa_digP h h2
  cases hi:Lib.itoa t with
  | nil=>exact absurd hi hd.2
  | cons c q=>
   have hc:=hd.1 c (by rw [hi];simp)
   unfold digP at hc
   rw [Bool.and_eq_true,decide_eq_true_eq,decide_eq_true_eq] at hc
   simp only [moreN,hi,Bool.false_eq_true,if_false,List.nil_append,List.cons_append]
   show (c.toNat:Int)≠41
   omega
 ·simp only [moreN,if_true,List.cons_append,List.nil_append]
  show ((44:UInt8).toNat:Int)≠41
  decide
section
variable {u v w:World} {l m:List UInt8} {a:Addr} {L I J K R:Items} {n:Int} {b:Bool} {x y:Sl}
theorem RSt.bad (h:RSt u a L l m n b w):badN w a=if b then 0 else 1:=by
 unfold badN
 rw [h.cellB]
 cases b<;>rfl
theorem RSt.pos (h:RSt u a L l m n b w):m.length≤l.length:=by obtain ⟨I,pre,hlm,_⟩:=h;rw [hlm,List.length_append];omega
theorem RSt.frame (h:RSt u a (J++L) l m n b w) {K:Items} (hp:(K++L).Perm (J++L)):RSt u a (K++L) l m n b w:=h.perm hp
theorem empty_of {α:Type} [DatO α] {t bytes:Nat} {zc:List Value} [hT:SlT Tryz.prog t (Dat.sz α) bytes zc] {R:Items} {w:World} {K:Sl→World→Prop} (hS:St u w R) (k:∀ x w' J,St u w' (J++R)→Sub w w'→OwnD x ([]:List α) J→K x w'):StepT Tryz.prog (Instr.buildSlice t 0 #[]) w fun r w'=>∃ x,r=x.val∧K x w':=
 St.build (α:=α) (l:=[]) hS VsOf.nil rfl (by simp) fun x w' J hO hS hs=>⟨x,rfl,k x w' J hS hs hO.emptyD⟩
theorem empty_ints {R:Items} {w:World} {K:Sl→World→Prop} (hS:St u w R) (k:∀ x w' J,St u w' (J++R)→Sub w w'→Own u x ([]:List Int) J→K x w'):StepT Tryz.prog (Instr.buildSlice 68 0 #[]) w fun r w'=>∃ x,r=x.val∧K x w':=
 St.build (α:=Int) (l:=[]) hS VsOf.nil rfl (by decide) fun x w' J hO hS hs=>⟨x,rfl,k x w' J hS hs hO⟩
theorem push_int {ns:List Int} {k:Int} {w:World} (hO:Own u x ns J) (hS:St u w (J++R)) (hk:InI k) (hb:ns.length+1≤1099511627776) {Q:Sl→World→Prop} (q:∀ x' w' J',Own u x' (ns++[k]) J'→St u w' (J'++R)→Q x' w'):
  StepT Tryz.prog (Instr.buildSlice 68 1 #[(0,.int .i64 k)]) w fun r w2=>∃ z:Sl,r=z.val∧StepT Tryz.prog (Builtin.append_ #[68,68] 68 #[x.val,z.val]) w2 fun r2 w3=>∃ x':Sl,r2=x'.val∧Q x' w3:=by
 refine St.build (α:=Int) (l:=[k]) hS (VsOf.cons (VOf.int hk) VsOf.nil) rfl (by decide) ?_
 intro x4 w4 I4 hO4 hS hs
 refine ⟨_,rfl,?_⟩
 refine Own.append hO hS (Own.src hO4 hS) (by simpa using hb) (by decide) ?_
 intro x5 w5 I5 hO5 hS
 exact ⟨_,rfl,q x5 w5 I5 hO5 hS.to⟩
def GhLs (m:List UInt8) (b:Bool) (ns:List Int) (m':List UInt8) (b':Bool):Prop:=∀ (ns0:List Int) (rest:List UInt8),b=false→small3 ns0→m=shN ns0++rest→ns=ns0∧b'=false∧m'=rest
def LsI (u:World) (a:Addr) (L:Items) (l m:List UInt8) (n:Int) (b:Bool) (x:Sl) (w:World):Prop:=
 ∃ (ns:List Int) (m':List UInt8) (b':Bool) (J:Items),Own u x ns J∧RSt u a (J++L) l m' n b' w∧(∃ d,m=d++m')∧(b'=false→b=false)∧ns.length≤l.length+1∧(b'=false→ns.length+m'.length≤l.length)∧
   (∀ (ns0:List Int) (rest:List UInt8),b=false→small3 ns0→m=shN ns0++rest→∃ todo,ns0=ns++todo∧b'=false∧m'=moreN (decide (0 < ns.length)) todo rest)
def LsM (l:List UInt8) (a:Addr) (w:World):Nat:=2 * (l.length - atR w a)+badN w a
theorem list_step {m1 m2:List UInt8} {b2:Bool} {ns:List Int} {w3 w0:World} (hl:l.length≤2000000) (hO:Own u x ns J) (hR2:RSt u a (J++L) l m2 n b2 w3) (hd2:∃ d,m1=d++m2) (hR1:RSt u a (J++L) l m1 n false w0)
  (hd:∃ d,m=d++m1) (hb:b=false) (hnm:ns.length+m1.length≤l.length) (h41:hdB m1≠41)
  (hG2:∀ (t:Int) (r:List Int) (rest:List UInt8),m1=moreN (decide (0 < ns.length)) (t ::r) rest→b2=false∧m2=Lib.itoa t++moreN true r rest)
  (hG:∀ (ns0:List Int) (rest:List UInt8),b=false→small3 ns0→m=shN ns0++rest→∃ todo,ns0=ns++todo∧false=false∧m1=moreN (decide (0 < ns.length)) todo rest):
  Trip Tryz.prog 87 #[.pointer (some (a.add 0))] w3 fun r16 w17=>
   ∃ n18:Int,r16=.int .i64 n18∧
   StepT Tryz.prog (Instr.buildSlice 68 1 #[(0,(.int .i64 n18))]) w17 fun r19 w20=>
    ∃ x21:Sl,r19=x21.val∧
    StepT Tryz.prog (Builtin.append_ #[68,68] 68 #[(x.val),(x21.val)]) w20 fun r22 w23=>
     ∃ x24:Sl,r22=x24.val∧
     LsI u a L l m n b x24 w23∧
     LsM l a w23 < LsM l a w0:=by
 obtain ⟨d2,hd2⟩:=hd2
 refine (c_digits hR2 hl).mono' ?_
 rintro _ w4 ⟨k,m3,b3,rfl,k0,k1,hR3,⟨d3,hd3⟩,hb3,hG3⟩
 refine ⟨_,rfl,?_⟩
 obtain ⟨I3,pre3,hlm3,hC3,hS3⟩:=hR3
 have hm2:m1.length=d2.length+m2.length:=by rw [hd2,List.length_append]
 have hm3:m2.length=d3.length+m3.length:=by rw [hd3,List.length_append]
 refine push_int (R:=I3++L) hO (hS3.perm (by
  classical
  exact List.perm_iff_count.2 fun a=>by simp only [List.count_append];omega)) ⟨by omega,by omega⟩ (by omega) fun x5 w5 J5 hO5 hS5=>?_
 have hR5:RSt u a (J5++L) l m3 n b3 w5:=⟨I3,pre3,hlm3,hC3,hS5.perm (by
  classical
  exact List.perm_iff_count.2 fun a=>by simp only [List.count_append];omega)⟩
 have hat5:=hR5.at_
 have hbd5:=hR5.bad
 have hat:=hR1.at_
 have hbd:=hR1.bad
 obtain ⟨d,hd⟩:=hd
 refine ⟨⟨ns++[k],m3,b3,J5,hO5,hR5,⟨d++(d2++d3),by rw [hd,hd2,hd3];simp⟩,fun _=>hb,?_,?_,?_⟩,?_⟩
 ·rw [List.length_append,List.length_singleton]
  omega
 ·intro hbf
  have:=(hb3 hbf).2
  rw [List.length_append,List.length_singleton];omega
 ·intro ns0 rest hbf hs hm
  obtain ⟨todo,g1,g2,g3⟩:=hG ns0 rest hbf hs hm
  cases todo with
  | nil=>simp only [moreN] at g3;rw [g3] at h41;exact absurd rfl h41
  | cons t r=>
   obtain ⟨q1,q2⟩:=hG2 t r rest g3
   have ht:=hs t (by rw [g1];simp)
   obtain ⟨p1,p2,p3⟩:=hG3 t (moreN true r rest) ht.1 ht.2 q2 (moreN_nodig _ _)
   refine ⟨r,by rw [g1,p1];simp,by rw [p3,q1],?_⟩
   rw [decide_eq_true (by simp),p2]
 ·unfold LsM
  rw [hat5,hat,hbd5,hbd]
  cases b3
  ·have:=(hb3 rfl).2
   simp only [Bool.false_eq_true,if_false];omega
  ·simp only [Bool.false_eq_true,if_false,if_true];omega
theorem c_listS (h:RSt u a L l m n b w) (hl:l.length≤2000000):Trip Tryz.prog 88 #[.pointer (some (a.add 0))] w fun r w'=>
  ∃ (x:Sl) (ns:List Int) (m':List UInt8) (b':Bool) (J:Items),r=x.val∧Own u x ns J∧RSt u a (J++L) l m' n b' w'∧(∃ d,m=d++m')∧(b'=false→b=false)∧GhLs m b ns m' b':=by
 refine of88 _ _ _ ?_
 unfold vc88
 have hml:=h.pos
 obtain ⟨I,pre,hlm,hC,hS⟩:=h
 refine empty_ints hS fun x0 w1 J0 hS1 _ hO0=>?_
 have hR1:RSt u a (J0++L) l m n b w1:=⟨I,pre,hlm,hC,hS1.perm (by
  classical
  exact List.perm_iff_count.2 fun a=>by simp only [List.count_append];omega)⟩
 rw [str_eq (l:=[40]) rfl]
 refine (c_skipS [40] hR1 hl (by decide)).mono' ?_
 rintro _ w2 ⟨rfl,hcase⟩
 refine ⟨rfl,?_⟩
 have hst:∃ (m1:List UInt8) (b1:Bool),RSt u a (J0++L) l m1 n b1 w2∧(∃ d,m=d++m1)∧(b1=false→b=false)∧(∀ (ns0:List Int) (rest:List UInt8),b=false→small3 ns0→m=shN ns0++rest→b1=false∧m1=moreN false ns0 rest):=by
  rcases hcase with ⟨m',rfl,hR⟩|⟨hne,hR⟩
  ·refine ⟨m',b,hR,⟨[40],rfl⟩,id,fun ns0 rest hb hs hm=>⟨hb,?_⟩⟩
   rw [moreN_start] at hm
   exact (List.cons.inj hm).2
  ·refine ⟨m,true,hR,⟨[],rfl⟩,(fun h=>by cases h),fun ns0 rest hb hs hm=>?_⟩
   rw [moreN_start] at hm
   exact absurd hm (hne _)
 clear hcase hR1 hC hS hS1
 obtain ⟨m1,b1,hR1,hd1,hb1,hG1⟩:=hst
 refine ⟨fun x w=>LsI u a L l m n b x w,fun _ w=>LsM l a w,?_,?_⟩
 ·have:=hR1.pos
  refine ⟨[],m1,b1,J0,hO0,hR1,hd1,hb1,by simp,fun _=>by simpa using this,fun ns0 rest hb hs hm=>?_⟩
  obtain ⟨k1,k2⟩:=hG1 ns0 rest hb hs hm
  exact ⟨ns0,rfl,k1,k2⟩
 clear hO0 hR1 hd1 hb1 hG1
 rintro x w ⟨ns,m1,b1,J,hO,hR,hd,hbb,hnl,hnm,hG⟩
 dsimp only
 have hN:=c_nextS hR hl
 have hxn:=hO.n
 refine ⟨_,hR.cellB,_,fun _=>hN,fun hc=>⟨fun hp=>?_,fun hp=>?_⟩,fun hc=>?_⟩
 ·simp only [bls] at hc hp
  obtain ⟨hb1,h41⟩:=hc
  subst hb1
  have h0:decide (0 < ns.length)=true:=decide_eq_true (by omega)
  rw [str_eq (l:=[44]) rfl]
  refine (c_skipS [44] hR hl (by decide)).mono' ?_
  rintro _ w3 ⟨rfl,hcase⟩
  refine ⟨rfl,?_⟩
  rcases hcase with ⟨m',rfl,hR'⟩|⟨hne,hR'⟩
  ·refine list_step hl hO hR' ⟨[44],rfl⟩ hR hd (hbb rfl) (hnm rfl) h41 (fun t r rest hm=>⟨rfl,?_⟩) hG
   rw [←moreN_next t r rest]
   rw [h0] at hm
   simp only [moreN,if_true,List.singleton_append] at hm
   exact (List.cons.inj hm).2
  ·refine list_step hl hO hR' ⟨[],rfl⟩ hR hd (hbb rfl) (hnm rfl) h41 (fun t r rest hm=>?_) hG
   rw [h0] at hm
   simp only [moreN,if_true,List.singleton_append] at hm
   exact absurd hm (hne _)
 ·simp only [bls] at hc hp
  obtain ⟨hb1,h41⟩:=hc
  subst hb1
  have h0:decide (0 < ns.length)=false:=decide_eq_false (by omega)
  refine list_step hl hO hR ⟨[],rfl⟩ hR hd (hbb rfl) (hnm rfl) h41 (fun t r rest hm=>⟨rfl,?_⟩) hG
  rw [←moreN_next t r rest]
  rw [h0] at hm
  simpa only [moreN,Bool.false_eq_true,if_false,List.nil_append] using hm
 ·simp only [bls] at hc
  rw [str_eq (l:=[41]) rfl]
  refine (c_skipS [41] hR hl (by decide)).mono' ?_
  rintro _ w6 ⟨rfl,hcase⟩
  refine ⟨rfl,?_⟩
  obtain ⟨d,hd⟩:=hd
  have fin:∀ (ns0:List Int) (rest:List UInt8),b=false→small3 ns0→m=shN ns0++rest→ns=ns0∧b1=false∧m1=41 ::rest:=by
   intro ns0 rest hb hs hm
   obtain ⟨todo,g1,g2,g3⟩:=hG ns0 rest hb hs hm
   cases todo with
   | nil=>rw [List.append_nil] at g1;exact ⟨g1.symm,g2,g3⟩
   | cons t r=>
    exfalso
    have ht:=hs t (by rw [g1];simp)
    have:=moreN_ne41 (started:=decide (0 < ns.length)) (r:=r) (rest:=rest) ht.1 ht.2
    rw [←g3] at this
    rcases hc with hc|hc
    ·rw [g2] at hc;cases hc
    ·exact this hc
  rcases hcase with ⟨m',hm',hR'⟩|⟨hne,hR'⟩
  ·refine ⟨x,ns,m',b1,J,rfl,hO,hR',⟨d++[41],by rw [hd,hm'];simp⟩,hbb,fun ns0 rest hb hs hm=>?_⟩
   obtain ⟨g1,g2,g3⟩:=fin ns0 rest hb hs hm
   rw [g3] at hm'
   exact ⟨g1,g2,(List.cons.inj hm').2.symm⟩
  ·refine ⟨x,ns,m1,true,J,rfl,hO,hR',⟨d,hd⟩,(fun h=>by cases h),fun ns0 rest hb hs hm=>?_⟩
   obtain ⟨g1,g2,g3⟩:=fin ns0 rest hb hs hm
   exact absurd g3 (hne rest)
theorem c_startsS (s:List UInt8) (h:RSt u a L l m n b w) (hl:l.length≤2000000) (hs:s.length≤1000):∃ q:Bool,Fn Tryz.prog 85 #[.pointer (some (a.add 0)),.string (str s)] w (.bool q)∧(q=true↔∃ m',m=s++m'):=by
 have hz:=str_size l
 have hzs:=str_size s
 refine ⟨decide (m.take s.length=s),?_,?_⟩
 ·refine of85 _ _ _ _ ?_
  unfold vc85
  obtain ⟨I,pre,hlm,hC,hS⟩:=h
  have hlen:l.length=pre.length+m.length:=by rw [hlm,List.length_append]
  refine ⟨_,hC.load hS rfl,?_⟩
  refine go_wr (by omega) (by omega) ?_
  refine ⟨_,hC.load hS rfl,_,fun _=>hC.load hS rfl,_,fun _=>hC.load hS rfl,_,fun _=>hC.load hS rfl,?_⟩
  refine go_wrg (fun _=>⟨by omega,by omega⟩) ?_
  refine ⟨?_,?_,.refl w⟩
  ·intro hc
   simp only [bls] at hc
   exact ⟨by omega,by omega,by omega⟩
  ·by_cases hle:s.length≤m.length
   ·rw [decide_eq_true (by omega),Bool.true_and,str_cut (by omega) (by omega) (by omega)]
    have e:(l.take ((pre.length:Int)+((str s).size:Int)).toNat).drop (pre.length:Int).toNat=m.take s.length:=by
     rw [hlm,show ((pre.length:Int)+((str s).size:Int)).toNat=pre.length+s.length by omega,Int.toNat_natCast,List.take_length_add_append,List.drop_left' rfl]
    rw [e,str_eqB _ _ (m:=s) (str_data _)]
   ·rw [decide_eq_false (by omega),Bool.false_and,decide_eq_false]
    intro he
    have:=congrArg List.length he
    rw [List.length_take] at this
    omega
 ·rw [decide_eq_true_eq]
  constructor
  ·intro he
   exact ⟨m.drop s.length,by conv=>lhs;rw [←List.take_append_drop s.length m,he]⟩
  ·rintro ⟨m',rfl⟩
   exact List.take_left' rfl
end
end Go.Vc
namespace Go.Vc
open Go Go.Proofs Go.RowKit
def dPr (d:DeclD):Prop:=dSm d∧(0 < d.cons.length→d.frm=0∧d.to_=0)
theorem nn_small {l:List Int} (h:nonneg l):small3 l:=fun n hn=>by have:=h n hn;omega
theorem noDig_sp (r:List UInt8):NoDig (32 ::r):=by intro b hb;simp at hb;subst hb;decide
theorem noDig_nl (r:List UInt8):NoDig (10 ::r):=by intro b hb;simp at hb;subst hb;decide
theorem shD_arrow {d:DeclD} (h:d.cons.length=0) (rest:List UInt8):shD d++rest=[97,114,114,111,119,32]++(Lib.itoa d.frm++([32]++(Lib.itoa d.to_++([10]++rest)))):=by
 unfold shD
 rw [if_pos h]
 simp only [List.append_assoc]
theorem shD_data {d:DeclD} (h:0 < d.cons.length) (rest:List UInt8):shD d++rest=[100,97,116,97]++((d.cons.map fun c=>32 ::shN c.fields).flatten++([10]++rest)):=by
 unfold shD
 rw [if_neg (by omega)]
 simp only [List.append_assoc]
section
variable {u v w:World} {l m:List UInt8} {a:Addr} {L I J K R:Items} {n:Int} {b:Bool} {x y:Sl}
def GhDe (m:List UInt8) (b:Bool) (d:DeclD) (m':List UInt8) (b':Bool):Prop:=∀ (d0:DeclD) (rest:List UInt8),b=false→dPr d0→m=shD d0++rest→d=d0∧b'=false∧m'=rest
def CnI (u:World) (a:Addr) (L:Items) (l m:List UInt8) (n:Int) (b:Bool) (x:Sl) (w:World):Prop:=
 ∃ (cs:List ConD) (m':List UInt8) (b':Bool) (J:Items),OwnD x cs J∧RSt u a (J++L) l m' n b' w∧(∃ d,m=d++m')∧(b'=false→b=false∧m'.length < m.length)∧cs.length≤l.length+1∧(b'=false→cs.length+m'.length≤l.length)∧
  (∀ (d0:DeclD) (rest:List UInt8),b=false→dPr d0→0 < d0.cons.length→m=shD d0++rest→∃ todo,d0.cons=cs++todo∧b'=false∧m'=(todo.map fun c=>32 ::shN c.fields).flatten++([10]++rest))
theorem c_declS (h:RSt u a L l m n b w) (hl:l.length≤2000000):Trip Tryz.prog 44 #[.pointer (some (a.add 0))] w fun r w'=>
  ∃ (d:DeclD) (x:Sl) (m':List UInt8) (b':Bool) (J:Items),r=.agg #[.int .i64 d.frm,.int .i64 d.to_,x.val]∧OwnD x d.cons J∧InI d.frm∧InI d.to_∧RSt u a (J++L) l m' n b' w'∧(∃ d,m=d++m')∧(b'=false→b=false∧m'.length < m.length)∧GhDe m b d m' b':=by
 refine of44 _ _ _ ?_
 unfold vc44
 obtain ⟨q,hq,hqi⟩:=c_startsS [97,114,114,111,119,32] h hl (by decide)
 have hml:=h.pos
 refine ⟨q,by rw [str_eq (l:=[97,114,114,111,119,32]) rfl];exact hq,fun hc=>?_,fun hc=>?_⟩
 ·obtain ⟨m0,hm0⟩:=hqi.1 hc
  subst hm0
  rw [str_eq (l:=[97,114,114,111,119,32]) rfl]
  refine (c_skipS _ h hl (by decide)).mono' ?_
  rintro _ w1 ⟨rfl,hcase⟩
  refine ⟨rfl,?_⟩
  have hR1:RSt u a L l m0 n b w1:=by
   rcases hcase with ⟨m',hm',hR'⟩|⟨hne,_⟩
   ·rw [List.append_cancel_left hm'];exact hR'
   ·exact absurd rfl (hne m0)
  clear hcase
  refine (c_digits hR1 hl).mono' ?_
  rintro _ w2 ⟨k,m2,b2,rfl,k0,k1,hR2,⟨d2,hd2⟩,hb2,hG2⟩
  refine ⟨_,rfl,?_⟩
  rw [str_eq (l:=[32]) rfl]
  refine (c_skipS _ hR2 hl (by decide)).mono' ?_
  rintro _ w3 ⟨rfl,hcase3⟩
  refine ⟨rfl,?_⟩
  have hst3:∃ (m3:List UInt8) (b3:Bool),RSt u a L l m3 n b3 w3∧(∃ d,m2=d++m3)∧(b3=false→b2=false)∧(∀ r,m2=[32]++r→b3=b2∧m3=r):=by
   rcases hcase3 with ⟨m',hm',hR'⟩|⟨hne,hR'⟩
   ·exact ⟨m',b2,hR',⟨_,hm'⟩,id,fun r hr=>⟨rfl,List.append_cancel_left (hm'.symm.trans hr)⟩⟩
   ·exact ⟨m2,true,hR',⟨[],rfl⟩,(fun h=>by cases h),fun r hr=>absurd hr (hne r)⟩
  clear hcase3
  obtain ⟨m3,b3,hR3,⟨d3,hd3⟩,hb3,hG3⟩:=hst3
  refine (c_digits hR3 hl).mono' ?_
  rintro _ w4 ⟨k',m4,b4,rfl,k0',k1',hR4,⟨d4,hd4⟩,hb4,hG4⟩
  refine ⟨_,rfl,?_⟩
  rw [str_eq (l:=[10]) rfl]
  refine (c_skipS _ hR4 hl (by decide)).mono' ?_
  rintro _ w5 ⟨rfl,hcase5⟩
  refine ⟨rfl,?_⟩
  have hst5:∃ (m5:List UInt8) (b5:Bool),RSt u a L l m5 n b5 w5∧(∃ d,m4=d++m5)∧(b5=false→b4=false)∧(∀ r,m4=[10]++r→b5=b4∧m5=r):=by
   rcases hcase5 with ⟨m',hm',hR'⟩|⟨hne,hR'⟩
   ·exact ⟨m',b4,hR',⟨_,hm'⟩,id,fun r hr=>⟨rfl,List.append_cancel_left (hm'.symm.trans hr)⟩⟩
   ·exact ⟨m4,true,hR',⟨[],rfl⟩,(fun h=>by cases h),fun r hr=>absurd hr (hne r)⟩
  clear hcase5
  obtain ⟨m5,b5,hR5,⟨d5,hd5⟩,hb5,hG5⟩:=hst5
  obtain ⟨I5,pre5,hlm5,hC5,hS5⟩:=hR5
  refine empty_of (α:=ConD) hS5 fun x w6 J hS6 _ hO=>?_
  have hR6:RSt u a (J++L) l m5 n b5 w6:=⟨I5,pre5,hlm5,hC5,hS6.perm (by
   classical
   exact List.perm_iff_count.2 fun a=>by simp only [List.count_append];omega)⟩
  have e2:m0.length=d2.length+m2.length:=by rw [hd2,List.length_append]
  have e3:m2.length=d3.length+m3.length:=by rw [hd3,List.length_append]
  have e4:m3.length=d4.length+m4.length:=by rw [hd4,List.length_append]
  have e5:m4.length=d5.length+m5.length:=by rw [hd5,List.length_append]
  refine ⟨⟨k,k',[]⟩,x,m5,b5,J,rfl,hO,⟨by show _≤k;omega,by show k≤_;omega⟩,⟨by show _≤k';omega,by show k'≤_;omega⟩,hR6,⟨[97,114,114,111,119,32]++(d2++(d3++(d4++d5))),by simp only [hd2,hd3,hd4,hd5,List.append_assoc]⟩,fun hf=>⟨(hb2 (hb3 (hb4 (hb5 hf)).1)).1,?_⟩,?_⟩
  ·rw [List.length_append];simp only [List.length_cons,List.length_nil];omega
  ·intro d0 rest hbf hp hm
   by_cases hcn:d0.cons.length=0
   ·rw [shD_arrow hcn] at hm
    have hm:=List.append_cancel_left hm
    obtain ⟨⟨⟨f0,f1⟩,⟨t0,t1⟩,_⟩,_⟩:=hp
    obtain ⟨p1,p2,p3⟩:=hG2 d0.frm _ f0 (by omega) hm (noDig_sp _)
    obtain ⟨p4,p5⟩:=hG3 _ p2
    obtain ⟨p6,p7,p8⟩:=hG4 d0.to_ _ t0 (by omega) p5 (noDig_nl _)
    obtain ⟨p9,p10⟩:=hG5 _ p7
    refine ⟨?_,by rw [p9,p8,p4,p3,hbf],p10⟩
    obtain ⟨x1,x2,x3⟩:=d0
    simp only at p1 p6 hcn
    rw [p1,p6,List.eq_nil_of_length_eq_zero hcn]
   ·rw [shD_data (by omega)] at hm
    exact absurd (List.cons.inj hm).1 (by decide)
 ·have hno:∀ m',m≠[97,114,114,111,119,32]++m':=fun m' hm=>by
   have:=hqi.2 ⟨m',hm⟩
   rw [hc] at this;cases this
  rw [str_eq (l:=[100,97,116,97]) rfl]
  refine (c_skipS _ h hl (by decide)).mono' ?_
  rintro _ w1 ⟨rfl,hcase⟩
  refine ⟨rfl,?_⟩
  have hst:∃ (m1:List UInt8) (b1:Bool),RSt u a L l m1 n b1 w1∧(∃ d,m=d++m1)∧(b1=false→b=false∧m1.length < m.length)∧(∀ r,m=[100,97,116,97]++r→b1=b∧m1=r):=by
   rcases hcase with ⟨m',hm',hR'⟩|⟨hne,hR'⟩
   ·exact ⟨m',b,hR',⟨_,hm'⟩,fun hb=>⟨hb,by rw [hm',List.length_append];simp⟩,fun r hr=>⟨rfl,List.append_cancel_left (hm'.symm.trans hr)⟩⟩
   ·exact ⟨m,true,hR',⟨[],rfl⟩,(fun h=>by cases h),fun r hr=>absurd hr (hne r)⟩
  clear hcase
  obtain ⟨m1,b1,hR1,hd1,hb1,hG1⟩:=hst
  obtain ⟨I1,pre1,hlm1,hC1,hS1⟩:=hR1
  refine empty_of (α:=ConD) hS1 fun x0 w2 J0 hS2 _ hO0=>?_
  have hR2:RSt u a (J0++L) l m1 n b1 w2:=⟨I1,pre1,hlm1,hC1,hS2.perm (by
   classical
   exact List.perm_iff_count.2 fun a=>by simp only [List.count_append];omega)⟩
  refine ⟨fun x w=>CnI u a L l m n b x w,fun _ w=>LsM l a w,?_,?_⟩
  ·have:=hR2.pos
   refine ⟨[],m1,b1,J0,hO0,hR2,hd1,hb1,by simp,fun _=>by simpa using this,fun d0 rest hbf hp hcn hm=>?_⟩
   rw [shD_data hcn] at hm
   obtain ⟨p1,p2⟩:=hG1 _ hm
   exact ⟨d0.cons,rfl,by rw [p1,hbf],p2⟩
  clear hO0 hR2 hS2 hS1 hC1 hlm1 hG1 hb1 hd1
  rintro x w ⟨cs,m1,b1,J,hO,hR,hd,hbb,hnl,hnm,hG⟩
  dsimp only
  have hN:=c_nextS hR hl
  refine ⟨_,hR.cellB,_,fun _=>hN,fun hc=>?_,fun hc=>?_⟩
  ·simp only [bls] at hc
   obtain ⟨hb1,h32⟩:=hc
   subst hb1
   obtain ⟨m2,rfl⟩:=hd_32 h32
   have hat:=hR.at_
   have hbd:=hR.bad
   rw [str_eq (l:=[32]) rfl]
   refine (c_skipS [32] hR hl (by decide)).mono' ?_
   rintro _ w3 ⟨rfl,hcase⟩
   refine ⟨rfl,?_⟩
   have hR3:RSt u a (J++L) l m2 n false w3:=by
    rcases hcase with ⟨m',hm',hR'⟩|⟨hne,_⟩
    ·rw [(List.cons.inj hm').2];exact hR'
    ·exact absurd rfl (hne m2)
   clear hcase
   refine (c_listS hR3 hl).mono' ?_
   rintro _ w4 ⟨z,ns,m4,b4,K,rfl,hOz,hR4,⟨d4,hd4⟩,hb4,hG4⟩
   refine ⟨_,rfl,?_⟩
   obtain ⟨I4,pre4,hlm4,hC4,hS4⟩:=hR4
   have e4:m2.length=d4.length+m4.length:=by rw [hd4,List.length_append]
   have hnm1:=hnm rfl
   simp only [List.length_cons] at hnm1
   refine OwnD.add (a:=(⟨ns⟩:ConD)) (J:=K) (R:=I4++L) hO (hS4.perm (by
    classical
    exact List.perm_iff_count.2 fun a=>by simp only [List.count_append];omega)) rfl ⟨z,K,rfl,hOz.toAll,rfl⟩ (by decide) (by omega) (by decide) ?_
   intro x7 w7 K7 hO7 hS7
   have hR7:RSt u a (K7++L) l m4 n b4 w7:=⟨I4,pre4,hlm4,hC4,hS7.perm (by
    classical
    exact List.perm_iff_count.2 fun a=>by simp only [List.count_append];omega)⟩
   obtain ⟨d,hd⟩:=hd
   have hbb1:=hbb rfl
   simp only [List.length_cons] at hbb1
   refine ⟨rfl,rfl,rfl,⟨cs++[⟨ns⟩],m4,b4,K7,hO7,hR7,⟨d++(32 ::d4),by rw [hd,hd4];simp⟩,fun _=>⟨hbb1.1,by omega⟩,?_,?_,?_⟩,?_⟩
   ·rw [List.length_append,List.length_singleton];omega
   ·intro _
    rw [List.length_append,List.length_singleton];omega
   ·intro d0 rest hbf hp hcn hm
    obtain ⟨todo,g1,g2,g3⟩:=hG d0 rest hbf hp hcn hm
    cases todo with
    | nil=>simp at g3
    | cons c r=>
     simp only [List.map_cons,List.flatten_cons,List.cons_append,List.append_assoc] at g3
     have g3:=(List.cons.inj g3).2
     have hsm:small3 c.fields:=nn_small (hp.1.2.2.2 c (by rw [g1];simp)).2
     obtain ⟨p1,p2,p3⟩:=hG4 c.fields _ rfl hsm g3
     exact ⟨r,by rw [g1,p1];simp,p2,by rw [p3];rfl⟩
   ·unfold LsM
    rw [hR7.at_,hat,hR7.bad,hbd,List.length_cons]
    cases b4<;>simp only [Bool.false_eq_true,if_false,if_true]<;>omega
  ·simp only [bls] at hc
   rw [str_eq (l:=[10]) rfl]
   refine (c_skipS [10] hR hl (by decide)).mono' ?_
   rintro _ w6 ⟨rfl,hcase⟩
   refine ⟨rfl,?_⟩
   obtain ⟨d,hd⟩:=hd
   have fin:∀ (d0:DeclD) (rest:List UInt8),b=false→dPr d0→m=shD d0++rest→(⟨0,0,cs⟩:DeclD)=d0∧b1=false∧m1=10 ::rest:=by
    intro d0 rest hbf hp hm
    have hcn:0 < d0.cons.length:=by
     apply Nat.pos_of_ne_zero
     intro h0
     rw [shD_arrow h0] at hm
     exact hno _ hm
    obtain ⟨todo,g1,g2,g3⟩:=hG d0 rest hbf hp hcn hm
    cases todo with
    | nil=>
     rw [List.append_nil] at g1
     refine ⟨?_,g2,g3⟩
     obtain ⟨z1,z2⟩:=hp.2 hcn
     obtain ⟨x1,x2,x3⟩:=d0
     simp only at z1 z2 g1
     rw [z1,z2,g1]
    | cons c r=>
     exfalso
     rcases hc with hc|hc
     ·rw [g2] at hc;cases hc
     ·rw [g3] at hc;exact hc rfl
   rcases hcase with ⟨m',hm',hR'⟩|⟨hne,hR'⟩
   ·refine ⟨⟨0,0,cs⟩,x,m',b1,J,rfl,hO,zero_in,zero_in,hR',⟨d++[10],by rw [hd,hm'];simp⟩,fun hf=>⟨(hbb hf).1,by have:=(hbb hf).2;rw [hm'] at this;simp at this;omega⟩,fun d0 rest hbf hp hm=>?_⟩
    obtain ⟨g1,g2,g3⟩:=fin d0 rest hbf hp hm
    rw [g3] at hm'
    exact ⟨g1,g2,(List.cons.inj hm').2.symm⟩
   ·refine ⟨⟨0,0,cs⟩,x,m1,true,J,rfl,hO,zero_in,zero_in,hR',⟨d,hd⟩,(fun h=>by cases h),fun d0 rest hbf hp hm=>?_⟩
    obtain ⟨g1,g2,g3⟩:=fin d0 rest hbf hp hm
    exact absurd g3 (hne rest)
end
end Go.Vc
namespace Go.Vc
open Go Go.Proofs Go.RowKit
theorem shF_app (f:FunD) (rest:List UInt8):shF f++rest=[102,117,110,32]++(shN f.params++([32]++(Lib.itoa f.result++([32]++(showE f.body++([10]++rest)))))):=by
 unfold shF
 simp only [List.append_assoc]
def PP (l:List UInt8) (ds:List DeclD) (fs:List FunD) (ok:Bool):Prop:=
 (ok=true∧prgOk ds fs∧shP ds fs=l∧∀ ds0 fs0,prgOk ds0 fs0→shP ds0 fs0=l→ds0=ds∧fs0=fs)∨
 (ok=false∧ds=[]∧fs=[]∧∀ ds0 fs0,prgOk ds0 fs0→shP ds0 fs0≠l)
theorem PP.same {l:List UInt8} {ds ds':List DeclD} {fs fs':List FunD} {ok ok':Bool} (h:PP l ds fs ok) (h':PP l ds' fs' ok'):ds=ds'∧fs=fs'∧ok=ok':=by
 rcases h with ⟨h1,h2,h3,h4⟩|⟨h1,h2,h3,h4⟩<;>rcases h' with ⟨k1,k2,k3,k4⟩|⟨k1,k2,k3,k4⟩
 ·obtain ⟨e1,e2⟩:=h4 ds' fs' k2 k3
  exact ⟨e1.symm,e2.symm,by rw [h1,k1]⟩
 ·exact absurd h3 (k4 _ _ h2)
 ·exact absurd k3 (h4 _ _ k2)
 ·exact ⟨by rw [h2,k2],by rw [h3,k3],by rw [h1,k1]⟩
theorem dpr_decl {ds:List DeclD} (h:typesOk ds):∀ d∈ds,dPr d:=by
 intro d hd
 refine ⟨sm_decl h d hd,?_⟩
 obtain ⟨i,hi,rfl⟩:=List.getElem_of_mem hd
 have h1:=declOk_easy (h.2 i (by omega) (by omega))
 rw [nth_of (a:=ds[i]) (by simp [List.getElem?_eq_getElem hi])] at h1
 exact h1.2.2.2.1
theorem shD_hd {d:DeclD} (rest:List UInt8):hdB (shD d++rest)=97∨hdB (shD d++rest)=100:=by
 by_cases h:d.cons.length=0
 ·rw [shD_arrow h];exact .inl rfl
 ·rw [shD_data (by omega)];exact .inr rfl
section
variable {u v w:World} {l m:List UInt8} {a:Addr} {L I J K R:Items} {n:Int} {b:Bool} {x y:Sl}
theorem skip_go (s:List UInt8) (h:RSt u a L l m n b w) (hl:l.length≤2000000) (hs:s.length≤1000):Trip Tryz.prog 86 #[.pointer (some (a.add 0)),.string (str s)] w fun r w'=>
  r=.tuple #[]∧∃ (m':List UInt8) (b':Bool),RSt u a L l m' n b' w'∧(∃ d,m=d++m')∧(b'=false→b=false∧m'.length+s.length≤m.length)∧(∀ r,m=s++r→b'=b∧m'=r):=by
 refine (c_skipS s h hl hs).mono' ?_
 rintro _ w1 ⟨rfl,hcase⟩
 refine ⟨rfl,?_⟩
 rcases hcase with ⟨m',hm',hR'⟩|⟨hne,hR'⟩
 ·exact ⟨m',b,hR',⟨_,hm'⟩,fun hb=>⟨hb,by rw [hm',List.length_append];omega⟩,fun r hr=>⟨rfl,List.append_cancel_left (hm'.symm.trans hr)⟩⟩
 ·exact ⟨m,true,hR',⟨[],rfl⟩,(fun h=>by cases h),fun r hr=>absurd hr (hne r)⟩
def GhFu (m:List UInt8) (b:Bool) (f:FunD) (m':List UInt8) (b':Bool):Prop:=∀ (f0:FunD) (rest:List UInt8),b=false→fSm f0→m=shF f0++rest→f=f0∧b'=false∧m'=rest
theorem c_functionS (h:RSt u a L l m n b w) (hl:l.length≤2000000):Trip Tryz.prog 45 #[.pointer (some (a.add 0))] w fun r w'=>
  ∃ (f:FunD) (x y:Sl) (m':List UInt8) (n':Int) (b':Bool) (J K:Items),r=.agg #[x.val,.int .i64 f.result,.int .i64 f.body.op,.int .i64 f.body.num,y.val]∧Own u x f.params J∧OwnD y f.body.kids K∧InI f.result∧InI f.body.op∧InI f.body.num∧
   RSt u a ((J++K)++L) l m' n' b' w'∧(∃ d,m=d++m')∧(b'=false→b=false∧m'.length < m.length)∧GhFu m b f m' b':=by
 refine of45 _ _ _ ?_
 unfold vc45
 rw [str_eq (l:=[102,117,110,32]) rfl,str_eq (l:=[32]) rfl,str_eq (l:=[10]) rfl]
 refine (skip_go _ h hl (by decide)).mono' ?_
 rintro _ w1 ⟨rfl,m1,b1,hR1,⟨d1,hd1⟩,hb1,hG1⟩
 refine ⟨rfl,?_⟩
 refine (c_listS hR1 hl).mono' ?_
 rintro _ w2 ⟨x,ns,m2,b2,J,rfl,hOx,hR2,⟨d2,hd2⟩,hb2,hG2⟩
 refine ⟨_,rfl,?_⟩
 refine (skip_go _ hR2 hl (by decide)).mono' ?_
 rintro _ w3 ⟨rfl,m3,b3,hR3,⟨d3,hd3⟩,hb3,hG3⟩
 refine ⟨rfl,?_⟩
 refine (c_digits hR3 hl).mono' ?_
 rintro _ w4 ⟨k,m4,b4,rfl,k0,k1,hR4,⟨d4,hd4⟩,hb4,hG4⟩
 refine ⟨_,rfl,?_⟩
 refine (skip_go _ hR4 hl (by decide)).mono' ?_
 rintro _ w5 ⟨rfl,m5,b5,hR5,⟨d5,hd5⟩,hb5,hG5⟩
 refine ⟨rfl,?_⟩
 have hp5:=hR5.pos
 obtain ⟨I5,pre5,hlm5,hC5,hS5⟩:=hR5
 refine hC5.store hS5 (by simp) fun w6 I6 hC6 hS6=>?_
 have hR6:RSt u a (J++L) l m5 0 b5 w6:=⟨I6,pre5,hlm5,hC6,hS6⟩
 refine (c_rexpr (m5.length+1) (by omega) hl (Int.le_refl 0) (by omega) hR6).mono' ?_
 rintro _ w7 ⟨e,y,m7,n7,b7,K,rfl,hOy,j1,j2,hR7,⟨d7,hd7⟩,hn7,hle7,hb7,hG7⟩
 refine ⟨_,_,y,rfl,?_⟩
 refine (skip_go _ hR7 hl (by decide)).mono' ?_
 rintro _ w8 ⟨rfl,m8,b8,hR8,⟨d8,hd8⟩,hb8,hG8⟩
 refine ⟨rfl,?_⟩
 have e1:m.length=d1.length+m1.length:=by rw [hd1,List.length_append]
 have e2:m1.length=d2.length+m2.length:=by rw [hd2,List.length_append]
 have e3:m2.length=d3.length+m3.length:=by rw [hd3,List.length_append]
 have e4:m3.length=d4.length+m4.length:=by rw [hd4,List.length_append]
 have e5:m4.length=d5.length+m5.length:=by rw [hd5,List.length_append]
 have e7:m5.length=d7.length+m7.length:=by rw [hd7,List.length_append]
 have e8:m7.length=d8.length+m8.length:=by rw [hd8,List.length_append]
 refine ⟨⟨ns,k,e⟩,x,y,m8,n7,b8,J,K,rfl,hOx,hOy,⟨by show _≤k;omega,by show k≤_;omega⟩,j1,j2,hR8.perm (by
  classical
  exact List.perm_iff_count.2 fun a=>by simp only [List.count_append];omega),⟨d1++(d2++(d3++(d4++(d5++(d7++d8))))),by rw [hd1,hd2,hd3,hd4,hd5,hd7,hd8];simp only [List.append_assoc]⟩,fun hf=>?_,?_⟩
 ·obtain ⟨g8,q8⟩:=hb8 hf
  have g7:=(hb7 g8).1
  have g5:=(hb5 g7).1
  have g4:=(hb4 g5).1
  have g3:=(hb3 g4).1
  have g2:=hb2 g3
  simp only [List.length_singleton] at q8
  exact ⟨(hb1 g2).1,by omega⟩
 ·intro f0 rest hbf ⟨s1,s2,⟨s3,s4⟩,s5,s6⟩ hm
  rw [shF_app] at hm
  obtain ⟨p1,p2⟩:=hG1 _ hm
  obtain ⟨p3,p4,p5⟩:=hG2 f0.params _ (by rw [p1,hbf]) (nn_small s2) p2
  obtain ⟨p6,p7⟩:=hG3 _ p5
  obtain ⟨p8,p9,p10⟩:=hG4 f0.result _ s3 (by omega) p7 (noDig_sp _)
  obtain ⟨p11,p12⟩:=hG5 _ p9
  have hb5f:b5=false:=by rw [p11,p10,p6,p4]
  obtain ⟨p13,p14,p15,_⟩:=hG7 f0.body _ hb5f s6 p12 (noDig_nl _) (by omega)
  obtain ⟨p16,p17⟩:=hG8 _ p15
  exact ⟨by rw [p3,p8,p13],by rw [p16,p14],p17⟩
def DeI (u:World) (a:Addr) (L:Items) (l:List UInt8) (x:Sl) (w:World):Prop:=
 ∃ (ds:List DeclD) (m:List UInt8) (n:Int) (b:Bool) (J:Items),OwnD x ds J∧RSt u a (J++L) l m n b w∧ds.length≤l.length+1∧(b=false→ds.length+m.length≤l.length)∧
  (∀ ds0 fs0,prgOk ds0 fs0→l=shP ds0 fs0→∃ todo,ds0=ds++todo∧b=false∧m=(todo.map shD).flatten++(fs0.map shF).flatten)
def FuI (u:World) (a:Addr) (L:Items) (l:List UInt8) (ds:List DeclD) (x:Sl) (w:World):Prop:=
 ∃ (fs:List FunD) (m:List UInt8) (n:Int) (b:Bool) (J:Items),OwnD x fs J∧RSt u a (J++L) l m n b w∧fs.length≤l.length+1∧(b=false→fs.length+m.length≤l.length)∧
  (∀ ds0 fs0,prgOk ds0 fs0→l=shP ds0 fs0→ds0=ds∧∃ todo,fs0=fs++todo∧b=false∧m=(todo.map shF).flatten)
theorem shF_ne (f:FunD):shF f≠[]:=by unfold shF;simp
theorem c_ParseProgramS (hl:l.length≤2000000):Trip Tryz.prog 15 #[.string (str l)] v fun r w=>∃ (ds:List DeclD) (fs:List FunD) (x y:Sl) (ok:Bool) (J K G:Items),r=.tuple #[.agg #[x.val,y.val],.bool ok]∧OwnD x ds J∧OwnD y fs K∧St v w ((J++K)++G)∧PP l ds fs ok:=by
 refine of15 _ _ _ ?_
 unfold vc15
 refine St.box (vals:=[.string (str l),.int .i64 0,.int .i64 0,.bool false]) (St.refl v) fun a w1 I1 hC hS _=>?_
 refine empty_of (α:=DeclD) hS fun x0 w2 J0 hS2 _ hOx=>?_
 refine empty_of (α:=FunD) hS2 fun y0 w3 K0 hS3 _ hOy=>?_
 have hz:=str_size l
 refine ⟨fun x w=>DeI v a K0 l x w,fun _ w=>LsM l a w,?_,?_⟩
 ·refine ⟨[],l,0,false,J0,hOx,⟨I1,[],rfl,hC,hS3.perm (by
   classical
   exact List.perm_iff_count.2 fun a=>by simp only [List.count_append,List.count_nil];omega)⟩,by simp,by simp,fun ds0 fs0 hp hm=>⟨ds0,rfl,rfl,hm⟩⟩
 clear hOx hC hS hS2 hS3
 rintro x w ⟨ds,m,n,b,J,hO,hR,hdl,hdm,hG⟩
 dsimp only
 have hN:=c_nextS hR hl
 refine ⟨_,hR.cellB,_,fun _=>hN,_,fun _ _=>hN,fun hc=>?_,fun hc=>?_⟩
 ·simp only [bls] at hc
  obtain ⟨hb,hh⟩:=hc
  subst hb
  have hat:=hR.at_
  have hbd:=hR.bad
  refine (c_declS hR hl).mono' ?_
  rintro _ w4 ⟨d,z,m',b',K,rfl,hOz,i1,i2,hR4,⟨d4,hd4⟩,hb4,hG4⟩
  refine ⟨_,_,z,rfl,?_⟩
  have e4:m.length=d4.length+m'.length:=by rw [hd4,List.length_append]
  have hdm1:=hdm rfl
  have hlb:ds.length+1≤1099511627776:=by omega
  obtain ⟨I4,pre4,hlm4,hC4,hS4⟩:=hR4
  refine OwnD.add (a:=d) (J:=K) (R:=I4++K0) hO (hS4.perm (by
   classical
   exact List.perm_iff_count.2 fun a=>by simp only [List.count_append];omega)) rfl ⟨z,K,rfl,i1,i2,hOz,rfl⟩ (by decide) hlb (by decide) ?_
  intro x7 w7 J7 hO7 hS7
  have hR7:RSt v a (J7++K0) l m' n b' w7:=⟨I4,pre4,hlm4,hC4,hS7.perm (by
   classical
   exact List.perm_iff_count.2 fun a=>by simp only [List.count_append];omega)⟩
  refine ⟨rfl,rfl,rfl,⟨ds++[d],m',n,b',J7,hO7,hR7,?_,?_,?_⟩,?_⟩
  ·rw [List.length_append,List.length_singleton];omega
  ·intro hf
   have:=(hb4 hf).2
   rw [List.length_append,List.length_singleton];omega
  ·intro ds0 fs0 hp hm
   obtain ⟨todo,g1,g2,g3⟩:=hG ds0 fs0 hp hm
   cases todo with
   | nil=>
    exfalso
    rw [List.map_nil,List.flatten_nil,List.nil_append] at g3
    cases fs0 with
    | nil=>rw [g3] at hh;simp [hdB] at hh
    | cons f r=>
     rw [List.map_cons,List.flatten_cons,shF_app] at g3
     rw [g3] at hh
     rcases hh with hh|hh<;>exact absurd hh (by show ¬ ((102:Int)=_);decide)
   | cons d0 r=>
    rw [List.map_cons,List.flatten_cons,List.append_assoc] at g3
    obtain ⟨p1,p2,p3⟩:=hG4 d0 _ rfl (dpr_decl hp.1.1 d0 (by rw [g1];simp)) g3
    exact ⟨r,by rw [g1,p1];simp,p2,p3⟩
  ·unfold LsM
   rw [hR7.at_,hat,hR7.bad,hbd]
   cases b'
   ·have:=(hb4 rfl).2
    simp only [Bool.false_eq_true,if_false];omega
   ·simp only [Bool.false_eq_true,if_false,if_true];omega
 ·simp only [bls] at hc
  have hGd:∀ ds0 fs0,prgOk ds0 fs0→l=shP ds0 fs0→ds0=ds∧b=false∧m=(fs0.map shF).flatten:=by
   intro ds0 fs0 hp hm
   obtain ⟨todo,g1,g2,g3⟩:=hG ds0 fs0 hp hm
   cases todo with
   | nil=>rw [List.append_nil] at g1;exact ⟨g1,g2,g3⟩
   | cons d0 r=>
    exfalso
    rw [List.map_cons,List.flatten_cons,List.append_assoc] at g3
    have:=shD_hd (d:=d0) ((r.map shD).flatten++(fs0.map shF).flatten)
    rw [←g3] at this
    rcases hc with hc|hc
    ·rw [g2] at hc;cases hc
    ·omega
  refine ⟨fun y w=>FuI v a J l ds y w,fun _ w=>LsM l a w,?_,?_⟩
  ·refine ⟨[],m,n,b,K0,hOy,hR.perm (by
    classical
    exact List.perm_iff_count.2 fun a=>by simp only [List.count_append];omega),by simp,fun _=>by simpa using hR.pos,fun ds0 fs0 hp hm=>?_⟩
   obtain ⟨g1,g2,g3⟩:=hGd ds0 fs0 hp hm
   exact ⟨g1,fs0,rfl,g2,g3⟩
  clear hR hN hc hG hGd hdl hdm hOy
  clear b m n
  rintro y w ⟨fs,m,n,b,K,hOf,hR,hfl,hfm,hG⟩
  dsimp only
  have hat:=hR.at_
  have hbd:=hR.bad
  have hcell:=hR.cellB
  have hR0:=hR
  obtain ⟨I,pre,hlm,hC,hS⟩:=hR
  have hlen:l.length=pre.length+m.length:=by rw [hlm,List.length_append]
  refine ⟨_,hcell,_,fun _=>hC.load hS rfl,fun hc=>?_,fun hc=>?_⟩
  ·simp only [bls] at hc
   obtain ⟨hb,hh⟩:=hc
   subst hb
   refine (c_functionS hR0 hl).mono' ?_
   rintro _ w4 ⟨f,x1,y1,m',n',b',J1,K1,rfl,hO1,hO2,i1,i2,i3,hR4,⟨d4,hd4⟩,hb4,hG4⟩
   refine ⟨x1,_,_,_,y1,rfl,?_⟩
   have e4:m.length=d4.length+m'.length:=by rw [hd4,List.length_append]
   have hfm1:=hfm rfl
   have hlb:fs.length+1≤1099511627776:=by omega
   obtain ⟨I4,pre4,hlm4,hC4,hS4⟩:=hR4
   refine OwnD.add (a:=f) (J:=J1++K1) (R:=I4++J) hOf (hS4.perm (by
    classical
    exact List.perm_iff_count.2 fun a=>by simp only [List.count_append];omega)) rfl ⟨x1,y1,J1,K1,rfl,i1,hO1.toAll,expr_own.2 ⟨y1,rfl,i2,i3,hO2⟩,rfl⟩ (by decide) hlb (by decide) ?_
   intro x7 w7 J7 hO7 hS7
   have hR7:RSt v a (J7++J) l m' n' b' w7:=⟨I4,pre4,hlm4,hC4,hS7.perm (by
    classical
    exact List.perm_iff_count.2 fun a=>by simp only [List.count_append];omega)⟩
   refine ⟨rfl,rfl,rfl,⟨fs++[f],m',n',b',J7,hO7,hR7,?_,?_,?_⟩,?_⟩
   ·rw [List.length_append,List.length_singleton];omega
   ·intro hf
    have:=(hb4 hf).2
    rw [List.length_append,List.length_singleton];omega
   ·intro ds0 fs0 hp hm
    obtain ⟨g0,todo,g1,g2,g3⟩:=hG ds0 fs0 hp hm
    refine ⟨g0,?_⟩
    cases todo with
    | nil=>
     exfalso
     rw [List.map_nil,List.flatten_nil] at g3
     rw [g3] at hlen
     simp only [List.length_nil] at hlen
     omega
    | cons f0 r=>
     rw [List.map_cons,List.flatten_cons] at g3
     obtain ⟨p1,p2,p3⟩:=hG4 f0 _ rfl (sm_fun hp f0 (by rw [g1];simp)) g3
     exact ⟨r,by rw [g1,p1];simp,p2,p3⟩
   ·unfold LsM
    rw [hR7.at_,hat,hR7.bad,hbd]
    cases b'
    ·have:=(hb4 rfl).2
     simp only [Bool.false_eq_true,if_false];omega
    ·simp only [Bool.false_eq_true,if_false,if_true];omega
  ·simp only [bls] at hc
   have hSt:St v w ((J++K)++I):=hS.perm (by
    classical
    exact List.perm_iff_count.2 fun a=>by simp only [List.count_append];omega)
   have hx:Read w x ds:=hO.read (hSt.perm (by
    classical
    exact List.perm_iff_count.2 fun a=>by simp only [List.count_append];omega):St v w (J++(K++I)))
   have hy:Read w y fs:=hOf.read (hSt.perm (by
    classical
    exact List.perm_iff_count.2 fun a=>by simp only [List.count_append];omega):St v w (K++(J++I)))
   have hgo:∀ ds0 fs0,prgOk ds0 fs0→shP ds0 fs0=l→ds0=ds∧fs0=fs∧b=false:=by
    intro ds0 fs0 hp hm
    obtain ⟨g0,todo,g1,g2,g3⟩:=hG ds0 fs0 hp hm.symm
    refine ⟨g0,?_,g2⟩
    cases todo with
    | nil=>rw [List.append_nil] at g1;exact g1
    | cons f0 r=>
     exfalso
     rw [List.map_cons,List.flatten_cons] at g3
     have h1:1≤(shF f0).length:=by
      have:=shF_ne f0
      cases hs:shF f0 with
      | nil=>exact absurd hs this
      | cons c t=>simp
     have h2:m.length=(shF f0).length+((r.map shF).flatten).length:=by rw [g3,List.length_append]
     rcases hc with hc|hc
     ·rw [g2] at hc;cases hc
     ·omega
   refine ⟨_,hcell,_,fun _=>c_ValidProgramS hx hy,str (shP ds fs),fun hq=>?_,?_⟩
   ·simp only [bls] at hq
    have hp:=pB_iff.1 hq.2
    have hl2:=hp.1.2.2.1
    rw [List.length_map] at hl2
    exact c_showProgram hx hy (sm_decl hp.1.1) (sm_fun hp) hp.1.1.1 hl2
   rw [str_eqB _ _ (m:=l) (str_data _)]
   refine ⟨fun hq=>?_,fun hq=>?_⟩
   ·refine ⟨[],[],⟨none,0,0⟩,⟨none,0,0⟩,false,[],[],(J++K)++I,rfl,OwnD.nil,OwnD.nil,by simpa using hSt,.inr ⟨rfl,rfl,rfl,fun ds0 fs0 hp hm=>?_⟩⟩
    obtain ⟨k1,k2,k3⟩:=hgo ds0 fs0 hp hm
    subst k1;subst k2
    rw [k3,pB_iff.2 hp,decide_eq_true hm] at hq
    cases hq
   ·simp only [bls] at hq
    obtain ⟨⟨q1,q2⟩,q3⟩:=hq
    exact ⟨ds,fs,x,y,true,J,K,I,rfl,hO,hOf,hSt,.inl ⟨rfl,pB_iff.1 q2,q3,fun ds0 fs0 hp hm=>⟨(hgo ds0 fs0 hp hm).1,(hgo ds0 fs0 hp hm).2.1⟩⟩⟩
end
end Go.Vc
