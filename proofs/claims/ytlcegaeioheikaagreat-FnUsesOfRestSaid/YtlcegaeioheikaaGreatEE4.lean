/- Part of the proofs about the heaps and memories: a law is joined in the text whose name ends in W and the law. -/
import Derived.Test.YtlcegaeioheikaaGreatEVcFn
import Derived.Maps.AppendAt
import Derived.Laws.Cover3
set_option linter.all false
namespace Go.Vc
open Go
def Rows (w:World) (x:Sl) (sz:Nat) (rows:List (List Value)):Prop:=
 x.n=rows.length∧x.n≤x.c∧∀ (i:Nat) (r:List Value),rows[i]?=some r→x.a.isSome=true∧∀ (j:Nat) (u:Value),r[j]?=some u→w.cell? ((elA x i sz).add j)=some u
def intV (n:Int):Value:=.int .i64 n
def Ints (w:World) (x:Sl) (l:List Int):Prop:=Rows w x 1 (l.map fun n=>[intV n])
def Bools (w:World) (x:Sl) (l:List Bool):Prop:=Rows w x 1 (l.map fun q=>[Value.bool q])
def Bytes (w:World) (x:Sl) (l:List UInt8):Prop:=Rows w x 1 (l.map fun b=>[Value.int .u8 (b.toNat:Int)])
section
variable {w w':World} {x:Sl} {sz:Nat} {rows:List (List Value)}
theorem Rows.sub (h:Rows w x sz rows) (hs:Sub w w'):Rows w' x sz rows:=
 ⟨h.1,h.2.1,fun i r hr=>⟨(h.2.2 i r hr).1,fun j u hu=>cell_sub hs ((h.2.2 i r hr).2 j u hu)⟩⟩
theorem Rows.len (h:Rows w x sz rows):x.n=rows.length:=h.1
theorem Rows.nil_ (w:World) (sz:Nat):Rows w ⟨none,0,0⟩ sz []:=⟨rfl,Nat.le_refl _,fun i r hr=>by simp at hr⟩
theorem Rows.ix (h:Rows w x sz rows) {i:Int} (h0:0≤i) (h1:i < rows.length):IxOk x i:=by
 have hlt:i.toNat < rows.length:=by omega
 exact ⟨(h.2.2 i.toNat _ (List.getElem?_eq_getElem hlt)).1,h0,by rw [h.1];exact h1⟩
theorem elA_toNat (x:Sl) {i:Int} (h0:0≤i) (sz:Nat):elA x (i.toNat:Int) sz=elA x i sz:=by simp [elA,Int.toNat_of_nonneg h0]
theorem Rows.at_ (h:Rows w x sz rows) {i:Int} (h0:0≤i) {r:List Value} (hr:rows[i.toNat]?=some r) {j:Nat} {u:Value} (hu:r[j]?=some u):w.cell? ((elA x i sz).add j)=some u:=by
 have:=(h.2.2 i.toNat r hr).2 j u hu
 rwa [elA_toNat x h0] at this
theorem Ints.sub {l:List Int} (h:Ints w x l) (hs:Sub w w'):Ints w' x l:=Rows.sub h hs
theorem Ints.len {l:List Int} (h:Ints w x l):x.n=l.length:=by have:=Rows.len h;simpa using this
theorem Ints.at_ {l:List Int} (h:Ints w x l) {i:Int} (h0:0≤i) {n:Int} (hn:l[i.toNat]?=some n):w.cell? ((elA x i 1).add 0)=some (.int .i64 n):=
 Rows.at_ h h0 (r:=[intV n]) (by simp [hn]) (j:=0) rfl
theorem Ints.get {l:List Int} (h:Ints w x l) {i:Int} (h0:0≤i) (h1:i < l.length):∃ n,l[i.toNat]?=some n∧w.cell? ((elA x i 1).add 0)=some (.int .i64 n):=
 ⟨_,List.getElem?_eq_getElem (by omega),h.at_ h0 (List.getElem?_eq_getElem (by omega))⟩
theorem Bools.at_ {l:List Bool} (h:Bools w x l) {i:Int} (h0:0≤i) {n:Bool} (hn:l[i.toNat]?=some n):w.cell? ((elA x i 1).add 0)=some (.bool n):=
 Rows.at_ h h0 (r:=[Value.bool n]) (by simp [hn]) (j:=0) rfl
theorem Bytes.at_ {l:List UInt8} (h:Bytes w x l) {i:Int} (h0:0≤i) {n:UInt8} (hn:l[i.toNat]?=some n):w.cell? ((elA x i 1).add 0)=some (.int .u8 (n.toNat:Int)):=
 Rows.at_ h h0 (r:=[Value.int .u8 (n.toNat:Int)]) (by simp [hn]) (j:=0) rfl
theorem Ints.nil_ (w:World):Ints w ⟨none,0,0⟩ []:=Rows.nil_ w 1
end
theorem inK_i64 {n:Int} (h0:-9223372036854775808≤n) (h1:n≤9223372036854775807):InK .i64 n:=IntWalk.i64_in n ⟨h0,h1⟩
end Go.Vc
namespace Go.Vc
open Go Go.RowKit
theorem stepT_build {P:Program} {t e:TypeId} {i:TypeInfo} {z:Value} (ht:P.underlying t=some (.slice e)) (hi:P.info? e=some i) (hz:i.zero=some z) {n:Nat} {ps:Array (Nat×Value)} {cells:Array Value} {v:World} {Q:Value→World→Prop}
  (hsz:n * i.size≤16777216) (hf:Instr.fill (fun k=>some (k * i.size,i.size)) ((Array.range (n * i.size)).map (z.cells[· % z.cells.size]!)) ps.toList=some cells)
  (h:∀ (g:Nat) (w':World),v.heap.size≤g→Sub v w'→w'.heap[g]?=some (.cells cells e (0,0))→Q (Sl.mk (some ⟨g,0,none⟩) n n).val w'):
  StepT P (Instr.buildSlice t n ps) v Q:=by
 intro w hs
 have hne:¬ n * i.size > 2 ^ 24:=by omega
 have hr:(Instr.buildSlice t n ps).run P w=.ok (.slice (some ⟨w.heap.size,0,none⟩) n n) (w.alloc (.cells cells e)):=by
  by_cases h0:n * i.size=0
  ·have em:∀ f:Nat→Value,Array.map f (Array.range 0)=#[]:=fun f=>Array.ext (by simp) (fun i h1 _=>absurd h1 (by simp))
   have hf':Instr.fill (fun k=>some (k * i.size,i.size)) #[] ps.toList=some cells:=by rw [h0,em] at hf;exact hf
   simp [Instr.buildSlice,run_underlying ht,run_size hi,h0,em,hf',newRow]
  ·simp [Instr.buildSlice,run_underlying ht,run_size hi,hne,h0,zeroValue,run_typeInfo w hi,hz,hf,newRow]
 obtain ⟨v',fr,hk⟩:=newAt_step (o:=.cells cells e) (Q:=fun a w'=>∃ g,a=⟨g,0,none⟩∧Q (Sl.mk (some ⟨g,0,none⟩) n n).val w') hs (fun g w' hg hsub hh=>⟨g,rfl,h g w' hg hsub hh⟩)
 obtain ⟨g,hg,hq⟩:=hk
 cases hg
 exact ⟨_,_,v',hr,fr,hq⟩
abbrev Items:=List (Nat×Obj)
def AtAll (w:World) (L:Items):Prop:=∀ p∈L,w.heap[p.1]?=some p.2∧p.2≠absent
structure St (u w:World) (L:Items):Prop where
 sub:Sub u w
 nd:(L.map (·.1)).Nodup
 out:∀ p∈L,Out u p.1
 at_:AtAll w L
class Pos (I L:Items) (R:outParam Items) (F:outParam (Items→Items)):Prop where
 perm:L.Perm (I++R)
 permF:∀ I',(F I').Perm (I'++R)
instance (priority:=high) posHere (I R:Items):Pos I (I++R) R (fun I'=>I'++R):=⟨.refl _,fun _=>.refl _⟩
instance posThere (I J L R:Items) (F:Items→Items) [p:Pos I L R F]:Pos I (J++L) (J++R) (fun I'=>J++F I') where
 perm:=((List.Perm.append_left J p.perm).trans (by rw [←List.append_assoc,←List.append_assoc];exact (List.perm_append_comm).append_right R))
 permF:=fun I'=>((List.Perm.append_left J (p.permF I')).trans (by rw [←List.append_assoc,←List.append_assoc];exact (List.perm_append_comm).append_right R))
class Pick (T T':Items):Prop where
 sub:∃ R,T'.Perm (T++R)
instance (priority:=high) pickAll (L:Items):Pick L L:=⟨[],by simp⟩
instance pickFront (I T T' R:Items) (F:Items→Items) [p:Pos I T' R F] [q:Pick T R]:Pick (I++T) T':=by
 obtain ⟨S,hS⟩:=q.sub
 exact ⟨S,p.perm.trans (by rw [List.append_assoc];exact List.Perm.append_left I hS)⟩
instance pickNil (T':Items):Pick [] T':=⟨T',by simp⟩
instance (priority:=low) pickDrop (T J T':Items) [q:Pick T T']:Pick T (J++T'):=by
 obtain ⟨S,hS⟩:=q.sub
 exact ⟨J++S,(List.Perm.append_left J hS).trans (by rw [←List.append_assoc,←List.append_assoc];exact (List.perm_append_comm).append_right S)⟩
section
variable {u w w':World} {L I R:Items} {F:Items→Items}
theorem AtAll.sub (h:AtAll w L) (hs:Sub w w'):AtAll w' L:=fun p hp=>⟨hs.at_ _ _ (h p hp).1 (h p hp).2,(h p hp).2⟩
theorem AtAll.perm {L':Items} (h:AtAll w L) (hp:L'.Perm L):AtAll w L':=fun p hm=>h p (hp.subset hm)
theorem St.refl (w:World):St w w []:=⟨.refl w,by simp,by simp,by simp [AtAll]⟩
theorem St.sub_w (h:St u w L) (hs:Sub w w'):St u w' L:=⟨h.sub.trans hs,h.nd,h.out,h.at_.sub hs⟩
theorem St.perm {L':Items} (h:St u w L) (hp:L'.Perm L):St u w L':=
 ⟨h.sub,(hp.map _).nodup_iff.2 h.nd,fun p hm=>h.out p (hp.subset hm),h.at_.perm hp⟩
theorem St.left {A B:Items} (h:St u w (A++B)):St u w A:=
 ⟨h.sub,by have:=h.nd;rw [List.map_append] at this;exact (List.nodup_append.1 this).1,fun p hm=>h.out p (List.mem_append_left _ hm),fun p hm=>h.at_ p (List.mem_append_left _ hm)⟩
theorem St.right {A B:Items} (h:St u w (A++B)):St u w B:=
 ⟨h.sub,by have:=h.nd;rw [List.map_append] at this;exact (List.nodup_append.1 this).2.1,fun p hm=>h.out p (List.mem_append_right _ hm),fun p hm=>h.at_ p (List.mem_append_right _ hm)⟩
theorem St.to {T:Items} (h:St u w L) [p:Pick T L]:St u w T:=by
 obtain ⟨R,hR⟩:=p.sub
 exact (h.perm hR.symm).left
theorem St.items (h:St u w L) [p:Pos I L R F]:AtAll w I:=fun q hq=>h.at_ q (p.perm.symm.subset (List.mem_append_left _ hq))
theorem St.nodupI (h:St u w L) [p:Pos I L R F]:(I.map (·.1)).Nodup:=by
 have:=(h.perm p.perm.symm).nd;rw [List.map_append] at this;exact (List.nodup_append.1 this).1
theorem St.fresh_ne (h:St u w L) {p:Nat×Obj} (hp:p∈L):p.1 < w.heap.size:=getElem?_lt (h.at_ p hp).1
theorem St.upd (h:St u w L) [p:Pos I L R F] {I':Items} (hk:∀ (b:Nat) (o:Obj),w.heap[b]?=some o→o≠absent→b∉I.map (·.1)→w'.heap[b]?=some o)
  (hI:AtAll w' I') (hnd:(I'.map (·.1)).Nodup) (hfr:∀ b,b∈I'.map (·.1)→b∈I.map (·.1)∨Out w b) (hsz:w.heap.size≤w'.heap.size):St u w' (F I'):=by
 have h0:=h.perm p.perm.symm
 have hnd0:=h0.nd
 rw [List.map_append] at hnd0
 have hdis:=(List.nodup_append.1 hnd0).2.2
 refine St.perm (L:=I'++R) ⟨⟨Nat.le_trans h.sub.size hsz,fun b o hb hne=>?_⟩,?_,fun q hq=>?_,fun q hq=>?_⟩ (p.permF I')
 ·refine hk b o (h.sub.at_ b o hb hne) hne fun hm=>?_
  obtain ⟨q,hq,rfl⟩:=List.mem_map.1 hm
  exact hne (h0.out q (List.mem_append_left _ hq) o hb)
 ·rw [List.map_append]
  refine List.nodup_append.2 ⟨hnd,(List.nodup_append.1 hnd0).2.1,fun a ha b hb e=>?_⟩
  subst e
  rcases hfr a ha with hi|hge
  ·exact hdis a hi a hb rfl
  ·obtain ⟨q,hq,rfl⟩:=List.mem_map.1 hb
   obtain ⟨h1,h2⟩:=h0.at_ q (List.mem_append_right _ hq)
   exact h2 (hge _ h1)
 ·rcases List.mem_append.1 hq with hq|hq
  ·rcases hfr q.1 (List.mem_map_of_mem hq) with hi|hge
   ·obtain ⟨q',hq',e⟩:=List.mem_map.1 hi
    rw [←e];exact h0.out q' (List.mem_append_left _ hq')
   ·exact h.sub.out hge
  ·exact h0.out q (List.mem_append_right _ hq)
 ·rcases List.mem_append.1 hq with hq|hq
  ·exact hI q hq
  ·obtain ⟨h1,h2⟩:=h0.at_ q (List.mem_append_right _ hq)
   refine ⟨hk q.1 q.2 h1 h2 fun hm=>?_,h2⟩
   exact hdis q.1 hm q.1 (List.mem_map_of_mem hq) rfl
theorem out_of_le {w:World} {b:Nat} (h:w.heap.size≤b):Out w b:=by
 intro o ho
 have:=getElem?_lt ho
 omega
theorem St.join (h:St u w L) (k:St w w' I):St u w' (I++L):=by
 have:Pos ([]:Items) L L (fun I'=>I'++L):=⟨.refl _,fun _=>.refl _⟩
 refine St.upd h (I:=[]) (fun b o hb hne _=>k.sub.at_ b o hb hne) k.at_ k.nd (fun b hb=>.inr ?_) k.sub.size
 obtain ⟨q,hq,rfl⟩:=List.mem_map.1 hb
 exact k.out q hq
theorem St.new (h:St u w L) {g:Nat} {o:Obj} (hg:w.heap.size≤g) (hs:Sub w w') (ho:w'.heap[g]?=some o) (hne:o≠absent):St u w' ([(g,o)]++L):=
 h.join ⟨hs,by simp,by simpa using out_of_le hg,by simpa [AtAll] using ⟨ho,hne⟩⟩
def maskW (w:World) (q:Nat→Bool):World:={ w with heap:=(Array.range w.heap.size).map fun b=>if q b then (w.heap[b]?).getD absent else absent }
theorem maskW_get (w:World) (q:Nat→Bool) (b:Nat):(maskW w q).heap[b]?=if b < w.heap.size then (if q b then w.heap[b]? else some absent) else none:=by
 unfold maskW
 simp only [Array.getElem?_map,Array.getElem?_range]
 by_cases h:b < w.heap.size
 ·simp only [if_pos h,Option.map_some]
  by_cases hq:q b
  ·simp [hq,Array.getElem?_eq_getElem h]
  ·simp [hq]
 ·simp [if_neg h]
theorem maskW_size (w:World) (q:Nat→Bool):(maskW w q).heap.size=w.heap.size:=by simp [maskW]
theorem maskW_sub (w:World) (q:Nat→Bool):Sub (maskW w q) w:=by
 refine ⟨by rw [maskW_size];exact Nat.le_refl _,fun b o hb hne=>?_⟩
 rw [maskW_get] at hb
 split at hb
 ·split at hb
  ·exact hb
  ·simp only [Option.some.injEq] at hb;exact absurd hb.symm hne
 ·cases hb
open Classical in
theorem St.freeze (h:St u w L) (I:Items) {R:Items} {F:Items→Items} [p:Pos I L R F]:∃ u',Sub u u'∧St u' w R∧St u u' I:=by
 have h0:=h.perm p.perm.symm
 have hnd0:=h0.nd
 rw [List.map_append] at hnd0
 have hdis:=(List.nodup_append.1 hnd0).2.2
 let q:Nat→Bool:=fun b=>decide (b∉R.map (·.1))
 have hsub:Sub u (maskW w q):=by
  refine ⟨by rw [maskW_size];exact h.sub.size,fun b o hb hne=>?_⟩
  have hw:=h.sub.at_ b o hb hne
  rw [maskW_get,if_pos (getElem?_lt hw),if_pos ?_]
  ·exact hw
  ·refine decide_eq_true fun hm=>?_
   obtain ⟨x,hx,rfl⟩:=List.mem_map.1 hm
   exact hne (h0.out x (List.mem_append_right _ hx) o hb)
 refine ⟨maskW w q,hsub,⟨maskW_sub w q,(List.nodup_append.1 hnd0).2.1,fun x hx o ho=>?_,fun x hx=>h0.at_ x (List.mem_append_right _ hx)⟩,
  ⟨hsub,(List.nodup_append.1 hnd0).1,fun x hx=>h0.out x (List.mem_append_left _ hx),fun x hx=>?_⟩⟩
 ·rw [maskW_get] at ho
  have hq:q x.1=false:=decide_eq_false fun hn=>hn (List.mem_map_of_mem hx)
  rw [hq] at ho
  split at ho
  ·simpa using ho.symm
  ·cases ho
 ·obtain ⟨h1,h2⟩:=h0.at_ x (List.mem_append_left _ hx)
  refine ⟨?_,h2⟩
  rw [maskW_get,if_pos (getElem?_lt h1),if_pos ?_]
  ·exact h1
  ·exact decide_eq_true fun hm=>hdis x.1 (List.mem_map_of_mem hx) x.1 hm rfl
open Classical in
theorem Trip.fr {P:Program} {f:FuncId} {args:Array Value} {Q K:Value→World→Prop} (h:Trip P f args u Q) (hS:St u w L) (k:∀ r u' w',Q r u'→St u' w' L→(Sub u u'→Sub w w')→K r w'):Trip P f args w K:=by
 refine ⟨h.1,fun w0 hs=>(h.2 w0 (hS.sub.trans hs)).mono fun e w0' ⟨r,u',he,fr,hq⟩=>?_⟩
 let q:Nat→Bool:=fun b=>decide (¬ Out u' b∨¬ Out w b)
 have hkeep:∀ (b:Nat) (o:Obj),w.heap[b]?=some o→o≠absent→Out u b→w0'.heap[b]?=some o∧Out u' b:=by
  intro b o hb hne ho
  have h1:=hs.at_ b o hb hne
  obtain ⟨h2,h3⟩:=fr.out b (getElem?_lt h1) ho
  exact ⟨by rw [h3];exact h1,h2⟩
 have hsub:Sub u' (maskW w0' q):=by
  refine ⟨by rw [maskW_size];exact fr.sub.size,fun b o hb hne=>?_⟩
  have h1:=fr.sub.at_ b o hb hne
  rw [maskW_get,if_pos (getElem?_lt h1),if_pos]
  ·exact h1
  ·exact decide_eq_true (.inl fun hn=>hne (hn o hb))
 refine ⟨r,maskW w0' q,he,⟨maskW_sub _ _,fr.size,fr.os,fr.tape,fr.output,fun b hb ho=>?_⟩,k r u' _ hq ⟨hsub,hS.nd,fun p hp=>?_,fun p hp=>?_⟩ fun huu=>⟨?_,fun b o hb hne=>?_⟩⟩
 ·obtain ⟨h2,h3⟩:=fr.out b hb (hS.sub.out ho)
  refine ⟨fun o hm=>?_,h3⟩
  rw [maskW_get] at hm
  have hqf:q b=false:=decide_eq_false fun hn=>by
   rcases hn with hn|hn
   ·exact hn h2
   ·exact hn ho
  rw [hqf] at hm
  split at hm
  ·simpa using hm.symm
  ·cases hm
 ·obtain ⟨h1,h2⟩:=hS.at_ p hp
  exact (hkeep p.1 p.2 h1 h2 (hS.out p hp)).2
 ·obtain ⟨h1,h2⟩:=hS.at_ p hp
  obtain ⟨h3,h4⟩:=hkeep p.1 p.2 h1 h2 (hS.out p hp)
  refine ⟨?_,h2⟩
  rw [maskW_get,if_pos (getElem?_lt h3),if_pos]
  ·exact h3
  ·exact decide_eq_true (.inr fun hn=>h2 (hn _ h1))
 ·rw [maskW_size];have:=hs.size;have:=fr.size;omega
 ·have hkeep2:w0'.heap[b]?=some o:=by
   rcases Classical.em (Out u b) with ho|ho
   ·exact (hkeep b o hb hne ho).1
   ·have:∃ o',u.heap[b]?=some o'∧o'≠absent:=
     Classical.byContradiction fun hn=>ho fun q' hq'=>Classical.byContradiction fun hne'=>hn ⟨q',hq',hne'⟩
    obtain ⟨o',g1,g2⟩:=this
    have g3:=hS.sub.at_ b o' g1 g2
    rw [hb] at g3
    cases g3
    exact fr.sub.at_ b o (huu.at_ b o g1 g2) g2
  rw [maskW_get,if_pos (getElem?_lt hkeep2),if_pos]
  ·exact hkeep2
  ·exact decide_eq_true (.inr fun hn=>hne (hn _ hb))
theorem Trip.mono' {P:Program} {f:FuncId} {args:Array Value} {Q K:Value→World→Prop} (h:Trip P f args w Q) (k:∀ r w',Q r w'→K r w'):Trip P f args w K:=
 ⟨h.1,fun w0 hs=>(h.2 w0 hs).mono fun _ _ ⟨r,v',he,fr,hq⟩=>⟨r,v',he,fr,k r v' hq⟩⟩
end
abbrev InI (n:Int):Prop:=-9223372036854775808≤n∧n≤9223372036854775807
abbrev BB:Nat:=1099511627776
abbrev BR:Nat:=70368744177664
class Dat (α:Type) where
 sz:Nat
 cells:Nat→World→List Value→α→Prop
 mono:∀ {B:Nat} {u w:World} {cs:List Value} {a:α},Sub u w→cells B u cs a→cells B w cs a
 len:∀ {B:Nat} {w:World} {cs:List Value} {a:α},cells B w cs a→cs.length=sz
 one:∀ {B:Nat} {w:World} {cs:List Value} {a:α},cells B w cs a→∀ v∈cs,v.oneCell'=true
def nth {α:Type} [Inhabited α] (l:List α) (i:Int):α:=l.getD i.toNat default
theorem nth_get {α:Type} [Inhabited α] {l:List α} {i:Int} (h0:0≤i) (h1:i < l.length):l[i.toNat]?=some (nth l i):=by
 have:i.toNat < l.length:=by omega
 simp [nth,List.getD,List.getElem?_eq_getElem this]
theorem nth_of {α:Type} [Inhabited α] {l:List α} {i:Int} {a:α} (h:l[i.toNat]?=some a):nth l i=a:=by simp [nth,List.getD,h]
theorem nth_mem {α:Type} [Inhabited α] {l:List α} {i:Int} (h0:0≤i) (h1:i < l.length):nth l i∈l:=List.mem_of_getElem? (nth_get h0 h1)
def Els {α:Type} [Dat α] (B:Nat) (u:World) (rows:List (List Value)) (l:List α):Prop:=
 rows.length=l.length∧∀ (i:Nat) (r:List Value) (a:α),rows[i]?=some r→l[i]?=some a→Dat.cells B u r a
def ReadB {α:Type} [Dat α] (B:Nat) (w:World) (x:Sl) (l:List α):Prop:=∃ rows,Rows w x (Dat.sz α) rows∧Els B w rows l∧l.length≤B
abbrev Read {α:Type} [Dat α] (w:World) (x:Sl) (l:List α):Prop:=ReadB BB w x l
instance:Dat Int where
 sz:=1
 cells _ _ cs n:=cs=[intV n]∧InI n
 mono:=fun _ h=>h
 len:=fun h=>by rw [h.1];rfl
 one:=fun h v hv=>by rw [h.1] at hv;simp at hv;subst hv;rfl
instance:Dat Bool where
 sz:=1
 cells _ _ cs q:=cs=[.bool q]
 mono:=fun _ h=>h
 len:=fun h=>by rw [h];rfl
 one:=fun h v hv=>by rw [h] at hv;simp at hv;subst hv;rfl
instance:Dat UInt8 where
 sz:=1
 cells _ _ cs q:=cs=[.int .u8 (q.toNat:Int)]
 mono:=fun _ h=>h
 len:=fun h=>by rw [h];rfl
 one:=fun h v hv=>by rw [h] at hv;simp at hv;subst hv;rfl
instance:Dat ByteArray where
 sz:=1
 cells _ _ cs q:=cs=[.string q]
 mono:=fun _ h=>h
 len:=fun h=>by rw [h];rfl
 one:=fun h v hv=>by rw [h] at hv;simp at hv;subst hv;rfl
section
variable {α:Type} [Dat α] {B:Nat} {u w w':World} {x:Sl} {l:List α} {rows:List (List Value)}
theorem Els.mono (h:Els B u rows l) (hs:Sub u w):Els B w rows l:=⟨h.1,fun i r a hr ha=>Dat.mono hs (h.2 i r a hr ha)⟩
theorem ReadB.mono (h:ReadB B w x l) (hs:Sub w w'):ReadB B w' x l:=let ⟨rows,h1,h2,h3⟩:=h;⟨rows,h1.sub hs,h2.mono hs,h3⟩
theorem ReadB.n (h:ReadB B w x l):x.n=l.length:=let ⟨_,h1,h2,_⟩:=h;h1.len.trans h2.1
theorem ReadB.le (h:ReadB B w x l):l.length≤B:=let ⟨_,_,_,h3⟩:=h;h3
theorem Read.le (h:Read w x l):l.length≤1099511627776:=ReadB.le h
instance datList:Dat (List α) where
 sz:=1
 cells B w cs l:=∃ x:Sl,cs=[x.val]∧ReadB B w x l
 mono:=fun hs ⟨x,h1,h2⟩=>⟨x,h1,h2.mono hs⟩
 len:=fun ⟨x,h1,_⟩=>by rw [h1];rfl
 one:=fun ⟨x,h1,_⟩ v hv=>by rw [h1] at hv;simp at hv;subst hv;rfl
theorem ReadB.nil:ReadB B w ⟨none,0,0⟩ ([]:List α):=⟨[],Rows.nil_ w _,⟨rfl,fun i r a hr=>by simp at hr⟩,Nat.zero_le _⟩
theorem ReadB.row [Inhabited α] (h:ReadB B w x l) {i:Int} (h0:0≤i) (h1:i < l.length):
  ∃ r,Dat.cells B w r (nth l i)∧∀ (j:Nat) (v:Value),r[j]?=some v→w.cell? ((elA x i (Dat.sz α)).add j)=some v:=by
 obtain ⟨rows,hr,he,_⟩:=h
 have hlt:i.toNat < rows.length:=by rw [he.1];omega
 have hg:=List.getElem?_eq_getElem hlt
 exact ⟨_,he.2 _ _ _ hg (nth_get h0 h1),fun j v hv=>hr.at_ h0 hg hv⟩
theorem ReadB.ix (h:ReadB B w x l) {i:Int} (h0:0≤i) (h1:i < l.length):IxOk x i:=by
 obtain ⟨rows,hr,he,_⟩:=h
 exact hr.ix h0 (by rw [he.1];exact h1)
end
theorem ReadB.int {B:Nat} {w:World} {x:Sl} {l:List Int} (h:ReadB B w x l) {i:Int} (h0:0≤i) (h1:i < l.length):
  w.cell? ((elA x i 1).add 0)=some (.int .i64 (nth l i))∧InI (nth l i):=by
 obtain ⟨r,⟨rfl,h3⟩,h4⟩:=h.row h0 h1
 exact ⟨h4 0 _ rfl,h3⟩
theorem ReadB.bool {B:Nat} {w:World} {x:Sl} {l:List Bool} (h:ReadB B w x l) {i:Int} (h0:0≤i) (h1:i < l.length):
  w.cell? ((elA x i 1).add 0)=some (.bool (nth l i)):=by
 obtain ⟨r,h2,h4⟩:=h.row h0 h1
 rw [show r=[.bool (nth l i)] from h2] at h4
 exact h4 0 _ rfl
theorem ReadB.byte {B:Nat} {w:World} {x:Sl} {l:List UInt8} (h:ReadB B w x l) {i:Int} (h0:0≤i) (h1:i < l.length):
  w.cell? ((elA x i 1).add 0)=some (.int .u8 ((nth l i).toNat:Int)):=by
 obtain ⟨r,h2,h4⟩:=h.row h0 h1
 rw [show r=[.int .u8 ((nth l i).toNat:Int)] from h2] at h4
 exact h4 0 _ rfl
inductive OSl (sz:Nat):Sl→List (List Value)→Items→Prop where
 | nil:OSl sz ⟨none,0,0⟩ [] []
 | blk (g o n c:Nat) (cur:Array Value) (e:TypeId) (rows:List (List Value)) (hn:n=rows.length) (hc:n≤c) (hm:c≤maxLen) (hs:o+c * sz≤cur.size)
   (hr:∀ (i:Nat) (r:List Value),rows[i]?=some r→r.length=sz∧∀ (j:Nat) (v:Value),r[j]?=some v→cur[o+i * sz+j]?=some v):
   OSl sz ⟨some ⟨g,o,none⟩,n,c⟩ rows [(g,.cells cur e (0,0))]
def Own {α:Type} [Dat α] (u:World) (x:Sl) (l:List α) (I:Items):Prop:=∃ rows,OSl (Dat.sz α) x rows I∧Els BB u rows l∧l.length≤BB
theorem cell_blk {w:World} {g o k:Nat} {cur:Array Value} {e:TypeId} {fz:Nat×Nat} (h:w.heap[g]?=some (.cells cur e fz)) {p:Addr} (hp:p=⟨g,o,none⟩):w.cell? (p.add k)=cur[o+k]?:=by
 subst hp
 rw [box_add]
 simp [World.cell?,h]
theorem elA_blk (g o n c:Nat) (i:Int) (sz:Nat):elA ⟨some ⟨g,o,none⟩,n,c⟩ i sz=⟨g,o+i.toNat * sz,none⟩:=by
 simp only [elA,Option.getD_some,box_add]
section
variable {α:Type} [Dat α] {u w w':World} {x y:Sl} {l:List α} {rows:List (List Value)} {sz:Nat} {L I R:Items} {F:Items→Items}
theorem OSl.rd (h:OSl sz x rows I) (hA:AtAll w I):Rows w x sz rows:=by
 cases h with
 | nil=>exact Rows.nil_ w sz
 | blk g o n c cur e _ hn hc hm hs hr=>
  refine ⟨hn,hc,fun i r hi=>⟨rfl,fun j v hv=>?_⟩⟩
  rw [elA_blk,cell_blk (hA (g,.cells cur e (0,0)) (by simp)).1 rfl]
  simpa using (hr i r hi).2 j v hv
theorem OSl.len (h:OSl sz x rows I):x.n=rows.length:=by
 cases h with
 | nil=>rfl
 | blk g o n c cur e _ hn hc hm hs hr=>exact hn
theorem Own.n (h:Own u x l I):x.n=l.length:=let ⟨_,h1,h2,_⟩:=h;h1.len.trans h2.1
theorem Own.le (h:Own u x l I):l.length≤1099511627776:=let ⟨_,_,_,h3⟩:=h;h3
theorem Own.mono (h:Own u x l I) (hs:Sub u w):Own w x l I:=let ⟨rows,h1,h2,h3⟩:=h;⟨rows,h1,h2.mono hs,h3⟩
theorem Own.read (h:Own u x l I) (hS:St u w L) [p:Pos I L R F]:Read w x l:=by
 obtain ⟨rows,h1,h2,h3⟩:=h
 exact ⟨rows,h1.rd hS.items,h2.mono hS.sub,h3⟩
theorem Own.read1 (h:Own u x l I) (hS:St u w I):Read w x l:=by
 obtain ⟨rows,h1,h2,h3⟩:=h
 exact ⟨rows,h1.rd hS.at_,h2.mono hS.sub,h3⟩
theorem Own.nil (u:World):Own u ⟨none,0,0⟩ ([]:List α) []:=⟨[],.nil,⟨rfl,fun i r a hr=>by simp at hr⟩,Nat.zero_le _⟩
def Src (u w:World) (y:Sl) (m:List α):Prop:=∃ rows,Rows w y (Dat.sz α) rows∧Els BB u rows m∧m.length≤BB
theorem ReadB.src (h:ReadB BB u y l) (hs:Sub u w):Src u w y l:=let ⟨rows,h1,h2,h3⟩:=h;⟨rows,h1.sub hs,h2,h3⟩
theorem Own.src (h:Own u x l I) (hS:St u w L) [p:Pos I L R F]:Src u w x l:=let ⟨rows,h1,h2,h3⟩:=h;⟨rows,h1.rd hS.items,h2,h3⟩
theorem Src.n {m:List α} (h:Src u w y m):y.n=m.length:=let ⟨_,h1,h2,_⟩:=h;h1.len.trans h2.1
end
theorem Own.ofInts {u u':World} {x:Sl} {l:List Int} {I:Items} (h:Own u x l I):Own u' x l I:=let ⟨rows,h1,h2,h3⟩:=h;⟨rows,h1,⟨h2.1,h2.2⟩,h3⟩
theorem Src.ofInts {u w:World} {y:Sl} {m:List Int} (h:ReadB BB w y m):Src u w y m:=let ⟨rows,h1,h2,h3⟩:=h;⟨rows,h1,⟨h2.1,h2.2⟩,h3⟩
theorem setCellsW_blk {w:World} {g k t:Nat} {c:Array Value} {l:List Value} (h:w.heap[g]?=some (.cells c t (0,0))) (hl:k+l.length≤c.size):
  ∃ c',(setCellsW w ⟨g,0,none⟩ k l).heap[g]?=some (.cells c' t (0,0))∧c'.size=c.size∧(∀ j,c'[j]?=if k≤j∧j < k+l.length then l[j - k]? else c[j]?)∧
  (∀ b,b≠g→(setCellsW w ⟨g,0,none⟩ k l).heap[b]?=w.heap[b]?)∧
  ((setCellsW w ⟨g,0,none⟩ k l).heap.size=w.heap.size∧(setCellsW w ⟨g,0,none⟩ k l).os=w.os∧(setCellsW w ⟨g,0,none⟩ k l).tape=w.tape∧(setCellsW w ⟨g,0,none⟩ k l).output=w.output):=by
 obtain ⟨r1,r2,r3⟩:=setCellsW_row l k h
 refine ⟨_,r1,?_,fun j=>setRow_get l k c (.inr hl) j,r2,r3⟩
 have hsz:∀ (l:List (Value×Nat)) (c:Array Value),(l.foldl (fun cs p=>cs.setIfInBounds p.2 p.1) c).size=c.size:=by
  intro l
  induction l with
  | nil=>intro c;rfl
  | cons a r ih=>intro c;rw [List.foldl_cons,ih];simp
 exact hsz _ _
theorem canSet_blk {w:World} {g t:Nat} {c:Array Value} (h:w.heap[g]?=some (.cells c t (0,0))):∀ (l:List Value) (k:Nat),k+l.length≤c.size→CanSet w ⟨g,0,none⟩ k l
 | [],_,_=>trivial
 | [x],k,hk=>by
  refine ⟨⟨c[k]'(by simp at hk;omega),?_⟩,?_⟩
  ·rw [cell_blk h rfl];simp;
  ·rw [box_add];simp [World.frozen?,h]
 | x ::y ::r,k,hk=>by
  refine ⟨⟨c[k]'(by simp at hk;omega),?_⟩,?_,canSet_blk h (y ::r) (k+1) (by simp at hk ⊢;omega)⟩
  ·rw [cell_blk h rfl];simp
  ·rw [box_add];simp [World.frozen?,h]
theorem canSet_add (w:World) (p:Addr) (o:Nat):∀ (l:List Value) (k:Nat),CanSet w p (o+k) l→CanSet w (p.add o) k l
 | [],_,_=>trivial
 | [x],k,h=>by simp only [CanSet,addr_add_add] at h ⊢;exact h
 | x ::y ::r,k,h=>by
  simp only [CanSet,addr_add_add] at h ⊢
  exact ⟨h.1,h.2.1,canSet_add w p o (y ::r) (k+1) h.2.2⟩
def putR (r:List Value) (off:Nat) (vs:List Value):List Value:=r.take off++vs++r.drop (off+vs.length)
theorem putR_get (r:List Value) (off:Nat) (vs:List Value) (h:off+vs.length≤r.length) (j:Nat):(putR r off vs)[j]?=if off≤j∧j < off+vs.length then vs[j - off]? else r[j]?:=by
 unfold putR
 rw [List.append_assoc]
 by_cases h1:j < off
 ·rw [List.getElem?_append_left (by simp;omega),List.getElem?_take,if_pos h1,if_neg (by omega)]
 ·rw [List.getElem?_append_right (by simp;omega)]
  have e:(List.take off r).length=off:=by simp;omega
  rw [e]
  by_cases h2:j < off+vs.length
  ·rw [List.getElem?_append_left (by omega),if_pos (by omega)]
  ·rw [List.getElem?_append_right (by omega),List.getElem?_drop,if_neg (by omega)]
   congr 1;omega
theorem putR_length (r:List Value) (off:Nat) (vs:List Value) (h:off+vs.length≤r.length):(putR r off vs).length=r.length:=by
 simp [putR];omega
section
variable {α:Type} [Dat α] {u w w':World} {x y:Sl} {l:List α} {rows:List (List Value)} {sz:Nat} {L I R:Items} {F:Items→Items}
theorem St.updBlk {g:Nat} {o o':Obj} (h:St u w L) [p:Pos [(g,o)] L R F] (hne:o'≠absent) (ho:w'.heap[g]?=some o') (hk:∀ b,b≠g→w'.heap[b]?=w.heap[b]?) (hsz:w.heap.size≤w'.heap.size):St u w' (F [(g,o')]):=by
 refine h.upd (I:=[(g,o)]) (I':=[(g,o')]) (fun b o1 hb _ hm=>?_) ?_ (by simp) (fun b hb=>.inl (by simpa using hb)) hsz
 ·rw [hk b (by simpa using hm)];exact hb
 ·simpa [AtAll] using ⟨ho,hne⟩
theorem OSl.store (h:OSl sz x rows I) (hS:St u w L) [p:Pos I L R F] {i:Int} (h0:0≤i) {r:List Value} (hr:rows[i.toNat]?=some r) {off:Nat} {vals:List Value} (hv:off+vals.length≤sz):
  CanSet w (elA x i sz) off vals∧∃ I',OSl sz x (rows.set i.toNat (putR r off vals)) I'∧St u (setCellsW w (elA x i sz) off vals) (F I'):=by
 cases h with
 | nil=>simp at hr
 | blk g o n c cur e _ hn hc hm hs hrow=>
  have hA:=(hS.items (I:=[(g,.cells cur e (0,0))]) (g,.cells cur e (0,0)) (by simp)).1
  have hlt:i.toNat < rows.length:=by rcases Nat.lt_or_ge i.toNat rows.length with hl|hg;exact hl;rw [List.getElem?_eq_none hg] at hr;cases hr
  have hb:(i.toNat+1) * sz≤c * sz:=Nat.mul_le_mul_right _ (by omega)
  rw [Nat.add_mul] at hb
  have hrl:=(hrow _ _ hr).1
  rw [elA_blk]
  have ea:(⟨g,o+i.toNat * sz,none⟩:Addr)=(⟨g,0,none⟩:Addr).add (o+i.toNat * sz):=by rw [box_add];simp
  rw [ea,setCellsW_add]
  have hfit:o+i.toNat * sz+off+vals.length≤cur.size:=by omega
  obtain ⟨c',c1,c2,c3,c4,c5⟩:=setCellsW_blk (l:=vals) hA hfit
  refine ⟨canSet_add _ _ _ _ _ (canSet_blk hA _ _ (by omega)),[(g,.cells c' e (0,0))],.blk g o n c c' e _ (by rw [hn];simp) hc hm (by omega) ?_,hS.updBlk (o:=.cells cur e (0,0)) (by simp [absent]) c1 c4 (Nat.le_of_eq c5.1.symm)⟩
  intro k rk hk
  rw [List.getElem?_set] at hk
  by_cases ek:i.toNat=k
  ·subst ek
   rw [if_pos rfl,if_pos hlt] at hk
   simp only [Option.some.injEq] at hk
   subst hk
   refine ⟨by rw [putR_length _ _ _ (by omega)];exact hrl,fun j v hj=>?_⟩
   rw [putR_get _ _ _ (by omega)] at hj
   rw [c3]
   split at hj
   ·rw [if_pos (by omega),←hj];congr 1;omega
   ·rw [if_neg (by omega)];exact (hrow _ _ hr).2 j v hj
  ·rw [if_neg ek] at hk
   refine ⟨(hrow _ _ hk).1,fun j v hj=>?_⟩
   have hjl:j < sz:=by
    rcases Nat.lt_or_ge j rk.length with hl|hg
    ·rw [(hrow _ _ hk).1] at hl;exact hl
    ·rw [List.getElem?_eq_none hg] at hj;cases hj
   rw [c3,if_neg]
   ·exact (hrow _ _ hk).2 j v hj
   ·intro hh
    rcases Nat.lt_or_gt_of_ne ek with hlt2|hgt
    ·have:=Nat.mul_le_mul_right sz (show i.toNat+1≤k by omega);rw [Nat.add_mul] at this;omega
    ·have:=Nat.mul_le_mul_right sz (show k+1≤i.toNat by omega);rw [Nat.add_mul] at this;omega
theorem Els.set {i:Nat} {r:List Value} {a:α} (h:Els BB u rows l) (hc:Dat.cells BB u r a):Els BB u (rows.set i r) (l.set i a):=by
 refine ⟨by simp [h.1],fun k rk b hk hb=>?_⟩
 rw [List.getElem?_set] at hk hb
 by_cases e:i=k
 ·subst e
  rw [if_pos rfl] at hk hb
  split at hk
  ·split at hb
   ·simp only [Option.some.injEq] at hk hb;subst hk;subst hb;exact hc
   ·cases hb
  ·cases hk
 ·rw [if_neg e] at hk hb
  exact h.2 k rk b hk hb
theorem Own.store [Inhabited α] (h:Own u x l I) (hS:St u w L) [p:Pos I L R F] {i:Int} (h0:0≤i) (h1:i < l.length) {off:Nat} {vals:List Value} {K:World→Prop} (a:α)
  (hv:off+vals.length≤Dat.sz α) (hc:∀ r,Dat.cells BB u r (nth l i)→Dat.cells BB u (putR r off vals) a)
  (k:∀ w' I',Own u x (l.set i.toNat a) I'→St u w' (F I')→K w'):StoreAt w (elA x i (Dat.sz α)) off vals K:=by
 obtain ⟨rows,h2,h3,h4⟩:=h
 have hlt:i.toNat < rows.length:=by rw [h3.1];omega
 have hr:=List.getElem?_eq_getElem hlt
 obtain ⟨k1,I',k2,k3⟩:=h2.store hS h0 hr hv
 exact ⟨k1,k _ I' ⟨_,k2,h3.set (hc _ (h3.2 _ _ _ hr (nth_get h0 h1))),by simpa using h4⟩ k3⟩
class SlT (P:Program) (t:TypeId) (sz bytes:outParam Nat) (zc:outParam (List Value)):Prop where
 ex:∃ e i z,P.underlying t=some (.slice e)∧P.info? e=some i∧i.zero=some z∧i.size=sz∧i.bytes=bytes∧z.cells.toList=zc∧zc.length=sz∧0 < sz
def slView (P:Program) (t:TypeId):Option (Nat×Nat×List Value):=
 match P.underlying t with
 | some (.slice e)=>match P.info? e with
  | some i=>match i.zero with
   | some z=>some (i.size,i.bytes,z.cells.toList)
   | none=>none
  | none=>none
 | _=>none
theorem SlT.of {P:Program} {t:TypeId} {sz bytes:Nat} {zc:List Value} (h:slView P t=some (sz,bytes,zc)) (hl:zc.length=sz) (hp:0 < sz):SlT P t sz bytes zc:=by
 unfold slView at h
 split at h<;>first|(cases h;done)|skip
 split at h<;>first|(cases h;done)|skip
 split at h<;>first|(cases h;done)|skip
 simp only [Option.some.injEq,Prod.mk.injEq] at h
 exact ⟨_,_,_,by assumption,by assumption,by assumption,h.1,h.2.1,h.2.2,hl,hp⟩
theorem flat_length {sz:Nat}:∀ (rows:List (List Value)),(∀ r∈rows,r.length=sz)→rows.flatten.length=rows.length * sz
 | [],_=>by simp
 | r ::rest,h=>by simp [flat_length rest (fun q hq=>h q (List.mem_cons_of_mem _ hq)),h r List.mem_cons_self,Nat.add_mul];omega
theorem flat_get {sz:Nat}:∀ (rows:List (List Value)),(∀ r∈rows,r.length=sz)→∀ (i:Nat) (r:List Value),rows[i]?=some r→∀ (j:Nat) (v:Value),r[j]?=some v→rows.flatten[i * sz+j]?=some v
 | [],_,i,r,hi,_,_,_=>by simp at hi
 | q ::rest,h,0,r,hi,j,v,hj=>by
  simp only [List.getElem?_cons_zero,Option.some.injEq] at hi
  subst hi
  have:j < q.length:=by rcases Nat.lt_or_ge j q.length with hl|hg;exact hl;rw [List.getElem?_eq_none hg] at hj;cases hj
  rw [List.flatten_cons,Nat.zero_mul,Nat.zero_add,List.getElem?_append_left this];exact hj
 | q ::rest,h,i+1,r,hi,j,v,hj=>by
  have hq:=h q List.mem_cons_self
  rw [List.flatten_cons,List.getElem?_append_right (by rw [hq,Nat.add_mul];omega),hq]
  rw [show (i+1) * sz+j - sz=i * sz+j from by rw [Nat.add_mul];omega]
  exact flat_get rest (fun q hq=>h q (List.mem_cons_of_mem _ hq)) i r (by simpa using hi) j v hj
theorem flat_row {sz:Nat} (hsz:0 < sz) (rows:List (List Value)) (h:∀ r∈rows,r.length=sz) (k:Nat) (v:Value) (hk:rows.flatten[k]?=some v):∃ r,rows[k / sz]?=some r∧r[k % sz]?=some v:=by
 have hlt:k < rows.flatten.length:=by rcases Nat.lt_or_ge k rows.flatten.length with hl|hg;exact hl;rw [List.getElem?_eq_none hg] at hk;cases hk
 rw [flat_length rows h] at hlt
 have h1:k / sz < rows.length:=(Nat.div_lt_iff_lt_mul hsz).2 hlt
 have hr:=List.getElem?_eq_getElem h1
 have hl:=h _ (List.getElem_mem h1)
 have h2:k % sz < (rows[k / sz]).length:=by rw [hl];exact Nat.mod_lt _ hsz
 have hj:=List.getElem?_eq_getElem h2
 have:=flat_get rows h _ _ hr _ _ hj
 rw [Nat.div_mul_self_eq_mod_sub_self,Nat.sub_add_cancel (Nat.mod_le _ _)] at this
 rw [this] at hk
 exact ⟨_,hr,hj.trans hk⟩
theorem run_append_roomA {P:Program} {t ty e:TypeId} {i:TypeInfo} (ht:P.underlying t=some (.slice e)) (hi:P.info? e=some i) (w:World) (b:Addr) (n c m mc:Nat) (a:Addr) (news:List Value)
  (hl:news.length=m * i.size) (hnews:∀ j v,news[j]?=some v→w.cell? (a.add j)=some v) (h1:∀ v∈news,v.oneCell'=true) (hroom:n+m≤c)
  (h2:∀ j,j < news.length→(∃ x,w.cell? ((b.add (n * i.size)).add (0+j))=some x)∧w.frozen? ((b.add (n * i.size)).add (0+j))=false):
  (Builtin.append_ #[t,t] ty #[.slice (some b) n c,.slice (some a) m mc]).run P w=.ok (.slice (some b) (n+m) c) (setCellsW w (b.add (n * i.size)) 0 news):=by
 have hf:=run_firstCells_some (P:=P) w i.size m a m mc news hl hnews
 have hst:=run_storeCells (P:=P) (a:=b.add (n * i.size)) news 0 w h1 h2
 simp [Builtin.append_,run_underlying ht,run_size hi,Builtin.lenOf,hroom,hf,hst]
theorem Rows.flat {w:World} {y:Sl} {news:List (List Value)} {ad:Addr} (h:Rows w y sz news) (hlen:∀ r∈news,r.length=sz) (hsz:0 < sz) (ha:y.a=some ad):∀ j v,news.flatten[j]?=some v→w.cell? (ad.add j)=some v:=by
 intro j v hj
 obtain ⟨r,h1,h2⟩:=flat_row hsz news hlen j v hj
 have:=(h.2.2 _ _ h1).2 _ _ h2
 rw [elA,ha,Option.getD_some,addr_add_add,Int.toNat_natCast] at this
 rwa [Nat.div_mul_self_eq_mod_sub_self,Nat.sub_add_cancel (Nat.mod_le _ _)] at this
theorem OSl.append {P:Program} {t ty:TypeId} {bytes:Nat} {zc:List Value} [hT:SlT P t sz bytes zc] (h:OSl sz x rows I) (hS:St u w L) [p:Pos I L R F] {news:List (List Value)}
  (hy:Rows w y sz news) (hlen:∀ r∈news,r.length=sz) (h1:∀ r∈news,∀ v∈r,v.oneCell'=true) (hrl:∀ r∈rows,r.length=sz) (hb:(rows.length+news.length) * bytes≤140737488355328) (hb2:rows.length+news.length≤maxLen) {Q:Value→World→Prop}
  (k:∀ x' w' I',OSl sz x' (rows++news) I'→St u w' (F I')→Q x'.val w'):StepT P (Builtin.append_ #[t,t] ty #[x.val,y.val]) w Q:=by
 obtain ⟨e,i,z,ht,hi,hz,hsize,hby,hzc,hzl,hsz⟩:=hT.ex
 have hzs:z.cells.size=i.size:=by rw [←Array.length_toList,hzc,hzl,hsize]
 have hxn:=h.len
 have hyn:=hy.1
 have hnl:news.flatten.length=y.n * i.size:=by rw [flat_length news hlen,hyn,hsize]
 have hone:∀ v∈news.flatten,v.oneCell'=true:=by
  intro v hv
  obtain ⟨r,hr,hvr⟩:=List.mem_flatten.1 hv
  exact h1 r hr v hvr
 simp only [maxLen] at hb2
 have keep:∀ w0:World,Sub w w0→Q x.val w→news=[]→(Builtin.append_ #[t,t] ty #[x.val,y.val]).run P w0=.ok x.val w0→∃ r w' v',(Builtin.append_ #[t,t] ty #[x.val,y.val]).run P w0=.ok r w'∧Fr w w0 v' w'∧Q r v':=
  fun w0 hs hq _ hr=>⟨_,w0,w,hr,.refl hs,hq⟩
 
 have fresh:∀ (w0:World) (c:Nat) (cur:Array Value),Sub w w0→rows.length+news.length≤c→c≤maxLen→c * sz≤cur.size→(∀ (j:Nat) (v:Value),(rows++news).flatten[j]?=some v→cur[j]?=some v)→
   ∃ v',Fr w w0 v' (w0.drew.alloc (.cells cur e))∧Q (.slice (some ⟨w0.heap.size,0,none⟩) (rows.length+news.length) c) v':=by
  intro w0 c cur hs hc hm hcs hcur
  have hs':Sub w w0.drew:=⟨hs.size,hs.at_⟩
  obtain ⟨v',fr,hq⟩:=newAt_step (o:=.cells cur e) (Q:=fun a w'=>∃ g,a=⟨g,0,none⟩∧Q (.slice (some ⟨g,0,none⟩) (rows.length+news.length) c) w') hs' (fun g w' hg hsub hh=>by
   refine ⟨g,rfl,k ⟨some ⟨g,0,none⟩,rows.length+news.length,c⟩ w' _ (.blk g 0 _ c cur e _ (by simp) hc hm (by omega) ?_) (hS.upd (I:=I) (I':=[(g,.cells cur e (0,0))]) (fun b o hb hne _=>hsub.at_ b o hb hne) (by simpa [AtAll,absent] using hh) (by simp) (fun b hb=>.inr (by simp only [List.map_cons,List.map_nil,List.mem_singleton] at hb;subst hb;exact out_of_le hg)) hsub.size)⟩
   intro q r hq
   have hall:∀ r∈rows++news,r.length=sz:=fun r hr=>(List.mem_append.1 hr).elim (hrl r) (hlen r)
   exact ⟨hall r (List.mem_of_getElem? hq),fun j v hj=>hcur _ v (by rw [Nat.zero_add];exact flat_get _ hall q r hq j v hj)⟩)
  obtain ⟨g,hg,hq⟩:=hq
  cases hg
  exact ⟨v',⟨fr.sub,fr.size,fr.os,fr.tape,fr.output,fr.out⟩,hq⟩
 have zcs:∀ m,(Builtin.zeroCells z.cells m).size=m * i.size:=fun m=>by rw [size_zeroCells,hzs]
 intro w0 hs
 cases hya:y.a with
 | none=>
  have hn0:news=[]:=by
   cases news with
   | nil=>rfl
   | cons r rest=>have:=(hy.2.2 0 r rfl).1;rw [hya] at this;cases this
  subst hn0
  have hm:y.n=0:=by rw [hyn];rfl
  have hq:Q x.val w:=k x w I (by simpa using h) (hS.upd (I':=I) (fun b o hb _ _=>hb) hS.items hS.nodupI (fun b hb=>.inl hb) (Nat.le_refl _))
  refine keep w0 hs hq rfl ?_
  cases h with
  | nil=>simp [Sl.val,hya,hm,Builtin.append_,run_underlying ht,run_size hi,Builtin.lenOf,Builtin.firstCells]
  | blk g o n c cur e' _ hn hc hm' hs' hr=>simp [Sl.val,hya,hm,Builtin.append_,run_underlying ht,run_size hi,Builtin.lenOf,Builtin.firstCells,hc,storeCells]
 | some ad=>
  have hcell:∀ j v,news.flatten[j]?=some v→w0.cell? (ad.add j)=some v:=fun j v hj=>cell_sub hs (hy.flat hlen hsz hya j v hj)
  have hyv:y.val=.slice (some ad) y.n y.c:=by simp [Sl.val,hya]
  rw [hyv]
  cases h with
  | nil=>
   simp only [List.length_nil,Nat.zero_add] at hb hb2 fresh
   by_cases hm:y.n=0
   ·have hn0:news=[]:=List.eq_nil_of_length_eq_zero (by omega)
    subst hn0
    have hq:Q (Sl.mk none 0 0).val w:=k ⟨none,0,0⟩ w [] .nil (hS.upd (I':=[]) (I:=[]) (fun b o hb _ _=>hb) (by simp [AtAll]) (by simp) (fun b hb=>.inl hb) (Nat.le_refl _))
    rw [←hyv]
    refine keep w0 hs hq rfl ?_
    rw [hyv]
    simp [Sl.val,hm,Builtin.append_,run_underlying ht,run_size hi,Builtin.lenOf,Builtin.firstCells,loadCells,loadCellsFrom]
   ·have hr:=run_append_nil (P:=P) w0 t ty e i z ht hi hz ad y.n y.c news.flatten hnl hcell (by omega) (by omega) (by rw [hby,hyn];omega)
    have hge:=grownCap_ge w0 y.n 0 e
    obtain ⟨v',fr,hq⟩:=fresh w0 (grownCap w0 y.n 0 e) (news.flatten.toArray++Builtin.zeroCells z.cells (grownCap w0 y.n 0 e - y.n)) hs (by omega) (grownCap_le_maxLen w0 y.n 0 e (by simp only [maxLen];omega)) (by
     rw [Array.size_append,zcs,List.size_toArray,hnl,←Nat.add_mul,hsize]
     exact Nat.mul_le_mul_right _ (by omega)) (by
     intro j v hj
     simp only [List.nil_append] at hj
     rw [Array.getElem?_append_left]
     ·simpa using hj
     ·rcases Nat.lt_or_ge j news.flatten.length with hl|hg
      ·simpa using hl
      ·rw [List.getElem?_eq_none hg] at hj;cases hj)
    refine ⟨_,_,v',hr,fr,?_⟩
    rw [hyn];rw [←hyn] at hq ⊢;exact hq
  | blk g o n c cur e' _ hn hc hm hcs hrow=>
   have hA:=(hS.items (I:=[(g,.cells cur e' (0,0))]) (g,.cells cur e' (0,0)) (by simp)).1
   have holds:∀ j v,rows.flatten[j]?=some v→w0.cell? ((⟨g,o,none⟩:Addr).add j)=some v:=by
    intro j v hj
    obtain ⟨r,q1,q2⟩:=flat_row hsz rows hrl j v hj
    rw [cell_blk (hs.at_ _ _ hA (by simp [absent])) rfl]
    have:=(hrow _ _ q1).2 _ _ q2
    rwa [Nat.add_assoc,Nat.div_mul_self_eq_mod_sub_self,Nat.sub_add_cancel (Nat.mod_le _ _)] at this
   by_cases hroom:n+y.n≤c
   ·have hfit:n * sz+news.flatten.length≤c * sz:=by rw [hnl,hsize,←Nat.add_mul];exact Nat.mul_le_mul_right _ hroom
    have ea:(⟨g,o,none⟩:Addr).add (n * i.size)=(⟨g,0,none⟩:Addr).add (o+n * sz):=by rw [box_add,box_add,hsize];simp
    have hcan:CanSet w ((⟨g,o,none⟩:Addr).add (n * i.size)) 0 news.flatten:=by rw [ea];exact canSet_add _ _ _ _ _ (canSet_blk hA _ _ (by omega))
    have hget:=canSet_get hcan
    have hr:=run_append_roomA (P:=P) (ty:=ty) ht hi w0 ⟨g,o,none⟩ n c y.n y.c ad news.flatten hnl hcell hone hroom (fun j hj=>⟨let ⟨q,hq⟩:=(hget j hj).1;⟨q,cell_sub hs hq⟩,let ⟨q,hq⟩:=(hget j hj).1;frozen_sub hs hq (hget j hj).2⟩)
    refine ⟨_,_,_,hr,setCellsW_fr _ _ hs hcan,?_⟩
    rw [ea,setCellsW_add,Nat.add_zero]
    obtain ⟨c',c1,c2,c3,c4,c5⟩:=setCellsW_blk (k:=o+n * sz) (l:=news.flatten) hA (by omega)
    refine k ⟨some ⟨g,o,none⟩,n+y.n,c⟩ _ _ (.blk g o _ c c' e' _ (by simp [hn,hyn]) hroom hm (by omega) ?_) (hS.updBlk (o:=.cells cur e' (0,0)) (by simp [absent]) c1 c4 (Nat.le_of_eq c5.1.symm))
    intro q r hq
    rcases Nat.lt_or_ge q rows.length with hlt|hge
    ·rw [List.getElem?_append_left hlt] at hq
     refine ⟨(hrow q r hq).1,fun j v hj=>?_⟩
     have hjl:j < sz:=by
      rcases Nat.lt_or_ge j r.length with hl|hg
      ·rw [(hrow q r hq).1] at hl;exact hl
      ·rw [List.getElem?_eq_none hg] at hj;cases hj
     have:=Nat.mul_le_mul_right sz (show q+1≤n by omega);rw [Nat.add_mul] at this
     rw [c3,if_neg (by omega)]
     exact (hrow q r hq).2 j v hj
    ·rw [List.getElem?_append_right hge] at hq
     have hrl2:=hlen r (List.mem_of_getElem? hq)
     refine ⟨hrl2,fun j v hj=>?_⟩
     have hf:=flat_get news hlen _ _ hq j v hj
     have hfl:(q - rows.length) * sz+j < news.flatten.length:=by rcases Nat.lt_or_ge ((q - rows.length) * sz+j) news.flatten.length with hl|hg;exact hl;rw [List.getElem?_eq_none hg] at hf;cases hf
     have e1:q * sz=n * sz+(q - rows.length) * sz:=by rw [←Nat.add_mul,hn];congr 1;omega
     rw [c3,if_pos (by omega),←hf]
     congr 1;omega
   ·have hr:=run_append_grow (P:=P) w0 t ty e i z ht hi hz ⟨g,o,none⟩ n c rows.flatten (by rw [flat_length rows hrl,hn,hsize]) holds ad y.n y.c news.flatten hnl hcell (by omega) (by omega) (growslice_fits (by omega) (by rw [hby,hn,hyn];omega))
    have hge:=grownCap_ge w0 (n+y.n) c e
    obtain ⟨v',fr,hq⟩:=fresh w0 (grownCap w0 (n+y.n) c e) (rows.flatten.toArray++news.flatten.toArray++Builtin.zeroCells z.cells (grownCap w0 (n+y.n) c e - (n+y.n))) hs (by omega) (grownCap_le_maxLen w0 (n+y.n) c e (by simp only [maxLen];omega)) (by
     rw [Array.size_append,Array.size_append,zcs,List.size_toArray,List.size_toArray,hnl,flat_length rows hrl,←hn,←hsize,←Nat.add_mul,←Nat.add_mul]
     exact Nat.mul_le_mul_right _ (by omega)) (by
     intro j v hj
     rw [Array.getElem?_append_left]
     ·rw [List.flatten_append] at hj
      simpa using hj
     ·rcases Nat.lt_or_ge j (rows++news).flatten.length with hl|hg
      ·simpa using hl
      ·rw [List.getElem?_eq_none hg] at hj;cases hj)
    refine ⟨_,_,v',hr,fr,?_⟩
    rw [hn,hyn];rw [←hn,←hyn] at hq ⊢;exact hq
theorem Own.append {P:Program} {t ty:TypeId} {bytes:Nat} {zc:List Value} [hT:SlT P t (Dat.sz α) bytes zc] {m:List α} (h:Own u x l I) (hS:St u w L) [p:Pos I L R F]
  (hy:Src u w y m) (hb:l.length+m.length≤1099511627776) (hby:bytes≤128) {Q:Value→World→Prop}
  (k:∀ x' w' I',Own u x' (l++m) I'→St u w' (F I')→Q x'.val w'):StepT P (Builtin.append_ #[t,t] ty #[x.val,y.val]) w Q:=by
 obtain ⟨rows,h1,h2,h3⟩:=h
 obtain ⟨news,q1,q2,q3⟩:=hy
 have lens:∀ {rows:List (List Value)} {l:List α},Els BB u rows l→∀ r∈rows,∃ a:α,Dat.cells BB u r a:=by
  intro rows l hE r hr
  obtain ⟨i,hi,rfl⟩:=List.getElem_of_mem hr
  exact ⟨l[i]'(by rw [←hE.1];exact hi),hE.2 i _ _ (List.getElem?_eq_getElem hi) (List.getElem?_eq_getElem _)⟩
 have hle:(rows.length+news.length) * bytes≤BB * 128:=Nat.mul_le_mul (by rw [h2.1,q2.1];exact hb) hby
 refine h1.append hS q1 (fun r hr=>let ⟨a,ha⟩:=lens q2 r hr;Dat.len (α:=α) ha) (fun r hr=>let ⟨a,ha⟩:=lens q2 r hr;Dat.one (α:=α) ha) (fun r hr=>let ⟨a,ha⟩:=lens h2 r hr;Dat.len (α:=α) ha) hle (by have hBB:BB=1099511627776:=rfl;rw [h2.1,q2.1];simp only [maxLen];omega) fun x' w' I' k1 k2=>k x' w' I' ⟨_,k1,⟨by simp [h2.1,q2.1],fun i r a hr ha=>?_⟩,by simpa using hb⟩ k2
 rcases Nat.lt_or_ge i rows.length with hlt|hge
 ·rw [List.getElem?_append_left hlt] at hr
  rw [List.getElem?_append_left (by rw [←h2.1];exact hlt)] at ha
  exact h2.2 i r a hr ha
 ·rw [List.getElem?_append_right hge] at hr
  rw [List.getElem?_append_right (by rw [←h2.1];exact hge),←h2.1] at ha
  exact q2.2 _ r a hr ha
end
def VOf {α:Type} [Dat α] (u:World) (v:Value) (a:α):Prop:=v.cells.toList.length=Dat.sz α∧Dat.cells BB u v.cells.toList a
inductive VsOf {α:Type} [Dat α] (u:World):List Value→List α→Prop where
 | nil:VsOf u [] []
 | cons {v vs} {a:α} {l}:VOf u v a→VsOf u vs l→VsOf u (v ::vs) (a ::l)
theorem VOf.int {u:World} {n:Int} (h:InI n):VOf u (.int .i64 n) n:=⟨rfl,rfl,h⟩
theorem VOf.bool {u:World} {q:Bool}:VOf u (.bool q) q:=⟨rfl,rfl⟩
theorem VOf.u8 {u:World} {b:UInt8}:VOf u (.int .u8 (b.toNat:Int)) b:=⟨rfl,rfl⟩
section
variable {α:Type} [Dat α] {u w w':World} {x y:Sl} {l:List α} {sz:Nat} {L I R:Items} {F:Items→Items}
theorem VsOf.len {vs:List Value} (h:VsOf u vs l):vs.length=l.length:=by induction h with|nil=>rfl|cons _ _ ih=>simp [ih]
theorem VsOf.els {vs:List Value} (h:VsOf u vs l):Els BB u (vs.map fun v=>v.cells.toList) l:=by
 induction h with
 | nil=>exact ⟨rfl,fun i r a hr=>by simp at hr⟩
 | cons h1 _ ih=>
  refine ⟨by simpa using ih.1,fun i r a hr ha=>?_⟩
  cases i with
  | zero=>simp at hr ha;subst hr;subst ha;exact h1.2
  | succ i=>exact ih.2 i r a (by simpa using hr) (by simpa using ha)
theorem VsOf.lens {vs:List Value} (h:VsOf u vs l):∀ v∈vs,v.cells.size=Dat.sz α:=by
 induction h with
 | nil=>intro v hv;cases hv
 | cons h1 _ ih=>intro v hv;rcases List.mem_cons.1 hv with rfl|hv;simpa using h1.1;exact ih v hv
theorem foldl_set_get (cs:List Value) (off:Nat) (c:Array Value) (h:off+cs.length≤c.size):(cs.zipIdx.foldl (fun cs (p:Value×Nat)=>cs.setIfInBounds (off+p.2) p.1) c).size=c.size∧
  ∀ j:Nat,(cs.zipIdx.foldl (fun cs (p:Value×Nat)=>cs.setIfInBounds (off+p.2) p.1) c)[j]?=if off≤j∧j < off+cs.length then cs[j - off]? else c[j]?:=by
 have e:cs.zipIdx.foldl (fun cs (p:Value×Nat)=>cs.setIfInBounds (off+p.2) p.1) c=(cs.zipIdx off).foldl (fun cs (p:Value×Nat)=>cs.setIfInBounds p.2 p.1) c:=by
  rw [List.zipIdx_eq_map_add (i:=off),List.foldl_map]
 rw [e]
 refine ⟨?_,fun j=>setRow_get cs off c (.inr h) j⟩
 have hsz:∀ (l:List (Value×Nat)) (c:Array Value),(l.foldl (fun cs p=>cs.setIfInBounds p.2 p.1) c).size=c.size:=by
  intro l
  induction l with
  | nil=>intro c;rfl
  | cons a r ih=>intro c;rw [List.foldl_cons,ih];simp
 exact hsz _ _
theorem fill_all (sz:Nat):∀ (vs:List Value) (k:Nat) (c:Array Value),(∀ v∈vs,v.cells.size=sz)→(k+vs.length) * sz≤c.size→
  ∃ c',Instr.fill (fun k=>some (k * sz,sz)) c ((vs.zipIdx k).map fun p=>(p.2,p.1))=some c'∧c'.size=c.size∧
   (∀ (i:Nat) (v:Value),vs[i]?=some v→∀ (j:Nat) (q:Value),v.cells[j]?=some q→c'[(k+i) * sz+j]?=some q)∧∀ j,j < k * sz→c'[j]?=c[j]?
 | [],k,c,_,_=>⟨c,rfl,rfl,fun i v h=>by simp at h,fun _ _=>rfl⟩
 | v ::vs,k,c,h,hc=>by
  have hv:=h v List.mem_cons_self
  have hsz:k * sz+sz≤c.size:=by have:=Nat.mul_le_mul_right sz (show k+1≤k+(v ::vs).length by simp);rw [Nat.add_mul] at this;omega
  obtain ⟨e1,e2⟩:=foldl_set_get v.cells.toList (k * sz) c (by simpa [hv] using hsz)
  obtain ⟨c',f1,f2,f3,f4⟩:=fill_all sz vs (k+1) _ (fun q hq=>h q (List.mem_cons_of_mem _ hq)) (show _≤(v.cells.toList.zipIdx.foldl (fun cs (p:Value×Nat)=>cs.setIfInBounds (k * sz+p.2) p.1) c).size by rw [e1];simpa [Nat.add_assoc,Nat.add_comm 1] using hc)
  have hz:v.cells.zipIdx.foldl (fun cs (p:Value×Nat)=>cs.setIfInBounds (k * sz+p.2) p.1) c=v.cells.toList.zipIdx.foldl (fun cs (p:Value×Nat)=>cs.setIfInBounds (k * sz+p.2) p.1) c:=by
   rw [←Array.foldl_toList,Array.toList_zipIdx]
  refine ⟨c',?_,f2.trans e1,fun i q hq j z hz=>?_,fun j hj=>?_⟩
  ·simp only [List.zipIdx_cons,List.map_cons,Instr.fill]
   rw [if_neg (by simp [hv];omega)]
   have hz':v.cells.zipIdx.foldl (fun cs (x:Value×Nat)=>cs.setIfInBounds (k * sz+x.snd) x.fst) c=_:=hz
   rw [show (Array.foldl (fun cs x=>match x with|(c,j)=>cs.setIfInBounds (k * sz+j) c) c v.cells.zipIdx)=v.cells.toList.zipIdx.foldl (fun cs (p:Value×Nat)=>cs.setIfInBounds (k * sz+p.2) p.1) c from hz]
   exact f1
  ·cases i with
   | zero=>
    simp at hq;subst hq
    have hj:j < sz:=by rcases Nat.lt_or_ge j v.cells.size with hl|hg;rw [hv] at hl;exact hl;rw [Array.getElem?_eq_none hg] at hz;cases hz
    rw [Nat.add_zero,f4 _ (by rw [Nat.add_mul];omega),e2,if_pos (by simp [hv];omega)]
    rw [show k * sz+j - k * sz=j from by omega];simpa using hz
   | succ i=>
    rw [show k+(i+1)=k+1+i from by omega]
    exact f3 i q (by simpa using hq) j z hz
  ·rw [f4 j (by rw [Nat.add_mul];omega),e2,if_neg (by omega)]
theorem St.buildR {P:Program} {t:TypeId} {sz bytes:Nat} {zc:List Value} [hT:SlT P t sz bytes zc] {n:Nat} {ps:Array (Nat×Value)} {Q:Value→World→Prop} (hS:St u w L)
  (hv:∀ v∈ps.toList.map (·.2),v.cells.size=sz) (hi:ps.toList.map (·.1)=List.range n) (hsz:n * sz≤16777216)
  (k:∀ x w' I,OSl sz x ((ps.toList.map (·.2)).map fun v=>v.cells.toList) I→St u w' (I++L)→Sub w w'→x.n=n→Q x.val w'):StepT P (Instr.buildSlice t n ps) w Q:=by
 obtain ⟨e,i,z,ht,hi2,hz,hsize,hby,hzc,hzl,hpos⟩:=hT.ex
 have hzs:z.cells.size=i.size:=by rw [←Array.length_toList,hzc,hzl,hsize]
 have hn:(ps.toList.map (·.2)).length=n:=by rw [List.length_map];have:=congrArg List.length hi;simpa using this
 have hps:ps.toList=(((ps.toList.map (·.2)).zipIdx 0).map fun p=>(p.2,p.1)):=by
  apply List.ext_getElem?
  intro j
  simp only [List.getElem?_map,List.getElem?_zipIdx,Nat.zero_add,Option.map_map]
  have h1:=congrArg (fun l=>l[j]?) hi
  simp only [List.getElem?_map,List.getElem?_range] at h1
  cases hj:ps.toList[j]? with
  | none=>simp
  | some p=>
   rw [hj] at h1
   have hlt:j < n:=by
    have:=congrArg List.length hi
    simp at this
    have:=(List.getElem?_eq_some_iff.1 hj).1
    simp at this
    omega
   rw [List.getElem?_eq_getElem (by simpa using hlt)] at h1
   simp at h1
   simp [Function.comp,←h1]
 obtain ⟨c',f1,f2,f3,_⟩:=fill_all sz (ps.toList.map (·.2)) 0 ((Array.range (n * i.size)).map (z.cells[· % z.cells.size]!)) hv (by rw [Nat.zero_add,hn];simp [hsize])
 have hBB:BB=1099511627776:=rfl
 have hn24:n≤16777216:=by have:=Nat.mul_le_mul_left n hpos;omega
 refine stepT_build ht hi2 hz (cells:=c') (by rw [hsize];exact hsz) (by rw [hsize] at f1 ⊢;rw [hps];exact f1) fun g w' hg hs ho=>?_
 refine k _ w' _ (.blk g 0 n n c' e _ (by rw [List.length_map,hn]) (Nat.le_refl _) (by simp only [maxLen];omega) (by rw [f2];simp [hsize]) ?_) (hS.new hg hs ho (by simp [absent])) hs rfl
 intro q r hr
 rw [List.getElem?_map] at hr
 cases hq:(ps.toList.map (·.2))[q]? with
 | none=>rw [hq] at hr;cases hr
 | some v=>
  rw [hq] at hr
  simp at hr
  subst hr
  refine ⟨by simpa using hv v (List.mem_of_getElem? hq),fun j z hz=>?_⟩
  have:=f3 q v hq j z (by simpa using hz)
  simpa using this
theorem St.build {P:Program} {t:TypeId} {bytes:Nat} {zc:List Value} [hT:SlT P t (Dat.sz α) bytes zc] {n:Nat} {ps:Array (Nat×Value)} {Q:Value→World→Prop} (hS:St u w L)
  (hv:VsOf u (ps.toList.map (·.2)) l) (hi:ps.toList.map (·.1)=List.range n) (hsz:n * Dat.sz α≤16777216)
  (k:∀ x w' I,Own u x l I→St u w' (I++L)→Sub w w'→Q x.val w'):StepT P (Instr.buildSlice t n ps) w Q:=by
 have hn:l.length=n:=by rw [←hv.len,List.length_map];have:=congrArg List.length hi;simpa using this
 obtain ⟨_,_,_,_,_,_,_,_,_,_,hpos⟩:=hT.ex
 have hn24:n≤16777216:=by have:=Nat.mul_le_mul_left n hpos;omega
 have hBB:BB=1099511627776:=rfl
 exact St.buildR (hT:=hT) hS hv.lens hi hsz fun x w' I h1 h2 h3 _=>k x w' I ⟨_,h1,hv.els,by omega⟩ h2 h3
theorem Own.cut (h:Own u x l I) {lo hi:Int} (h0:0≤lo) (h1:lo≤hi) (h2:hi≤l.length):Own u (x.cut lo hi (Dat.sz α)) ((l.take hi.toNat).drop lo.toNat) I:=by
 have hl:=h.le
 obtain ⟨rows,k1,k2,k3⟩:=h
 refine ⟨(rows.take hi.toNat).drop lo.toNat,?_,⟨by simp [k2.1],fun i r a hr ha=>?_⟩,by simp;omega⟩
 ·cases k1 with
  | nil=>
   have e1:=k2.1
   simp only [List.length_nil] at e1
   have:hi=0:=by omega
   have:lo=0:=by omega
   subst hi;subst lo
   exact .nil
  | blk g o n c cur e _ hn hc hm hs hr=>
   have hle:hi≤n:=by rw [hn,k2.1];exact h2
   by_cases hcl:c=lo.toNat
   ·have e:(Sl.cut ⟨some ⟨g,o,none⟩,n,c⟩ lo hi (Dat.sz α))=⟨some ⟨g,o,none⟩,hi.toNat - lo.toNat,c - lo.toNat⟩:=by simp [Sl.cut,hcl]
    rw [e]
    refine .blk g o _ _ cur _ _ (by simp;omega) (by omega) (by omega) (by rw [show c - lo.toNat=0 from by omega];omega) fun i r hi'=>?_
    exfalso
    rw [List.getElem?_eq_none (by simp;omega)] at hi'
    cases hi'
   ·have e:(Sl.cut ⟨some ⟨g,o,none⟩,n,c⟩ lo hi (Dat.sz α))=⟨some ⟨g,o+lo.toNat * Dat.sz α,none⟩,hi.toNat - lo.toNat,c - lo.toNat⟩:=by simp [Sl.cut,hcl,box_add]
    rw [e]
    have hmul:lo.toNat * Dat.sz α+(c - lo.toNat) * Dat.sz α=c * Dat.sz α:=by rw [←Nat.add_mul];congr 1;omega
    refine .blk g _ _ _ cur _ _ (by simp;omega) (by omega) (by omega) (by omega) fun i r hi'=>?_
    rw [List.getElem?_drop,List.getElem?_take] at hi'
    split at hi'
    ·obtain ⟨q1,q2⟩:=hr _ _ hi'
     refine ⟨q1,fun j v hj=>?_⟩
     rw [←q2 j v hj,Nat.add_mul]
     congr 1;omega
    ·cases hi'
 ·rw [List.getElem?_drop,List.getElem?_take] at hr ha
  split at hr
  ·rename_i hlt
   rw [if_pos hlt] at ha
   exact k2.2 _ r a hr ha
  ·cases hr
theorem ReadB.cut {B:Nat} (h:ReadB B w x l) {lo hi:Int} (h0:0≤lo) (h1:lo≤hi) (h2:hi≤l.length):ReadB B w (x.cut lo hi (Dat.sz α)) ((l.take hi.toNat).drop lo.toNat):=by
 obtain ⟨rows,k1,k2,k3⟩:=h
 refine ⟨(rows.take hi.toNat).drop lo.toNat,⟨?_,?_,fun i r hr=>?_⟩,⟨by simp [k2.1],fun i r a hr ha=>?_⟩,by simp;omega⟩
 ·simp [Sl.cut];have:=k2.1;omega
 ·have:=k1.1;have:=k1.2.1;have:=k2.1;simp only [Sl.cut];omega
 ·rw [List.getElem?_drop,List.getElem?_take] at hr
  split at hr
  ·rename_i hlt
   obtain ⟨q1,q2⟩:=k1.2.2 _ _ hr
   have hc:x.c≠lo.toNat:=by
    have:=k1.1;have:=k1.2.1;have:=k2.1
    have:lo.toNat+i < rows.length:=by rcases Nat.lt_or_ge (lo.toNat+i) rows.length with h|h;exact h;rw [List.getElem?_eq_none h] at hr;cases hr
    omega
   obtain ⟨ad,had⟩:=Option.isSome_iff_exists.1 q1
   refine ⟨by simp [Sl.cut,hc,had],fun j v hj=>?_⟩
   rw [←q2 j v hj]
   simp only [elA,Sl.cut,hc,if_false,had,Option.map_some,Option.getD_some,addr_add_add,Int.toNat_natCast]
   congr 2
   rw [Nat.add_mul]
  ·cases hr
 ·rw [List.getElem?_drop,List.getElem?_take] at hr ha
  split at hr
  ·rename_i hlt
   rw [if_pos hlt] at ha
   exact k2.2 _ r a hr ha
  ·cases hr
end
def Cel (a:Addr) (vals:List Value) (I:Items):Prop:=∃ g e,a=⟨g,0,none⟩∧I=[(g,.cells vals.toArray e (0,0))]
section
variable {u w w':World} {a:Addr} {vals:List Value} {L I R:Items} {F:Items→Items}
theorem Cel.load (h:Cel a vals I) (hS:St u w L) [p:Pos I L R F] {k:Nat} {v:Value} (hv:vals[k]?=some v):w.cell? (a.add k)=some v:=by
 obtain ⟨g,e,rfl,rfl⟩:=h
 rw [cell_blk (hS.items (I:=[(g,.cells vals.toArray e (0,0))]) _ (List.mem_singleton.2 rfl)).1 rfl]
 simpa using hv
theorem Cel.store (h:Cel a vals I) (hS:St u w L) [p:Pos I L R F] {off:Nat} {vs:List Value} {K:World→Prop} (hv:off+vs.length≤vals.length)
  (k:∀ w' I',Cel a (putR vals off vs) I'→St u w' (F I')→K w'):StoreAt w a off vs K:=by
 obtain ⟨g,e,rfl,rfl⟩:=h
 have hA:=(hS.items (I:=[(g,.cells vals.toArray e (0,0))]) _ (List.mem_singleton.2 rfl)).1
 obtain ⟨c',c1,c2,c3,c4,c5⟩:=setCellsW_blk (k:=off) (l:=vs) hA (by simpa using hv)
 have ec:c'=(putR vals off vs).toArray:=by
  apply Array.ext_getElem?
  intro j
  rw [c3]
  simp only [List.getElem?_toArray]
  rw [putR_get _ _ _ hv]
 subst ec
 exact ⟨canSet_blk hA _ _ (by simpa using hv),k _ _ ⟨g,e,rfl,rfl⟩ (hS.updBlk (o:=.cells vals.toArray e (0,0)) (by simp [absent]) c1 c4 (Nat.le_of_eq c5.1.symm))⟩
theorem St.box (hS:St u w L) {t:TypeId} {Q:Addr→World→Prop} (k:∀ a w' I,Cel a vals I→St u w' (I++L)→Sub w w'→Q a w'):NewAt w (.cells vals.toArray t (0,0)) Q:=by
 intro g w' hg hs ho
 exact k ⟨g,0,none⟩ w' _ ⟨g,t,rfl,rfl⟩ (hS.new hg hs ho (by simp [absent])) hs
end
theorem bls:(∀ (p:Prop) [Decidable p],(decide p=true)=p)∧(∀ (p:Prop) [Decidable p],decide p=false↔¬ p)∧(∀ a b:Bool,((a && b)=true)=(a=true∧b=true))∧(∀ a b:Bool,(a && b)=false↔a=false∨b=false)∧
  (∀ a b:Bool,((a || b)=true)=(a=true∨b=true))∧(∀ a b:Bool,(a || b)=false↔a=false∧b=false)∧(∀ b:Bool,((!b)=true)=(b=false))∧(∀ b:Bool,((!b)=false)=(b=true))∧(!true)=false∧(!false)=true∧
  ((false=true)=False)∧((true=false)=False)∧(∀ a b:Int,¬ a < b↔b≤a)∧(∀ a b:Int,¬ a≤b↔b < a)∧(∀ a b:Int,a≥b↔b≤a)∧(∀ a b:Int,a > b↔b < a)∧(∀ a b:Nat,a≥b↔b≤a)∧(∀ a b:Nat,a > b↔b < a)∧
  (∀ a b:Bool,(!a)=b↔a=!b)∧(∀ b:Bool,(true || b)=true)∧(∀ b:Bool,(b || true)=true)∧(∀ b:Bool,(false || b)=b)∧(∀ b:Bool,(b || false)=b)∧(∀ b:Bool,(true && b)=b)∧(∀ b:Bool,(b && true)=b)∧
  (∀ p:Prop,(False∨p)=p)∧(∀ p:Prop,(p∨False)=p)∧(∀ p:Prop,(True∧p)=p)∧(∀ p:Prop,(p∧True)=p)∧(∀ (p:Prop) [Decidable p],¬ ¬ p↔p):=
 ⟨fun p _=>decide_eq_true_eq,fun p _=>decide_eq_false_iff_not,Bool.and_eq_true,fun a b=>Bool.and_eq_false_iff,Bool.or_eq_true,fun a b=>Bool.or_eq_false_iff,fun b=>Bool.not_eq_true' b,fun b=>Bool.not_eq_false' b,rfl,rfl,
  Bool.false_eq_true,Bool.true_eq_false,fun a b=>Int.not_lt,fun a b=>Int.not_le,fun a b=>Iff.rfl,fun a b=>Iff.rfl,fun a b=>Iff.rfl,fun a b=>Iff.rfl,
  fun a b=>Bool.not_eq_eq_eq_not,Bool.true_or,Bool.or_true,Bool.false_or,Bool.or_false,Bool.true_and,Bool.and_true,false_or,or_false,true_and,and_true,fun p _=>Decidable.not_not⟩
theorem go_wr {n:Int} {K:Int→Prop} (h0:-9223372036854775808≤n) (h1:n≤9223372036854775807) (k:K n):∃ r,Wr .i64 n r∧K r:=⟨n,inK_i64 h0 h1,k⟩
theorem go_wrg {C:Prop} {n:Int} {K:Int→Prop} (h0:C→-9223372036854775808≤n∧n≤9223372036854775807) (k:K n):∃ r,(C→Wr .i64 n r)∧K r:=⟨n,fun h=>inK_i64 (h0 h).1 (h0 h).2,k⟩
theorem go_quo {n m:Int} {K:Int→Prop} (hm:m≠0) (h0:-9223372036854775808≤Int.tdiv n m) (h1:Int.tdiv n m≤9223372036854775807) (k:K (Int.tdiv n m)):∃ r,(m≠0∧Wr .i64 (Int.tdiv n m) r)∧K r:=⟨_,⟨hm,inK_i64 h0 h1⟩,k⟩
theorem go_wrap {n:Int} {K:Int→Prop} (k:∀ r,IntKind.wrap .i64 n=r→K r):∃ r,Wr .i64 n r∧K r:=⟨_,rfl,k _ rfl⟩
theorem wrap_i64 {n:Int} (h0:-9223372036854775808≤n) (h1:n≤9223372036854775807):IntKind.wrap .i64 n=n:=inK_i64 h0 h1
section
variable {B:Nat} {u w:World} {x:Sl} {L I R:Items} {F:Items→Items} {i:Int}
theorem ld_int {l:List Int} (h:ReadB B w x l) (h0:0≤i) (h1:i < l.length) {K:Int→Prop} (k:-9223372036854775808≤nth l i→nth l i≤9223372036854775807→K (nth l i)):
  ∃ n,w.cell? ((elA x i 1).add 0)=some (.int .i64 n)∧K n:=⟨_,(h.int h0 h1).1,k (h.int h0 h1).2.1 (h.int h0 h1).2.2⟩
theorem ld_intg {C:Prop} {l:List Int} (h:ReadB B w x l) (h0:C→0≤i∧i < l.length) {K:Int→Prop} (k:K (nth l i)):
  ∃ n,(C→w.cell? ((elA x i 1).add 0)=some (.int .i64 n))∧K n:=⟨_,fun hc=>(h.int (h0 hc).1 (h0 hc).2).1,k⟩
theorem ld_byte {l:List UInt8} (h:ReadB B w x l) (h0:0≤i) (h1:i < l.length) {K:Int→Prop} (k:0≤((nth l i).toNat:Int)→((nth l i).toNat:Int)≤255→K ((nth l i).toNat:Int)):
  ∃ n,w.cell? ((elA x i 1).add 0)=some (.int .u8 n)∧K n:=⟨_,h.byte h0 h1,k (by omega) (by have:=(nth l i).toNat_lt;omega)⟩
theorem go_ix {α:Type} [Dat α] {l:List α} (h:ReadB B w x l) (h0:0≤i) (h1:i < l.length) {K:Prop} (k:K):IxOk x i∧K:=⟨h.ix h0 h1,k⟩
theorem go_ixg {C:Prop} {α:Type} [Dat α] {l:List α} (h:ReadB B w x l) (h0:C→0≤i∧i < l.length) {K:Prop} (k:K):(C→IxOk x i)∧K:=⟨fun hc=>h.ix (h0 hc).1 (h0 hc).2,k⟩
theorem Own.ix {α:Type} [Dat α] {l:List α} (h:Own u x l I) (h0:0≤i) (h1:i < l.length):IxOk x i:=by
 obtain ⟨rows,h2,h3,_⟩:=h
 cases h2 with
 | nil=>have:=h3.1;simp at this;omega
 | blk g o n c cur e _ hn hc hm hs hr=>exact ⟨rfl,h0,by have:=h3.1;simp only [] at *;omega⟩
theorem go_oix {α:Type} [Dat α] {l:List α} (h:Own u x l I) (h0:0≤i) (h1:i < l.length) {K:Prop} (k:K):IxOk x i∧K:=⟨h.ix h0 h1,k⟩
theorem st_int {l:List Int} (h:Own u x l I) (hS:St u w L) [p:Pos I L R F] (h0:0≤i) (h1:i < l.length) {n:Int} (hn:InI n) {K:World→Prop}
  (k:∀ w' I',Own u x (l.set i.toNat n) I'→St u w' (F I')→K w'):StoreAt w (elA x i 1) 0 [.int .i64 n] K:=
 Own.store h hS h0 h1 n (Nat.le_refl _) (fun r hr=>by rw [hr.1];exact ⟨rfl,hn⟩) k
theorem St.front (h:St u w L) [p:Pos I L R F]:St u w (I++R):=h.perm p.perm.symm
theorem pure_of {P:Program} {e:Sem Value} {v r:Value} (h:∀ w:World,e.run P w=.ok v w) (hr:v=r):PureT P e w r:=fun w0 _=>by rw [h w0,hr]
end
theorem take_nth {α:Type} [Inhabited α] {l:List α} {i:Int} (h0:0≤i) (h1:i < l.length):l.take (i+1).toNat=l.take i.toNat++[nth l i]:=by
 rw [show (i+1).toNat=i.toNat+1 from by omega,List.take_add_one,nth_get h0 h1];rfl
theorem take_all {α:Type} {l:List α} {i:Int} (h1:(l.length:Int)≤i):l.take i.toNat=l:=List.take_of_length_le (by omega)
theorem nth_set {α:Type} [Inhabited α] (l:List α) (i j:Int) (a:α) (h0:0≤i) (h1:i < l.length) (h2:0≤j):nth (l.set i.toNat a) j=if j=i then a else nth l j:=by
 simp only [nth,List.getD,List.getElem?_set]
 by_cases e:j=i
 ·subst e;rw [if_pos rfl,if_pos rfl,if_pos (by omega)];rfl
 ·rw [if_neg e,if_neg (by omega)]
theorem val_true {q:Prop} [Decidable q] (h:q):Value.bool true=.bool (decide q):=by rw [decide_eq_true h]
theorem val_false {q:Prop} [Decidable q] (h:¬ q):Value.bool false=.bool (decide q):=by rw [decide_eq_false h]
theorem go_xor {P:Program} {t:TypeId} {a b:Operand} {x y:Int} {w:World} {K:Int→Prop} (x0:0≤x) (x1:x < 1099511627776) (y0:0≤y) (y1:y < 1099511627776)
  (k:∀ r,0≤r→r < 1099511627776→K r):∃ n,PureT P (do eqGuard .xor t a b (.int .i64 x) (.int .i64 y);binOp .xor t (.int .i64 x) (.int .i64 y)) w (.int .i64 n)∧K n:=by
 obtain ⟨m,rfl⟩:=Int.eq_ofNat_of_zero_le x0
 obtain ⟨n,rfl⟩:=Int.eq_ofNat_of_zero_le y0
 have hx:m ^^^ n < 2 ^ 40:=Nat.xor_lt_two_pow (by omega) (by omega)
 refine ⟨((m ^^^ n:Nat):Int),pure_of (v:=.int .i64 ((m ^^^ n:Nat):Int)) (fun w=>?_) rfl,k _ (by omega) (by omega)⟩
 have e:(BitVec.ofInt 64 (m:Int) ^^^ BitVec.ofInt 64 (n:Int)).toNat=m ^^^ n:=by
  rw [BitVec.toNat_xor,BitVec.ofInt_natCast,BitVec.ofInt_natCast,BitVec.toNat_ofNat,BitVec.toNat_ofNat,Nat.mod_eq_of_lt (by omega),Nat.mod_eq_of_lt (by omega)]
 have e2:IntKind.wrap .i64 ((m ^^^ n:Nat):Int)=((m ^^^ n:Nat):Int):=wrap_i64 (by omega) (by omega)
 have e3:(Op.intBits .xor .i64 (m:Int) (n:Int))=pure (.int .i64 (IntKind.wrap .i64 ((BitVec.ofInt 64 (m:Int) ^^^ BitVec.ofInt 64 (n:Int)).toNat:Int))):=rfl
 simp only [eqGuard,binOp,ne_eq,not_true,if_false,e3,e,e2]
 simp
section
variable {P:Program} {f:FuncId} {args:Array Value} {u w:World} {L:Items} {K:Value→World→Prop}
def Mk (P:Program) (f:FuncId) (args:Array Value) (v:World) (Q:Value→Items→Prop):Prop:=Trip P f args v fun r v'=>∃ J,St v v' J∧Q r J
def Fn (P:Program) (f:FuncId) (args:Array Value) (v:World) (r:Value):Prop:=Trip P f args v fun r' v'=>r'=r∧Sub v v'
theorem St.glue {u':World} {J:Items} (h:St u u' J) (k:St u' w L):St u w (J++L):=by
 refine ⟨h.sub.trans k.sub,?_,fun p hp=>?_,fun p hp=>?_⟩
 ·rw [List.map_append]
  refine List.nodup_append.2 ⟨h.nd,k.nd,fun a ha b hb e=>?_⟩
  subst e
  obtain ⟨p,hp,rfl⟩:=List.mem_map.1 ha
  obtain ⟨q,hq,e⟩:=List.mem_map.1 hb
  exact (h.at_ p hp).2 (k.out q hq _ (by rw [e];exact (h.at_ p hp).1))
 ·rcases List.mem_append.1 hp with hp|hp
  ·exact h.out p hp
  ·exact h.sub.out (k.out p hp)
 ·rcases List.mem_append.1 hp with hp|hp
  ·exact (h.at_.sub k.sub) p hp
  ·exact k.at_ p hp
theorem Mk.use {Q:Value→Items→Prop} (h:Mk P f args u Q) (hS:St u w L) (k:∀ r w' J,Q r J→St u w' (J++L)→Sub w w'→K r w'):Trip P f args w K:=
 Trip.fr h hS fun _ _ _ ⟨J,h1,h2⟩ h3 h4=>k _ _ J h2 (h1.glue h3) (h4 h1.sub)
theorem Mk.usew {Q:Value→Items→Prop} (h:Mk P f args w Q) (hS:St u w L) (k:∀ r w' J,Q r J→St u w' (J++L)→Sub w w'→K r w'):Trip P f args w K:=
 h.mono' fun _ _ ⟨J,h1,h2⟩=>k _ _ J h2 (hS.join h1) h1.sub
end
open Classical in
noncomputable def leastM (p:Nat→Prop):Nat:=if h:∃ n,p n then Classical.choose (exists_least p h) else 0
theorem leastM_spec {p:Nat→Prop} (h:∃ n,p n):p (leastM p):=by
 unfold leastM;rw [dif_pos h];exact (Classical.choose_spec (exists_least p h)).1
theorem leastM_le {p:Nat→Prop} {k:Nat} (h:p k):leastM p≤k:=by
 unfold leastM;rw [dif_pos ⟨k,h⟩];exact (Classical.choose_spec (exists_least p ⟨k,h⟩)).2 k h
theorem lz:(∀ {α:Type} (l:List α) (i:Nat) (a:α),(l.set i a).length=l.length)∧(∀ {α:Type} (l m:List α),(l++m).length=l.length+m.length)∧(∀ {α:Type} (n:Nat) (a:α),(List.replicate n a).length=n)∧(∀ {α:Type} (a:α) (l:List α),(a ::l).length=l.length+1)∧(∀ {α:Type},([]:List α).length=0)∧(∀ {α:Type} (i:Nat) (l:List α),(l.take i).length=min i l.length)∧(∀ {α:Type} (i:Nat) (l:List α),(l.drop i).length=l.length - i)∧(∀ {α β:Type} (f:α→β) (l:List α),(l.map f).length=l.length):=
 ⟨by simp,by simp,by simp,by simp,by simp,by simp,by simp,by simp⟩
end Go.Vc
