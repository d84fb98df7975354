/- Part of the proofs about the heaps and memories: a law is joined in the text whose name ends in W and the law. -/
import Derived.Test.YtlcegaeioheikaaGreatEE4
set_option linter.all false
namespace Go.Vc
open Go Go.RowKit
structure CellD where
 count:Int
 tag:Int
 fields:List Int
deriving DecidableEq
instance:Inhabited CellD:=⟨⟨0,0,[]⟩⟩
instance:Dat CellD where
 sz:=3
 cells B w cs c:=∃ f:Sl,cs=[intV c.count,intV c.tag,f.val]∧InI c.count∧InI c.tag∧ReadB B w f c.fields
 mono:=fun hs ⟨f,h1,h2,h3,h4⟩=>⟨f,h1,h2,h3,h4.mono hs⟩
 len:=fun ⟨f,h1,_⟩=>by rw [h1];rfl
 one:=fun ⟨f,h1,_⟩ v hv=>by
  rw [h1] at hv;simp only [List.mem_cons,List.not_mem_nil,or_false] at hv
  rcases hv with rfl|rfl|rfl<;>rfl
theorem VOf.cell {u:World} {a b:Int} {f:Sl} {l:List Int} (ha:InI a) (hb:InI b) (hf:Read u f l):VOf u (.agg #[.int .i64 a,.int .i64 b,f.val]) (CellD.mk a b l):=⟨rfl,f,rfl,ha,hb,hf⟩
section
variable {u w:World} {x:Sl} {h:List CellD} {i:Int}
theorem Src.row {α:Type} [Dat α] [Inhabited α] {l:List α} (hx:Src u w x l) (h0:0≤i) (h1:i < l.length):
  ∃ r,Dat.cells BB u r (nth l i)∧∀ (j:Nat) (v:Value),r[j]?=some v→w.cell? ((elA x i (Dat.sz α)).add j)=some v:=by
 obtain ⟨rows,hr,he,_⟩:=hx
 have hlt:i.toNat < rows.length:=by rw [he.1];omega
 have hg:=List.getElem?_eq_getElem hlt
 exact ⟨_,he.2 _ _ _ hg (nth_get h0 h1),fun j v hv=>hr.at_ h0 hg hv⟩
theorem Src.cell (hx:Src u w x h) (h0:0≤i) (h1:i < h.length):∃ f:Sl,w.cell? ((elA x i 3).add 0)=some (.int .i64 (nth h i).count)∧w.cell? ((elA x i 3).add 1)=some (.int .i64 (nth h i).tag)∧
  w.cell? ((elA x i 3).add 2)=some f.val∧InI (nth h i).count∧InI (nth h i).tag∧Read u f (nth h i).fields:=by
 obtain ⟨r,⟨f,rfl,h2,h3,h4⟩,h5⟩:=hx.row h0 h1
 exact ⟨f,h5 0 _ rfl,h5 1 _ rfl,h5 2 _ rfl,h2,h3,h4⟩
end
def live (h:List CellD) (w:Int):Bool:=decide (1000≤w) && decide (w - 1000 < h.length) && decide (0 < (nth h (w - 1000)).count)
def word (h:List CellD) (w:Int):Bool:=(decide (-999≤w) && decide (w≤999)) || live h w
def cnt (h:List CellD) (ws:List Int) (k:Nat):Int:=(ws.countP fun w=>live h w && decide (w=1000+(k:Int)):Nat)
def words (h:List CellD):List Int:=h.flatMap (·.fields)
theorem live_spec {h:List CellD} {w:Int} (hl:live h w=true):1000≤w∧w - 1000 < h.length∧0 < (nth h (w - 1000)).count:=by
 simpa [live,and_assoc] using hl
end Go.Vc
namespace Go.Vc
open Go
def wordsOk (h:List CellD):Prop:=∀ c∈h,∀ f∈c.fields,word h f=true
def sumN (n:Nat) (f:Nat→Int):Int:=((List.range n).map f).sum
def cntN (h:List CellD) (gone:List Bool) (k:Nat):Int:=sumN h.length fun i=>if nth gone (i:Int) then 0 else cnt h (nth h (i:Int)).fields k
structure Kahn (h:List CellD) (left work:List Int) (gone:List Bool) (rest:List Int) (many:Int):Prop where
 ll:left.length=h.length
 gl:gone.length=h.length
 left_:∀ k:Nat,k < h.length→nth left (k:Int)=cntN h gone k+cnt h rest k
 wk:∀ k∈work,0≤k∧k < h.length
 nd:work.Nodup
 mem:∀ k:Int,0≤k→k < h.length→(k∈work↔nth left k=0∧nth gone k=false)
 zero:∀ k:Int,0≤k→k < h.length→nth gone k=true→nth left k=0
 many_:many=(gone.count true:Nat)
 ord:∃ o:Nat→Nat,∀ k:Nat,k < h.length→nth gone (k:Int)=true→(o k:Int) < many∧∀ i:Nat,i < h.length→cnt h (nth h (i:Int)).fields k≠0→nth gone (i:Int)=true∧o i < o k
end Go.Vc
namespace Go.Vc
open Go Go.RowKit
class DatO (α:Type) extends Dat α where
 own:List Value→α→Items→Prop
 read:∀ {w:World} {cs:List Value} {a:α} {I:Items},own cs a I→AtAll w I→cells BB w cs a
def OwnD {α:Type} [DatO α] (x:Sl) (l:List α) (I:Items):Prop:=
 ∃ (rows:List (List Value)) (I0:Items) (Is:List Items) (E:Items),OSl (Dat.sz α) x rows I0∧rows.length=l.length∧Is.length=l.length∧
  (∀ (i:Nat) (r:List Value) (a:α) (K:Items),rows[i]?=some r→l[i]?=some a→Is[i]?=some K→DatO.own r a K)∧I.Perm (I0++(Is.flatten++E))∧l.length≤BB
theorem perm_flatten_mid {Is:List Items} {i:Nat} {K:Items} (h:Is[i]?=some K):Is.flatten.Perm (K++(Is.take i++Is.drop (i+1)).flatten):=by
 obtain ⟨hlt,e⟩:=List.getElem?_eq_some_iff.1 h
 subst e
 have:Is=Is.take i++(Is[i] ::Is.drop (i+1)):=by
  rw [List.getElem_cons_drop hlt,List.take_append_drop]
 conv=>lhs;rw [this]
 simp only [List.flatten_append,List.flatten_cons]
 rw [←List.append_assoc,←List.append_assoc]
 exact List.perm_append_comm.append_right _
theorem set_flatten_mid {Is:List Items} {i:Nat} {K K':Items} (h:Is[i]?=some K):(Is.set i K').flatten.Perm (K'++(Is.take i++Is.drop (i+1)).flatten):=by
 obtain ⟨hlt,e⟩:=List.getElem?_eq_some_iff.1 h
 have h2:(Is.set i K')[i]?=some K':=by simp [hlt]
 have:=perm_flatten_mid h2
 rwa [List.take_set_of_le (Nat.le_refl _),List.drop_set_of_lt (by omega)] at this
section
variable {α:Type} [DatO α] {u w w':World} {x y:Sl} {l:List α} {L I J R:Items} {F:Items→Items}
theorem OwnD.n (h:OwnD x l I):x.n=l.length:=let ⟨_,_,_,_,h1,h2,_⟩:=h;h1.len.trans h2
theorem OwnD.perm {I':Items} (h:OwnD x l I) (hp:I'.Perm I):OwnD x l I':=let ⟨a,b,c,d,h1,h2,h3,h4,h5,h6⟩:=h;⟨a,b,c,d,h1,h2,h3,h4,hp.trans h5,h6⟩
theorem OwnD.readA (h:OwnD x l I) (hA:AtAll w I):Read w x l:=by
 obtain ⟨rows,I0,Is,E,h1,h2,h3,h4,h5,h6⟩:=h
 have hA':=hA.perm h5.symm
 refine ⟨rows,h1.rd fun p hp=>hA' p (List.mem_append_left _ hp),⟨h2,fun i r a hr ha=>?_⟩,h6⟩
 have hlt:i < Is.length:=by rcases Nat.lt_or_ge i rows.length with hl|hg;omega;rw [List.getElem?_eq_none hg] at hr;cases hr
 refine DatO.read (h4 i r a _ hr ha (List.getElem?_eq_getElem hlt)) fun p hp=>hA' p (List.mem_append_right _ (List.mem_append_left _ ?_))
 exact List.mem_flatten.2 ⟨_,List.getElem_mem hlt,hp⟩
theorem OwnD.read (h:OwnD x l I) (hS:St u w L) [p:Pos I L R F]:Read w x l:=h.readA hS.items
theorem OwnD.read1 (h:OwnD x l I) (hS:St u w I):Read w x l:=h.readA hS.at_
theorem OwnD.apart [Inhabited α] (h:OwnD x l I) {i:Int} (h0:0≤i) (h1:i < l.length):
  ∃ (r:List Value) (K Rest:Items),DatO.own r (nth l i) K∧I.Perm (K++Rest)∧(∀ w:World,AtAll w Rest→∀ (j:Nat) (v:Value),r[j]?=some v→w.cell? ((elA x i (Dat.sz α)).add j)=some v)∧
   ∀ {u w:World} {L R:Items} {F:Items→Items} {off:Nat} {vals:List Value} {a:α} {J:Items} {Kt:World→Prop},St u w L→∀ [p:Pos Rest L R F],off+vals.length≤Dat.sz α→DatO.own (putR r off vals) a J→
    (∀ w' Rest',OwnD x (l.set i.toNat a) (Rest'++J)→St u w' (Rest'++R)→Kt w')→StoreAt w (elA x i (Dat.sz α)) off vals Kt:=by
 obtain ⟨rows,I0,Is,E,k1,k2,k3,k4,k5,k6⟩:=h
 have hr:i.toNat < rows.length:=by omega
 have hI:i.toNat < Is.length:=by omega
 have er:=List.getElem?_eq_getElem hr
 have eI:=List.getElem?_eq_getElem hI
 have ep:=perm_flatten_mid eI
 have hp:I.Perm (Is[i.toNat]++(I0++((Is.take i.toNat++Is.drop (i.toNat+1)).flatten++E))):=by
  classical
  exact List.perm_iff_count.2 fun a=>by have h1:=k5.count_eq a;have h2:=ep.count_eq a;simp only [List.count_append] at *;omega
 refine ⟨rows[i.toNat],Is[i.toNat],_,k4 _ _ _ _ er (nth_get h0 h1) eI,hp,fun w hA j v hv=>?_,?_⟩
 ·exact (k1.rd (w:=w) fun p hp=>hA p (List.mem_append_left _ hp)).at_ h0 er hv
 ·intro u w L R F off vals a J Kt hS p hv ho k
  have hS':St u w (I0++(((Is.take i.toNat++Is.drop (i.toNat+1)).flatten++E)++R)):=by have:=hS.perm p.perm.symm;simpa using this
  obtain ⟨c1,I',c2,c3⟩:=k1.store hS' h0 er hv
  refine ⟨c1,k _ (I'++((Is.take i.toNat++Is.drop (i.toNat+1)).flatten++E)) ⟨_,I',Is.set i.toNat J,E,c2,by simpa using k2,by simpa using k3,fun j r b K hr' ha' hK'=>?_,?_,by simpa using k6⟩ (by simpa using c3)⟩
  ·rw [List.getElem?_set] at ha' hK' hr'
   by_cases e:i.toNat=j
   ·subst e
    rw [if_pos rfl,if_pos (by omega)] at ha' hK' hr'
    simp only [Option.some.injEq] at ha' hK' hr'
    subst ha';subst hK';subst hr'
    exact ho
   ·rw [if_neg e] at ha' hK' hr'
    exact k4 j r b K hr' ha' hK'
  ·have es:=set_flatten_mid (K':=J) eI
   classical
   exact List.perm_iff_count.2 fun a=>by have h2:=es.count_eq a;simp only [List.count_append] at *;omega
theorem OwnD.push {P:Program} {t ty:TypeId} {bytes:Nat} {zc:List Value} [hT:SlT P t (Dat.sz α) bytes zc] {cs:List Value} {a:α} (h:OwnD x l I) (hS:St u w L) [p:Pos I L R F]
  (hy:Rows w y (Dat.sz α) [cs]) (ho:DatO.own cs a J) (hw:Dat.cells BB w cs a) (hb:l.length+1≤1099511627776) (hby:bytes≤128) {Q:Value→World→Prop}
  (k:∀ x' w' I',OwnD x' (l++[a]) (I'++J)→St u w' (I'++R)→Q x'.val w'):StepT P (Builtin.append_ #[t,t] ty #[x.val,y.val]) w Q:=by
 obtain ⟨rows,I0,Is,E,k1,k2,k3,k4,k5,k6⟩:=h
 have hS':St u w (I0++(Is.flatten++E++R)):=(hS.perm p.perm.symm).perm (by rw [←List.append_assoc];exact (k5.symm).append_right R)
 have hAI:AtAll w (I0++(Is.flatten++E)):=fun q hq=>hS'.at_ q (by rw [←List.append_assoc];exact List.mem_append_left _ hq)
 have hcl:∀ (i:Nat) (r:List Value),rows[i]?=some r→r.length=Dat.sz α:=by
  intro i r hr
  have hlt:i < rows.length:=by rcases Nat.lt_or_ge i rows.length with hl|hg;exact hl;rw [List.getElem?_eq_none hg] at hr;cases hr
  have h3:=k4 i r _ _ hr (List.getElem?_eq_getElem (show i < l.length by omega)) (List.getElem?_eq_getElem (show i < Is.length by omega))
  exact Dat.len (DatO.read h3 (w:=w) fun q hq=>hAI q (List.mem_append_right _ (List.mem_append_left _ (List.mem_flatten.2 ⟨_,List.getElem_mem _,hq⟩))))
 have hle:(rows.length+[cs].length) * bytes≤1099511627776 * 128:=Nat.mul_le_mul (by simp;omega) hby
 refine k1.append hS' hy (fun r hr=>by rw [List.mem_singleton.1 hr];exact Dat.len hw) (fun r hr=>by rw [List.mem_singleton.1 hr];exact Dat.one hw) (fun r hr=>by obtain ⟨i,hi,rfl⟩:=List.getElem_of_mem hr;exact hcl i _ (List.getElem?_eq_getElem hi)) hle (by simp only [maxLen,List.length_singleton];omega) fun x' w' I' c1 c2=>?_
 refine k x' w' (I'++(Is.flatten++E)) ⟨_,I',Is++[J],E,c1,by simp [k2],by simp [k3],fun i r b K hr hb hK=>?_,?_,by simp;omega⟩ (by simpa using c2)
 ·rcases Nat.lt_or_ge i rows.length with hlt|hge
  ·rw [List.getElem?_append_left hlt] at hr
   rw [List.getElem?_append_left (by omega)] at hb hK
   exact k4 i r b K hr hb hK
  ·rw [List.getElem?_append_right hge] at hr
   rw [List.getElem?_append_right (by omega)] at hb hK
   have:i=rows.length:=by
    rcases Nat.lt_or_ge (i - rows.length) 1 with h|h
    ·omega
    ·rw [List.getElem?_eq_none (by simpa using h)] at hr;cases hr
   subst this
   simp [k2,k3] at hr hb hK
   subst hr;subst hb;subst hK
   exact ho
 ·rw [List.append_assoc,List.flatten_append]
  refine List.Perm.append_left I' ?_
  simp only [List.flatten_cons,List.flatten_nil,List.append_nil,List.append_assoc]
  exact List.Perm.append_left _ List.perm_append_comm
theorem OwnD.push' {P:Program} {t ty:TypeId} {bytes:Nat} {zc:List Value} [hT:SlT P t (Dat.sz α) bytes zc] {cs:List Value} {a:α} {R1:Items} {F1:Items→Items} (h:OwnD x l I) (hS:St u w L) [p:Pos I L R1 F1]
  (hy:Rows w y (Dat.sz α) [cs]) (ho:DatO.own cs a J) [q:Pos J R1 R F] (hb:l.length+1≤1099511627776) (hby:bytes≤128) {Q:Value→World→Prop}
  (k:∀ x' w' I',OwnD x' (l++[a]) I'→St u w' (I'++R)→Q x'.val w'):StepT P (Builtin.append_ #[t,t] ty #[x.val,y.val]) w Q:=by
 have hJ:AtAll w J:=fun z hz=>hS.at_ z (p.perm.symm.subset (List.mem_append_right _ (q.perm.symm.subset (List.mem_append_left _ hz))))
 refine h.push hS hy ho (DatO.read ho hJ) hb hby fun x' w' I' k1 k2=>k x' w' _ k1 (k2.perm ?_)
 rw [List.append_assoc]
 exact List.Perm.append_left I' q.perm.symm
end
end Go.Vc
namespace Go.Vc
open Go
inductive Reach (h:List CellD) (ws:List Int):Int→Prop where
 | base {f:Int} (hf:f∈ws) (hl:live h f=true):Reach h ws (f - 1000)
 | step {k f:Int} (hk:Reach h ws k) (hf:f∈(nth h k).fields) (hl:live h f=true):Reach h ws (f - 1000)
structure Dfs (h:List CellD) (ws:List Int) (s:List Bool) (todo:List Int):Prop where
 ll:s.length=h.length
 seen:∀ k:Int,0≤k→k < h.length→nth s k=true→Reach h ws k
 todo_:∀ f∈todo,live h f=true→Reach h ws (f - 1000)
 cl0:∀ f∈ws,live h f=true→nth s (f - 1000)=true∨f∈todo
 cl1:∀ k:Int,0≤k→k < h.length→nth s k=true→∀ f∈(nth h k).fields,live h f=true→nth s (f - 1000)=true∨f∈todo
theorem Dfs.take {h:List CellD} {ws t:List Int} {s:List Bool} {f:Int} (D:Dfs h ws s (t++[f])) (hl:live h f=true):
  Dfs h ws (s.set (f - 1000).toNat true) (t++(nth h (f - 1000)).fields):=by
 obtain ⟨p1,p2,p3⟩:=live_spec hl
 have hll:=D.ll
 have hset:∀ k:Int,0≤k→nth (s.set (f - 1000).toNat true) k=if k=f - 1000 then true else nth s k:=fun k k0=>nth_set _ _ _ _ (by omega) (by omega) k0
 have hr:=D.todo_ f (by simp) hl
 have key:∀ g,live h g=true→nth s (g - 1000)=true∨g∈t++[f]→nth (s.set (f - 1000).toNat true) (g - 1000)=true∨g∈t++(nth h (f - 1000)).fields:=by
  intro g hlg hg
  have:=live_spec hlg
  rw [hset _ (by omega)]
  by_cases e:g - 1000=f - 1000
  ·rw [if_pos e];exact .inl rfl
  ·rw [if_neg e]
   rcases hg with hg|hg
   ·exact .inl hg
   ·rcases List.mem_append.1 hg with hg|hg
    ·exact .inr (List.mem_append_left _ hg)
    ·rw [List.mem_singleton.1 hg] at e;exact absurd rfl e
 refine ⟨by simpa using hll,fun k k0 k1 hs=>?_,fun g hg hlg=>?_,fun g hg hlg=>key g hlg (D.cl0 g hg hlg),fun k k0 k1 hs g hg hlg=>?_⟩
 ·rw [hset k k0] at hs
  by_cases e:k=f - 1000
  ·rw [e];exact hr
  ·rw [if_neg e] at hs;exact D.seen k k0 k1 hs
 ·rcases List.mem_append.1 hg with hg|hg
  ·exact D.todo_ g (List.mem_append_left _ hg) hlg
  ·exact .step hr hg hlg
 ·rw [hset k k0] at hs
  by_cases e:k=f - 1000
  ·rw [e] at hg;exact .inr (List.mem_append_right _ hg)
  ·rw [if_neg e] at hs;exact key g hlg (D.cl1 k k0 k1 hs g hg hlg)
structure LazyD where
 cells:List CellD
 pend:List Int
abbrev free0:CellD:=⟨0,0,[]⟩
def cntF (ws:List Int) (k:Int):Int:=(ws.count (1000+k):Nat)
def AcycP (h:List CellD):Prop:=∃ rk:Nat→Nat,∀ k:Int,0≤k→k < h.length→∀ f∈(nth h k).fields,1000≤f→rk (f - 1000).toNat < rk k.toNat
structure LZ (h:List CellD) (pend todo:List Int):Prop where
 pr:∀ p∈pend,0≤p∧p < h.length∧(nth h p).count=0
 pn:pend.Nodup
 cell:∀ c∈h,0≤c.count∧c.count≤999999∧c.fields.length≤3∧0≤c.tag∧c.tag≤99
 free:∀ k:Int,0≤k→k < h.length→(nth h k).count=0→k∉pend→nth h k=free0
 ptr:wordsOk h
 ptrT:∀ f∈todo,word h f=true
 cnt:∀ k:Int,0≤k→k < h.length→0 < (nth h k).count→cntF (words h) k+cntF todo k≤(nth h k).count
 acyc:AcycP h
def nlive (h:List CellD):Nat:=h.countP fun c=>decide (0 < c.count)
def nf (z:LazyD):Nat:=nlive z.cells+z.pend.length
section
variable {h:List CellD} {pend todo r:List Int} {f p:Int}
end
structure Ext (z z':LazyD):Prop where
 cells:∃ n,z'.cells=z.cells++List.replicate n free0
 pend:z'.pend=z.pend
 pin:∀ p∈z.pend,0≤p∧p < z.cells.length
section
variable {z z':LazyD}
theorem Ext.len (E:Ext z z'):z.cells.length≤z'.cells.length:=by obtain ⟨n,e⟩:=E.cells;rw [e];simp
theorem nlive_free (a:List CellD) (n:Nat):nlive (a++List.replicate n free0)=nlive a:=by
 unfold nlive
 rw [List.countP_append]
 have:(List.replicate n free0).countP (fun c=>decide (0 < c.count))=0:=by
  rw [List.countP_eq_zero];intro c hc;rw [List.eq_of_mem_replicate hc];simp
 omega
theorem Ext.nf (E:Ext z z'):nf z'=nf z:=by
 obtain ⟨n,e⟩:=E.cells
 unfold Go.Vc.nf
 rw [e,E.pend,nlive_free]
end
end Go.Vc
namespace Go.Vc
open Go Go.RowKit
section
variable {P:Program} {t tn ty e:TypeId} {i:TypeInfo} {z:Value}
end
section
variable {α:Type} {P:Program} {u w w':World} {x y:Sl} {l ns:List Int} {L I R:Items} {F:Items→Items} {t tn ty:TypeId}
end
end Go.Vc
