/- Part of the proofs about the heaps and memories: a law is joined in the text whose name ends in W and the law. -/
import Derived.Test.YtelgbndeeccblaaGreatDoorET0
import Derived.Lib.AppendStr
import Derived.OwnWalk
import Derived.WalkKit
import Derived.Lib.Builder
import Derived.Lib.UnsafeStr
import Derived.Laws.Externs
set_option linter.all false
namespace Go.Vc
open Go Go.RowKit
theorem run_append_str {P:Program} (w:World) (t u ty e:TypeId) (i:TypeInfo) (ht:P.underlying t=some (.slice e)) (hu:P.underlying u=some .string) (hi:P.info? e=some i) (hz:i.zero=some (.int .u8 0))
  (hsize:i.size=1) (hby:i.bytes=1) (v:Value) (n:Nat) (xs:List Value) (hown:w.ownsRow 0 e 1 v n xs) (s:ByteArray) (hbytes:n+s.size≤140737488355328):
  ∃ v' w',(Builtin.append_ #[t,u] ty #[v,.string s]).run P w=.ok v' w'∧w'.ownsRow 0 e 1 v' (n+s.size) (xs++Lib.strCells s)∧w.grownBy w' v.ownBlock∧(v'.ownBlock=v.ownBlock∨v'.ownBlock=none∨∃ g,v'.ownBlock=some g∧w.heap.size≤g):=by
 have h63:n+s.size≤maxLen:=by unfold maxLen;omega
 obtain ⟨v',w',hr,h1,h2,h3⟩:=Lib.run_append_own_string (P:=P) w 0 t u ty e i ht hu hi hz hsize hby v n xs hown s h63 hbytes (Nat.zero_le _)
 refine ⟨v',w',hr,h1,h2,?_⟩
 rcases hown.2 with ⟨rfl,rfl⟩|⟨g,cap,cur,rfl,hbg,hg,hnc,hcm,hcs,htake⟩
 ·have hxs:xs=[]:=List.eq_nil_of_length_eq_zero (by simpa using hown.1)
  subst hxs
  obtain ⟨v2,w2,hr2,k1,k2,k3⟩:=Lib.run_append_own_string (P:=P) w w.heap.size t u ty e i ht hu hi hz hsize hby (.slice none 0 0) 0 [] (World.ownsRow_nil w _ e 1) s h63 hbytes (Nat.le_refl _)
  rw [hr] at hr2
  cases hr2
  rcases k1.2 with ⟨rfl,_⟩|⟨g,cap,cur,rfl,hbg,_⟩
  ·exact .inl rfl
  ·exact .inr (.inr ⟨g,rfl,hbg⟩)
 ·by_cases hroom:n+s.size≤cap
  ·have hcs':cur.size=cap:=by simpa using hcs
   have hr2:=Lib.run_append_room_string (P:=P) w t u ty e i ht hu hi hsize g n cap cur hg s hroom (by omega)
   rw [hr] at hr2
   cases hr2
   exact .inl rfl
  ·have holds:∀ j u,xs[j]?=some u→w.cell? ((⟨g,0,none⟩:Addr).add j)=some u:=hown.cells (g:=g) rfl
   have hxl:xs.length=n:=by simpa using hown.1
   have hr2:=Lib.run_append_grow_string (P:=P) w t u ty e i (.int .u8 0) ht hu hi hz ⟨g,0,none⟩ n cap xs (by rw [hsize];simpa using hxl) holds s (by omega) (by omega) (by rw [hby];exact growslice_fits (by omega) (by omega))
   rw [hr] at hr2
   cases hr2
   exact .inr (.inr ⟨_,rfl,Nat.le_refl _⟩)
end Go.Vc
namespace Go.Vc
open Go Go.RowKit
section
variable {P:Program} {u w:World} {L R I:Items} {F:Items→Items}
open Classical in
theorem Trip.res {f:FuncId} {args:Array Value} {K:Value→World→Prop} (hS:St u w L) [p:Pos I L R F] (h1:∀ W:World,(callFunc f args).run P W=.ok (.enter f args) W) (Q:Value→Items→Prop)
  (h:∀ W:World,Sub w W→AtAll W I→Calls P f args W fun e W'=>∃ r I',e=.returned r∧Q r I'∧AtAll W' I'∧(I'.map (·.1)).Nodup∧(∀ b∈I'.map (·.1),b∈I.map (·.1)∨W.heap.size≤b)∧
   (∀ k,k < W.heap.size→k∉I.map (·.1)→W'.heap[k]?=W.heap[k]?)∧W.heap.size≤W'.heap.size∧W'.os=W.os∧W'.tape=W.tape∧W'.output=W.output)
  (hK:∀ r I' w',Q r I'→St u w' (F I')→K r w'):Trip P f args w K:=by
 refine ⟨h1,fun W hs=>?_⟩
 have hIw:AtAll w I:=hS.items
 refine (h W hs (hIw.sub hs)).mono ?_
 rintro e W' ⟨r,I',rfl,hq,hA,hnd,hfr,hk,hsz,ho1,ho2,ho3⟩
 let q:Nat→Bool:=fun b=>decide (b∈I'.map (·.1)∨(¬ Out w b∧b∉I.map (·.1)))
 have hnO:∀ b∈I.map (·.1),¬ Out w b:=by
  intro b hb hO
  obtain ⟨x,hx,rfl⟩:=List.mem_map.1 hb
  exact (hIw x hx).2 (hO _ (hIw x hx).1)
 have hsub:∀ (b:Nat) (o:Obj),w.heap[b]?=some o→o≠absent→b∉I.map (·.1)→(maskW W' q).heap[b]?=some o:=by
  intro b o hb hne hnI
  have g1:=hs.at_ b o hb hne
  have g2:W'.heap[b]?=some o:=by rw [hk b (getElem?_lt g1) hnI];exact g1
  rw [maskW_get,if_pos (getElem?_lt g2),if_pos]
  ·exact g2
  ·exact decide_eq_true (.inr ⟨fun hO=>hne (hO _ hb),hnI⟩)
 refine ⟨r,maskW W' q,rfl,⟨maskW_sub _ _,hsz,ho1,ho2,ho3,fun b hb hO=>?_⟩,hK r I' _ hq (hS.upd hsub ?_ hnd ?_ ?_)⟩
 ·have hnI:b∉I.map (·.1):=fun hm=>hnO b hm hO
  have hnI':b∉I'.map (·.1):=fun hm=>by
   rcases hfr b hm with h|h
   ·exact hnI h
   ·omega
  refine ⟨fun o hm=>?_,hk b hb hnI⟩
  rw [maskW_get] at hm
  have hqf:q b=false:=decide_eq_false fun hn=>by
   rcases hn with hn|hn
   ·exact hnI' hn
   ·exact hn.1 hO
  rw [hqf] at hm
  split at hm
  ·simpa using hm.symm
  ·cases hm
 ·intro x hx
  obtain ⟨g1,g2⟩:=hA x hx
  refine ⟨?_,g2⟩
  rw [maskW_get,if_pos (getElem?_lt g1),if_pos]
  ·exact g1
  ·exact decide_eq_true (.inl (List.mem_map_of_mem hx))
 ·intro b hb
  rcases hfr b hb with h|h
  ·exact .inl h
  ·refine .inr (out_of_le ?_)
   have:=hs.size
   omega
 ·rw [maskW_size];have:=hs.size;omega
end
def BRow (e:TypeId) (l:List UInt8) (v:Value) (I:Items):Prop:=
 (v=.slice none 0 0∧l=[]∧I=[])∨
 ∃ g cap cur,v=.slice (some ⟨g,0,none⟩) l.length cap∧I=[(g,.cells cur e (0,0))]∧l.length≤cap∧cap≤maxLen∧cur.size=cap∧cur.toList.take l.length=l.map fun x=>Value.int .u8 x.toNat
def Bld (T e:TypeId) (b:Nat) (l:List UInt8) (I:Items):Prop:=
 ∃ p v I1,(p=.pointer none∨p=.pointer (some ⟨b,0,none⟩))∧I=(b,.cells #[p,v] T (0,0)) ::I1∧BRow e l v I1
theorem BRow.owns {e:TypeId} {l:List UInt8} {v:Value} {I:Items} {W:World} (h:BRow e l v I) (hA:AtAll W I):W.ownsRow 0 e 1 v l.length (l.map fun x=>Value.int .u8 x.toNat):=by
 refine ⟨by simp,?_⟩
 rcases h with ⟨rfl,rfl,rfl⟩|⟨g,cap,cur,rfl,rfl,h1,h2,h3,h4⟩
 ·exact .inl ⟨rfl,rfl⟩
 ·exact .inr ⟨g,cap,cur,rfl,Nat.zero_le _,(hA _ (List.mem_singleton.2 rfl)).1,h1,h2,by omega,by simpa using h4⟩
theorem BRow.block {e:TypeId} {l:List UInt8} {v:Value} {I:Items} (h:BRow e l v I) (k:Nat):k∈I.map (·.1)↔v.ownBlock=some k:=by
 rcases h with ⟨rfl,rfl,rfl⟩|⟨g,cap,cur,rfl,rfl,_⟩
 ·simp [Value.ownBlock]
 ·simp [Value.ownBlock];exact eq_comm
theorem BRow.of {e:TypeId} {l:List UInt8} {v:Value} {W:World} (h:W.ownsRow 0 e 1 v l.length (l.map fun x=>Value.int .u8 x.toNat)):∃ I,BRow e l v I∧AtAll W I:=by
 rcases h.2 with ⟨rfl,h0⟩|⟨g,cap,cur,rfl,_,h1,h2,h3,h4,h5⟩
 ·exact ⟨[],.inl ⟨rfl,List.eq_nil_of_length_eq_zero h0,rfl⟩,by simp [AtAll]⟩
 ·exact ⟨_,.inr ⟨g,cap,cur,rfl,rfl,h2,h3,by omega,by simpa using h5⟩,by simpa [AtAll] using ⟨h1,by simp [absent]⟩⟩
theorem wpList_append_str {P:Program} {ops:Array Oper} {rest:List Oper} {o:Oper} {a:Act} {w:World} {Q:Exit→Act→World→Prop} (hgd:o.guard=none) (sl x:Operand) (t u:TypeId)
  (ho:o.op=.call { callee:=.builtin .append,args:=#[sl,x],argTypes:=#[t,u] })
  (e:TypeId) (i:TypeInfo) (ht:P.underlying t=some (.slice e)) (hu:P.underlying u=some .string) (hi:P.info? e=some i) (hz:i.zero=some (.int .u8 0))
  (hsize:i.size=1) (hby:i.bytes=1)
  (v:Value) (n:Nat) (xs:List Value) (hs:a.eval sl=v) (hown:w.ownsRow 0 e 1 v n xs) (s:ByteArray) (hx:a.eval x=.string s) (hbytes:n+s.size≤140737488355328)
  (h:∀ v' w',w'.ownsRow 0 e 1 v' (n+s.size) (xs++Lib.strCells s)→w.grownBy w' v.ownBlock→(v'.ownBlock=v.ownBlock∨v'.ownBlock=none∨∃ g,v'.ownBlock=some g∧w.heap.size≤g)→wpList P ops Q rest (a.put o.dst v') w'):wpList P ops Q (o ::rest) a w:=by
 refine wpList_plain hgd fun K hK=>?_
 obtain ⟨v',w',hr,h2,h3,h4⟩:=run_append_str (P:=P) w t u o.type e i ht hu hi hz hsize hby v n xs hown s hbytes
 unfold Oper.wp execOp
 simp only [ho,resolve,invoke,builtin,Sem.run_bind,Sem.run_pure,Result.andThen_ok,List.map_toArray,List.map_cons,List.map_nil,hs,hx,hr]
 exact hK _ _ (h v' w' h2 h3 h4)
end Go.Vc
namespace Go.Proofs
open Go.RowKit Go.Vc
theorem bl_und:Tryz.prog.underlying 57=some (.pointer 59):=by kernel_rfl
theorem bl_unsafe:Tryz.prog.underlying 173=some .unsafePointer:=by kernel_rfl
theorem bl_size:(Tryz.prog.info? 59).map (·.size)=some 2:=by kernel_rfl
theorem bl_lies:liesAt Tryz.prog Tryz.prog.depth 59 (2 / Tryz.prog.cellsOf 59) 0 59 1=true:=by kernel_rfl
set_option maxHeartbeats 1000000 in
set_option maxRecDepth 100000 in
theorem bl_check_used (b:Nat) (w:World) (h0:w.cell? ⟨b,0,none⟩=some (.pointer (some ⟨b,0,none⟩))):
  Calls Tryz.prog 80 #[.pointer (some ⟨b,0,none⟩)] w fun e w'=>e=.returned (.tuple #[])∧w'=w:=by
 obtain ⟨j,hj,_⟩:=Option.map_eq_some_iff.1 bl_size
 have u1:=run_underlying bl_und
 go_enter Tryz.func80,Tryz.ntmps80
 go_wp2
 rw [Lib.run_neq_ptr_same w _ bl_und hj]
 go_wp2
 go_end0
 exact ⟨rfl,rfl⟩
set_option maxHeartbeats 1000000 in
set_option maxRecDepth 100000 in
theorem bl_check_fresh (b:Nat) (w:World) (h0:w.cell? ⟨b,0,none⟩=some (.pointer none)) (hsh:w.shape? b=some (59,2)) (hfz:w.frozen? ⟨b,0,none⟩=false):
  Calls Tryz.prog 80 #[.pointer (some ⟨b,0,none⟩)] w fun e w'=>e=.returned (.tuple #[])∧w'=w.setCell ⟨b,0,none⟩ (.pointer (some ⟨b,0,none⟩)):=by
 obtain ⟨j,hj,hjs⟩:=Option.map_eq_some_iff.1 bl_size
 have u1:=run_underlying bl_und
 have u2:=run_underlying bl_unsafe
 go_enter Tryz.func80,Tryz.ntmps80
 go_wp2
 rw [Lib.run_to_unsafe w ⟨b,0,none⟩ bl_und bl_unsafe hj (by rw [hjs];decide) hsh (Nat.zero_lt_succ 1)]
 simp only [Result.andThen]
 rw [Oper.upon_value]
 go_wp2
 rw [run_callFunc_extern Tryz.func143 (by kernel_rfl) (by kernel_rfl) (by kernel_rfl) (e:=Extern.AbiNoEscape.same) (by kernel_rfl)]
 rw [Lib.run_noEscape]
 simp only [Result.andThen]
 rw [Oper.upon_value]
 go_wp2
 rw [Lib.run_from_unsafe w ⟨b,0,none⟩ bl_unsafe bl_und hj hsh bl_lies]
 simp only [Result.andThen]
 rw [Oper.upon_value]
 go_wp2
 go_end0
 exact ⟨rfl,rfl⟩
structure KeptBut (b:Nat) (w w':World):Prop where
 at_:∀ k,k≠b→w'.heap[k]?=w.heap[k]?
 size:w'.heap.size=w.heap.size
 os:w'.os=w.os
 tape:w'.tape=w.tape
 output:w'.output=w.output
theorem KeptBut.refl (b:Nat) (w:World):KeptBut b w w:=⟨fun _ _=>rfl,rfl,rfl,rfl,rfl⟩
theorem KeptBut.set (b o:Nat) (v:Value) (w:World):KeptBut b w (w.setCell ⟨b,o,none⟩ v):=
 ⟨fun k hk=>Below.heap_setCell w ⟨b,o,none⟩ v k (fun e=>hk e),by show (w.heap.modify b _).size=_;rw [Array.size_modify],rfl,rfl,rfl⟩
theorem kept_freeze (g n:Nat) (w:World):KeptBut g w (w.drew.freeze ⟨g,0,none⟩ n):=by
 unfold World.freeze
 split
 ·exact ⟨fun _ _=>rfl,rfl,rfl,rfl,rfl⟩
 ·refine ⟨fun k hk=>?_,by simp,rfl,rfl,rfl⟩
  simp only [Array.getElem?_modify]
  rw [if_neg (by intro e;exact hk e.symm)]
  rfl
theorem bl_lt {w:World} {b:Nat} {o:Obj} (h:w.heap[b]?=some o):b < w.heap.size:=(Array.getElem?_eq_some_iff.1 h).1
theorem bl_set {w:World} {b o:Nat} {cs:Array Value} {T:TypeId} {fz:Nat×Nat} {v:Value} (h:w.heap[b]?=some (.cells cs T fz)):(w.setCell ⟨b,o,none⟩ v).heap[b]?=some (.cells (cs.setIfInBounds o v) T fz):=by
 obtain ⟨hlt,hk⟩:=Array.getElem?_eq_some_iff.1 h
 show (w.heap.modify b _)[b]?=_
 rw [Array.getElem?_eq_getElem (by rw [Array.size_modify];exact hlt),Array.getElem_modify_self,hk]
 rfl
theorem bl_check (b:Nat) (p v:Value) (w:World) (hb:w.heap[b]?=some (.cells #[p,v] 59 (0,0))) (hp:p=.pointer none∨p=.pointer (some ⟨b,0,none⟩)):
  Calls Tryz.prog 80 #[.pointer (some ⟨b,0,none⟩)] w fun e w'=>e=.returned (.tuple #[])∧w'.heap[b]?=some (.cells #[.pointer (some ⟨b,0,none⟩),v] 59 (0,0))∧KeptBut b w w':=by
 have c0:w.cell? ⟨b,0,none⟩=some p:=by rw [Lib.cell_of_heap hb];rfl
 rcases hp with rfl|rfl
 ·refine (bl_check_fresh b w c0 (by simp [World.shape?,hb]) (Lib.frozen_of_heap hb 0)).mono ?_
  rintro e w' ⟨rfl,rfl⟩
  exact ⟨rfl,bl_set hb,KeptBut.set _ _ _ _⟩
 ·refine (bl_check_used b w c0).mono ?_
  rintro e w' ⟨rfl,rfl⟩
  exact ⟨rfl,hb,KeptBut.refl _ _⟩
theorem bl_str:Tryz.prog.underlying 9=some .string:=by kernel_rfl
theorem bl_bytes:Tryz.prog.underlying 39=some (.slice 5):=by kernel_rfl
theorem bl_info:(Tryz.prog.info? 5).map (fun i=>(i.zero,i.size,i.bytes))=some (some (.int .u8 0),1,1):=by kernel_rfl
set_option maxHeartbeats 2000000 in
set_option maxRecDepth 100000 in
theorem bl_write (b:Nat) (p v:Value) (l:List UInt8) (s:ByteArray) (w:World) (hb:w.heap[b]?=some (.cells #[p,v] 59 (0,0))) (hp:p=.pointer none∨p=.pointer (some ⟨b,0,none⟩))
  (hown:w.ownsRow 0 5 1 v l.length (l.map fun x=>Value.int .u8 x.toNat)) (hne:v.ownBlock≠some b) (hlen:l.length+s.size≤1000000):
  Calls Tryz.prog 37 #[.pointer (some ⟨b,0,none⟩),.string s] w fun e w'=>e=.returned (.tuple #[.int .i64 s.size,.nilIface])∧∃ v',
   w'.heap[b]?=some (.cells #[.pointer (some ⟨b,0,none⟩),v'] 59 (0,0))∧w'.ownsRow 0 5 1 v' (l.length+s.size) ((l.map fun x=>Value.int .u8 x.toNat)++Lib.strCells s)∧v'.ownBlock≠some b∧
   (v'.ownBlock=v.ownBlock∨v'.ownBlock=none∨∃ g,v'.ownBlock=some g∧w.heap.size≤g)∧(∀ k,k < w.heap.size→k≠b→some k≠v.ownBlock→w'.heap[k]?=w.heap[k]?)∧
   w.heap.size≤w'.heap.size∧w'.os=w.os∧w'.tape=w.tape∧w'.output=w.output:=by
 obtain ⟨i0,hi,hz0,hz1,hz2⟩:=info_parts bl_info
 have u1:=run_underlying bl_und
 have u2:=run_underlying bl_bytes
 have u3:=run_underlying bl_str
 have hlt0:=bl_lt hb
 go_enter Tryz.func37,Tryz.ntmps37
 go_wp2_with (go_at_call 80;refine (bl_check b p v _ hb hp).mono ?_)
 rintro e w1 ⟨rfl,hb1,hk1⟩
 have hown1:w1.ownsRow 0 5 1 v l.length (l.map fun x=>Value.int .u8 x.toNat):=by
  refine hown.kept (row:=some b) ⟨hk1.os,hk1.tape,hk1.output,by rw [hk1.size];exact Nat.le_refl _,fun k _ hk=>hk1.at_ k fun e=>hk (by rw [e])⟩ (Or.inr hne)
 have c0:w1.cell? ⟨b,0,none⟩=some (.pointer (some ⟨b,0,none⟩)):=by rw [Lib.cell_of_heap hb1];rfl
 have c1:w1.cell? ⟨b,1,none⟩=some v:=by rw [Lib.cell_of_heap hb1];rfl
 go_wp2_with (at_builtin;refine wpList_append_str rfl _ _ 39 9 rfl 5 i0 bl_bytes bl_str hi hz0 hz1 hz2 _ _ _ rfl hown1 s rfl (by omega) ?_)
 intro v' w2 hown' hgrow hblk
 have hlt:b < w1.heap.size:=bl_lt hb1
 have hb2:w2.heap[b]?=some (.cells #[.pointer (some ⟨b,0,none⟩),v] 59 (0,0)):=by
  rw [hgrow.block b hlt (fun e=>hne e.symm)]
  exact hb1
 have d0:w2.cell? ⟨b,0,none⟩=some (.pointer (some ⟨b,0,none⟩)):=by rw [Lib.cell_of_heap hb2];rfl
 have d1:w2.cell? ⟨b,1,none⟩=some v:=by rw [Lib.cell_of_heap hb2];rfl
 have f1:w2.frozen? ⟨b,1,none⟩=false:=Lib.frozen_of_heap hb2 1
 have hne':v'.ownBlock≠some b:=Lib.ownBlock_ne hown' hb2 (by decide)
 have hn':v'=.slice none 0 0∨∃ g cap,v'=.slice (some ⟨g,0,none⟩) (l.length+s.size) cap:=by
  rcases hown'.2 with ⟨hv,_⟩|⟨g,cap,cur,hv,_⟩
  ·exact .inl hv
  ·exact .inr ⟨g,cap,hv⟩
 have hkk:∀ (W:World),KeptBut b w2 W→∀ k,k < w.heap.size→k≠b→some k≠v.ownBlock→W.heap[k]?=w.heap[k]?:=fun W hW k hk hkb hkv=>by
  rw [hW.at_ k hkb,hgrow.block k (by rw [hk1.size];exact hk) hkv,hk1.at_ k hkb]
 have hsz:=hgrow.size
 rw [hk1.size] at hsz
 have hown2:(w2.setCell ⟨b,1,none⟩ v').ownsRow 0 5 1 v' (l.length+s.size) ((l.map fun x=>Value.int .u8 x.toNat)++Lib.strCells s):=by
  have hK:=KeptBut.set b 1 v' w2
  exact hown'.kept (row:=some b) ⟨hK.os,hK.tape,hK.output,by rw [hK.size];exact Nat.le_refl _,fun k _ hk=>hK.at_ k fun e=>hk (by rw [e])⟩ (Or.inr hne')
 have hfin:(w2.setCell ⟨b,1,none⟩ v').heap[b]?=some (.cells #[.pointer (some ⟨b,0,none⟩),v'] 59 (0,0)):=bl_set hb2
 have hsz2:w.heap.size≤(w2.setCell ⟨b,1,none⟩ v').heap.size:=by rw [(KeptBut.set b 1 v' w2).size];exact hsz
 have hblk2:v'.ownBlock=v.ownBlock∨v'.ownBlock=none∨∃ g,v'.ownBlock=some g∧w.heap.size≤g:=by rw [←hk1.size];exact hblk
 have ho1:(w2.setCell ⟨b,1,none⟩ v').os=w.os:=hgrow.os.trans hk1.os
 have ho2:(w2.setCell ⟨b,1,none⟩ v').tape=w.tape:=hgrow.tape.trans hk1.tape
 have ho3:(w2.setCell ⟨b,1,none⟩ v').output=w.output:=hgrow.output.trans hk1.output
 have hfk:=hkk _ (KeptBut.set b 1 v' w2)
 clear hown' hgrow hblk hkk hown hown1
 rcases hn' with rfl|⟨g,cap,rfl⟩
 ·go_wp2
  go_ret2
  exact ⟨rfl,_,hfin,hown2,hne',hblk2,hfk,hsz2,ho1,ho2,ho3⟩
 ·go_wp2
  go_ret2
  exact ⟨rfl,_,hfin,hown2,hne',hblk2,hfk,hsz2,ho1,ho2,ho3⟩
set_option maxHeartbeats 2000000 in
set_option maxRecDepth 100000 in
theorem bl_string (b g cap:Nat) (p:Value) (cur:Array Value) (l:List UInt8) (w:World) (hb:w.heap[b]?=some (.cells #[p,.slice (some ⟨g,0,none⟩) l.length cap] 59 (0,0)))
  (hg:w.heap[g]?=some (.cells cur 5 (0,0))) (h0:l≠[]) (hnc:l.length≤cap) (hcm:cap≤maxLen) (hcs:cur.size=cap) (htake:cur.toList.take l.length=l.map fun x=>Value.int .u8 x.toNat):
  Calls Tryz.prog 40 #[.pointer (some ⟨b,0,none⟩)] w fun e w'=>e=.returned (.string (str l))∧KeptBut g w w':=by
 have hl0:l.length≠0:=by simpa using h0
 have c1:w.drew.cell? ⟨b,1,none⟩=some (.slice (some ⟨g,0,none⟩) l.length cap):=by
  have:w.drew.heap[b]?=some (.cells #[p,.slice (some ⟨g,0,none⟩) l.length cap] 59 (0,0)):=hb
  rw [Lib.cell_of_heap this];rfl
 have hSD:(Builtin.unsafeSliceData_ #[39] 120 #[.slice (some ⟨g,0,none⟩) l.length cap]).run Tryz.prog w.drew=.ok (.pointer (some ⟨g,0,none⟩)) w.drew:=
  Lib.run_unsafeSliceData_row _ _ _ _ _ _ (by omega)
 have hUS:(Builtin.unsafeString_ #[120,3] 9 #[.pointer (some ⟨g,0,none⟩),.int .i64 l.length]).run Tryz.prog w.drew=.ok (.string (str l)) (w.drew.freeze ⟨g,0,none⟩ l.length):=by
  refine Lib.run_unsafeString_row w.drew 120 3 9 5 (by kernel_rfl) (by kernel_rfl) g cur.size (by have hg':w.drew.heap[g]?=some (.cells cur 5 (0,0)):=hg;simp [World.shape?,hg']) l h0 (by omega) (by unfold maxLen at hcm;omega) ?_
  intro j x hx
  have hj:j < l.length:=(List.getElem?_eq_some_iff.1 hx).1
  have h1:(cur.toList.take l.length)[j]?=some (.int .u8 (x.toNat:Int)):=by rw [htake,List.getElem?_map,hx];rfl
  rw [List.getElem?_take,if_pos hj] at h1
  have hg':w.drew.heap[g]?=some (.cells cur 5 (0,0)):=hg
  rw [Addr.add_lit,Nat.zero_add,Lib.cell_of_heap hg']
  simpa using h1
 have mixed:Tryz.prog.follows .mixedOrders=true:=by kernel_rfl
 have u1:=run_underlying bl_und
 have u2:=run_underlying bl_bytes
 have u3:=run_underlying bl_str
 go_enter Tryz.func40,Tryz.ntmps40
 go_wp2
 go_region
 all_goals (go_wp2;go_ret;exact ⟨rfl,kept_freeze _ _ _⟩)
end Go.Proofs
namespace Go.Vc
open Go Go.Proofs Go.RowKit
abbrev BldT (b:Nat) (l:List UInt8) (I:Items):Prop:=Bld 59 5 b l I
section
variable {u v w:World} {L R I:Items} {F:Items→Items} {b:Nat} {l:List UInt8}
theorem c_WriteString {s:ByteArray} (hB:BldT b l I) (hS:St u w L) [p:Pos I L R F] (hlen:l.length+s.size≤1000000):
  Trip Tryz.prog 37 #[.pointer (some ⟨b,0,none⟩),.string s] w fun r w'=>r=.tuple #[.int .i64 s.size,.nilIface]∧∃ I',BldT b (l++s.data.toList) I'∧St u w' (F I'):=by
 obtain ⟨p0,v0,I1,hp,rfl,hrow⟩:=hB
 refine Trip.res (I:=(b,Obj.cells #[p0,v0] 59 (0,0)) ::I1) hS (fun W=>callFunc_enter Tryz.func37 (by kernel_rfl) rfl _ _) (fun r I'=>r=.tuple #[.int .i64 s.size,.nilIface]∧BldT b (l++s.data.toList) I') (fun W hs hA=>?_) (fun r I' w' hq hS'=>⟨hq.1,I',hq.2,hS'⟩)
 have hnd:=hS.nodupI (I:=(b,Obj.cells #[p0,v0] 59 (0,0)) ::I1)
 rw [List.map_cons,List.nodup_cons] at hnd
 have hA1:AtAll W I1:=fun q hq=>hA q (List.mem_cons_of_mem _ hq)
 have hb:=(hA _ (List.mem_cons_self ..)).1
 have hne:v0.ownBlock≠some b:=fun e=>hnd.1 ((hrow.block b).2 e)
 refine (bl_write b p0 v0 l s W hb hp (hrow.owns hA1) hne hlen).mono ?_
 rintro e W' ⟨rfl,v',h1,h2,h3,h4,h5,h6,h7,h8,h9⟩
 have e1:(l++s.data.toList).map (fun x=>Value.int .u8 (x.toNat:Int))=(l.map fun x=>Value.int .u8 (x.toNat:Int))++Lib.strCells s:=by
  rw [List.map_append];rfl
 have e2:(l++s.data.toList).length=l.length+s.size:=by rw [List.length_append,Array.length_toList];rfl
 rw [←e1,←e2] at h2
 obtain ⟨I2,hrow2,hA2⟩:=BRow.of h2
 refine ⟨_,(b,Obj.cells #[.pointer (some ⟨b,0,none⟩),v'] 59 (0,0)) ::I2,rfl,⟨rfl,_,v',I2,.inr rfl,rfl,hrow2⟩,?_,?_,?_,?_,h6,h7,h8,h9⟩
 ·intro q hq
  rcases List.mem_cons.1 hq with rfl|hq
  ·exact ⟨h1,by simp [absent]⟩
  ·exact hA2 q hq
 ·rw [List.map_cons,List.nodup_cons]
  refine ⟨fun hm=>h3 ((hrow2.block b).1 hm),?_⟩
  rcases hrow2 with ⟨_,_,rfl⟩|⟨g,cap,cur,_,rfl,_⟩<;>simp
 ·intro k hk
  rw [List.map_cons] at hk
  rcases List.mem_cons.1 hk with rfl|hk
  ·exact .inl (by simp)
  ·have hk2:=(hrow2.block k).1 hk
   rcases h4 with h4|h4|⟨g,h4,hg⟩
   ·rw [h4] at hk2
    exact .inl (List.mem_cons_of_mem _ ((hrow.block k).2 hk2))
   ·rw [h4] at hk2;cases hk2
   ·rw [h4] at hk2
    cases hk2
    exact .inr hg
 ·intro k hk hkn
  rw [List.map_cons,List.mem_cons,not_or] at hkn
  exact h5 k hk hkn.1 fun e=>hkn.2 ((hrow.block k).2 e.symm)
theorem c_BString (hB:BldT b l I) (hS:St u w L) [p:Pos I L R F] (hl:l≠[]):
  Trip Tryz.prog 40 #[.pointer (some ⟨b,0,none⟩)] w fun r w'=>r=.string (str l)∧St u w' (F []):=by
 obtain ⟨p0,v0,I1,hp,rfl,hrow⟩:=hB
 refine Trip.res (I:=(b,Obj.cells #[p0,v0] 59 (0,0)) ::I1) hS (fun W=>callFunc_enter Tryz.func40 (by kernel_rfl) rfl _ _) (fun r I'=>r=.string (str l)∧I'=[]) (fun W hs hA=>?_) (fun r I' w' hq hS'=>⟨hq.1,by rw [←hq.2];exact hS'⟩)
 rcases hrow with ⟨_,h0,_⟩|⟨g,cap,cur,rfl,rfl,h1,h2,h3,h4⟩
 ·exact absurd h0 hl
 have hb:=(hA _ (List.mem_cons_self ..)).1
 have hg:=(hA (g,.cells cur 5 (0,0)) (by simp)).1
 refine (bl_string b g cap p0 cur l W hb hg hl h1 h2 h3 h4).mono ?_
 rintro e W' ⟨rfl,hk⟩
 refine ⟨_,[],rfl,⟨rfl,rfl⟩,by simp [AtAll],by simp,by simp,fun k _ hkn=>hk.at_ k fun e=>hkn (by simp [e]),by rw [hk.size];exact Nat.le_refl _,hk.os,hk.tape,hk.output⟩
end
end Go.Vc
