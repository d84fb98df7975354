/- Part of the proofs about the heaps and memories: a law is joined in the text whose name ends in W and the law. -/
import Derived.Test.YtelgbndeeccblaaGreatDoorEP5
import Derived.Test.YtelgbndeeccblaaGreatDoorES1
import Derived.WideLaws
set_option linter.all false
namespace Go.Vc
open Go Go.Proofs Go.RowKit
def IfV (v:World) (name:String):Prop:=∃ (tp:TypeId) (p:Value),v.var? Tryz.prog name=some #[.iface tp p]
theorem IfV.mono {v w:World} {name:String} (h:IfV v name) (hs:Sub v w):IfV w name:=by
 unfold IfV World.var? at *
 cases hg:Tryz.prog.globalNamed name with
 | none=>rw [hg] at h;obtain ⟨_,_,h⟩:=h;cases h
 | some g=>
  rw [hg] at h
  simp only [Option.bind_some] at h ⊢
  cases ho:v.heap[g]? with
  | none=>rw [ho] at h;obtain ⟨_,_,h⟩:=h;cases h
  | some o=>
   have hne:o≠absent:=by
    rintro rfl
    rw [ho] at h
    obtain ⟨_,_,h⟩:=h;cases h
   rw [hs.at_ g o ho hne]
   rw [ho] at h
   exact h
def Tab2 (v:World):Prop:=Tab v∧IfV v "strconv.ErrSyntax" ∧IfV v "strconv.ErrRange"
theorem Tab2.mono {v w:World} (h:Tab2 v) (hs:Sub v w):Tab2 w:=⟨h.1.mono hs,h.2.1.mono hs,h.2.2.mono hs⟩
def AscB (l:List UInt8):Prop:=∀ b∈l,b.toNat < 128
theorem AscB.ix {l:List UInt8} (h:AscB l) (j:Nat) (b:UInt8) (hj:l[j]?=some b):b.toNat < 128:=h b (List.mem_of_getElem? hj)
section
variable {u v w:World} {l m:List UInt8}
theorem c_CutPrefix (m:List UInt8):Fn Tryz.prog 112 #[.string (str l),.string (str m)] v (.tuple #[.string (str (Lib.trimPrefix l m)),.bool (Lib.hasPrefix l m)]):=by
 refine ⟨fun w=>callFunc_enter Tryz.func112 (by kernel_rfl) rfl _ _,fun W hs=>?_⟩
 refine (Tryz.strings_CutPrefix (str l) (str m) W).mono ?_
 rintro e W' ⟨rfl,rfl⟩
 refine ⟨_,v,rfl,.refl hs,?_,.refl v⟩
 rw [str_data,str_data];rfl
theorem c_IndexAny (hs:l.length < 4294967281):Fn Tryz.prog 158 #[.string (str l),.string (str [32,41])] v (.int .i64 (Lib.indexAny l [32,41])):=by
 refine ⟨fun w=>callFunc_enter Tryz.func158 (by kernel_rfl) rfl _ _,fun W hsb=>?_⟩
 refine (Tryz.idxAny (str l) W (by rw [str_size];exact hs)).mono ?_
 rintro e W' ⟨rfl,hb⟩
 refine ⟨_,v,rfl,fr_below hsb hb,?_,.refl v⟩
 rw [str_data]
theorem c_TrimRight (hs:l.length < 4294967281) (hm:AscB m) (hms:m.length < 4294967281):Fn Tryz.prog 160 #[.string (str l),.string (str m)] v (.string (str (Lib.trimRightS l m))):=by
 refine ⟨fun w=>callFunc_enter Tryz.func160 (by kernel_rfl) rfl _ _,fun W hsb=>?_⟩
 refine (Tryz.strings_TrimRight_laid (str l) (str m) W (by rw [str_size];omega) (by rw [str_size];exact hms) (by rw [str_data];exact hm.ix)).mono ?_
 rintro e W' ⟨rfl,hb⟩
 refine ⟨_,v,rfl,fr_below hsb hb,?_,.refl v⟩
 rw [str_data,str_data];rfl
def EqNil (y:Vl) (ok:Bool):Prop:=∀ (k:Nat) (w:World),PureT Tryz.prog (do eqGuard .eql 64 (.tmp k) (.const (.nilIface)) (y.x) ((Vl.mk Value.nilIface rfl).x);binOp .eql 64 (y.x) ((Vl.mk Value.nilIface rfl).x)) w (.bool ok)
theorem err_und:Tryz.prog.underlying 64=some (.interface (Tryz.prog.methodsAt 64)):=by kernel_rfl
theorem eqNil_nil:EqNil ⟨Value.nilIface,rfl⟩ true:=by
 intro k w
 refine pure_of (fun W=>?_) rfl
 have h:=run_eql_nil_nil (w:=W) 64 err_und
 simp [eqGuard,h,go_sem]
theorem eqNil_held (t:TypeId) (x:Value):EqNil ⟨Value.iface t x,rfl⟩ false:=by
 intro k w
 refine pure_of (fun W=>?_) rfl
 have h:=run_eql_held_nil (w:=W) 64 t x err_und
 simp [eqGuard,h,go_sem]
def okA (k:Int):Bool:=match Lib.atoiAll (Lib.itoa k) with|.ok m=>decide (m=k)|_=>false
theorem okA_pos:∀ k:Fin 1000,okA k.val=true:=by decide +kernel
theorem okA_neg:∀ k:Fin 1000,okA (-(k.val:Int))=true:=by decide +kernel
theorem okA_dig:∀ k:Fin 1000,((Lib.itoa k.val).all (fun b=>decide (48≤b.toNat∧b.toNat≤57)) && decide (Lib.itoa k.val≠[]))=true:=by decide +kernel
theorem atoi_itoa {n:Int} (h0:-999≤n) (h1:n≤999):Lib.atoiAll (Lib.itoa n)=.ok n:=by
 have h:okA n=true:=by
  rcases Int.lt_or_le n 0 with hn|hn
  ·have:=okA_neg ⟨n.natAbs,by omega⟩
   rwa [show (-((n.natAbs:Nat):Int))=n by omega] at this
  ·have:=okA_pos ⟨n.natAbs,by omega⟩
   rwa [show ((n.natAbs:Nat):Int)=n by omega] at this
 unfold okA at h
 split at h
 ·rename_i m hm
  rw [hm,of_decide_eq_true h]
 ·cases h
theorem itoa_dig {n:Int} (h0:0≤n) (h1:n≤999):(∀ b∈Lib.itoa n,48≤b.toNat∧b.toNat≤57)∧Lib.itoa n≠[]:=by
 have:=okA_dig ⟨n.natAbs,by omega⟩
 rw [Bool.and_eq_true] at this
 rw [show ((n.natAbs:Nat):Int)=n by omega] at this
 exact ⟨fun b hb=>of_decide_eq_true (List.all_eq_true.1 this.1 b hb),of_decide_eq_true this.2⟩
theorem itoa_negC {n:Int} (h0:n < 0):Lib.itoa n=45 ::Lib.itoa (-n):=by
 unfold Lib.itoa
 rw [if_pos h0,if_neg (by omega)]
 congr 2
 omega
def atoiV (l:List UInt8):Int×Bool:=match Lib.atoiAll l with|.ok m=>(m,true)|.range=>(Lib.atoiSat l,false)|_=>(0,false)
theorem atoiV_in (l:List UInt8):InI (atoiV l).1:=by
 unfold atoiV
 split
 ·rename_i m hm;exact Lib.atoiAll_bounds hm
 ·exact Lib.atoiSat_bounds l
 ·exact zero_in
theorem atoiV_itoa {n:Int} (h0:-999≤n) (h1:n≤999):atoiV (Lib.itoa n)=(n,true):=by unfold atoiV;rw [atoi_itoa h0 h1]
theorem c_Atoi (hT:Tab2 v) (hl:l.length≤4294967280):Trip Tryz.prog 93 #[.string (str l)] v fun r w=>∃ y:Vl,r=.tuple #[.int .i64 (atoiV l).1,y.x]∧EqNil y (atoiV l).2∧v=w:=by
 refine ⟨fun w=>callFunc_enter Tryz.func93 (by kernel_rfl) rfl _ _,fun W hsb=>?_⟩
 have hd:=str_data l
 rcases ha:Lib.atoiAll l with m|_|_
 ·
  refine (Tryz.strconv_Atoi_ok (str l) (by rw [str_size];omega) m (by rw [hd];exact ha) W).mono ?_
  rintro e W' ⟨rfl,hb⟩
  refine ⟨_,v,rfl,fr_below hsb ?_,⟨.nilIface,rfl⟩,?_,?_,rfl⟩
  ·rcases hb with rfl|⟨t,rfl⟩
   ·exact Below.refl _ _
   ·exact Lib.bytesWorld_below W _ _
  ·unfold atoiV;rw [ha]
  ·unfold atoiV;rw [ha];exact eqNil_nil
 ·
  obtain ⟨tp,p,hp⟩:=(hT.mono hsb).2.1
  refine (Tryz.strconv_Atoi_syntax_var (str l) (by rw [str_size];omega) (by rw [hd];exact ha) tp p W hp).mono ?_
  rintro e W' ⟨N,rfl,_,_,hb⟩
  refine ⟨_,v,rfl,fr_below hsb hb,⟨.iface 212 (.pointer (some ⟨N,0,none⟩)),rfl⟩,?_,?_,rfl⟩
  ·unfold atoiV;rw [ha]
  ·unfold atoiV;rw [ha];exact eqNil_held _ _
 ·
  obtain ⟨tp,p,hp⟩:=(hT.mono hsb).2.2
  refine (Tryz.strconv_Atoi_range_var (str l) (by rw [str_size];omega) (by rw [hd];exact ha) tp p W hp).mono ?_
  rintro e W' ⟨N,rfl,_,_,hb⟩
  refine ⟨_,v,rfl,fr_below hsb hb,⟨.iface 212 (.pointer (some ⟨N,0,none⟩)),rfl⟩,?_,?_,rfl⟩
  ·unfold atoiV;rw [ha,hd]
  ·unfold atoiV;rw [ha];exact eqNil_held _ _
def tokT (l:List UInt8):List UInt8:=l.takeWhile fun b=>!([32,41]:List UInt8).contains b
theorem idx_take (cs:List UInt8):∀ l:List UInt8,Lib.indexAny l cs=if (l.takeWhile fun b=>!cs.contains b).length=l.length then -1 else ((l.takeWhile fun b=>!cs.contains b).length:Int)
 | []=>rfl
 | b ::r=>by
  rw [Lib.indexAny,idx_take cs r,List.takeWhile_cons]
  cases hc:cs.contains b
  ·simp only [Bool.not_false,if_true,Bool.false_eq_true,if_false,List.length_cons]
   by_cases h:(List.takeWhile (fun b=>!cs.contains b) r).length=r.length
   ·rw [if_pos h,if_pos (by decide),if_pos (by omega)]
   ·rw [if_neg h,if_neg (by rw [beq_iff_eq];omega),if_neg (by omega)]
    omega
  ·simp
theorem takeWhile_le (p:UInt8→Bool) (l:List UInt8):(l.takeWhile p).length≤l.length:=(List.takeWhile_sublist p).length_le
theorem take_while (p:UInt8→Bool) (l:List UInt8):l.take (l.takeWhile p).length=l.takeWhile p:=by
 conv=>lhs;arg 2;rw [←List.takeWhile_append_dropWhile (p:=p) (l:=l)]
 rw [List.take_left'];rfl
theorem takeWhile_all {p:UInt8→Bool} {a r:List UInt8} (ha:∀ b∈a,p b=true) (hr:∀ b,r.head?=some b→p b=false):(a++r).takeWhile p=a:=by
 induction a with
 | nil=>
  cases r with
  | nil=>rfl
  | cons b r=>rw [List.nil_append,List.takeWhile_cons,hr b rfl];rfl
 | cons c a ih=>
  rw [List.cons_append,List.takeWhile_cons,ha c (by simp)]
  simp only [if_true]
  rw [ih fun b hb=>ha b (by simp [hb])]
theorem str_cut {i j:Int} (h0:0≤i) (h1:i≤j) (h2:j≤l.length):strCut (str l) i j=str ((l.take j.toNat).drop i.toNat):=by
 unfold strCut
 apply ByteArray.ext
 apply Array.toList_inj.1
 rw [ByteArray.data_extract,Array.toList_extract,str_data,str_data]
 rw [List.extract_eq_drop_take,List.drop_take]
theorem str_eqB (a:List UInt8) (b:ByteArray) {m:List UInt8} (h:b.data.toList=m):((str a).toList == b.toList)=decide (a=m):=by
 rw [ByteArray.toList_eq,ByteArray.toList_eq,str_data,h]
 rw [Bool.eq_iff_iff]
 simp
end
end Go.Vc
namespace Go.Vc
open Go Go.Proofs Go.RowKit
section
variable {α:Type} [DatO α] [Inhabited α] {u v w:World} {x y z:Sl} {g l:List α} {I J K R L:Items} {F:Items→Items}
theorem OwnD.pushC {P:Program} {t ty:TypeId} {bytes:Nat} {zc:List Value} [hT:SlT P t (Dat.sz α) bytes zc] {cs:List Value} {a:α} (h:OwnD x l I) (hS:St u w (I++(J++R)))
  (hy:Rows w y (Dat.sz α) [cs]) (ho:DatO.own cs a J) (hb:l.length+1≤1099511627776) (hby:bytes≤128) {Q:Value→World→Prop}
  (k:∀ x' w' I',OwnD x' (l++[a]) I'→St u w' (I'++R)→Q x'.val w'):StepT P (Builtin.append_ #[t,t] ty #[x.val,y.val]) w Q:=
 h.push hS hy ho (DatO.read ho (fun z hz=>hS.at_ z (by simp [hz]))) hb hby fun x' w' I' k1 k2=>k x' w' _ k1 (by rw [List.append_assoc];exact k2)
theorem OwnD.add {P:Program} {t ty:TypeId} {bytes:Nat} {zc:List Value} [hT:SlT P t (Dat.sz α) bytes zc] {val:Value} {a:α} (h:OwnD x l I) (hS:St u w (I++(J++R)))
  (hsz:val.cells.size=Dat.sz α) (ho:DatO.own val.cells.toList a J) (hs2:Dat.sz α≤100) (hb:l.length+1≤1099511627776) (hby:bytes≤128) {Q:Sl→World→Prop}
  (k:∀ x' w' I',OwnD x' (l++[a]) I'→St u w' (I'++R)→Q x' w'):
  StepT P (Instr.buildSlice t 1 #[(0,val)]) w fun r w2=>∃ z:Sl,r=z.val∧StepT P (Builtin.append_ #[t,t] ty #[x.val,z.val]) w2 fun r2 w3=>∃ x':Sl,r2=x'.val∧Q x' w3:=by
 refine St.buildR hS (fun v hv=>?_) rfl (by omega) ?_
 ·simp only [List.map_cons,List.map_nil,List.mem_singleton] at hv;rw [hv];exact hsz
 intro x3 w3 I3 hB hS hs _
 refine ⟨_,rfl,?_⟩
 have hy:Rows w3 x3 (Dat.sz α) [val.cells.toList]:=hB.rd hS.items
 have hS2:St u w3 (I++(J++R)):=hS.right
 exact h.pushC hS2 hy ho hb hby fun x' w' I' k1 k2=>⟨x',rfl,k x' w' I' k1 k2⟩end
section
variable {u v w:World} {l m:List UInt8} {a:Addr} {L I J K:Items} {n:Int}
def PSt (u:World) (a:Addr) (L:Items) (l:List UInt8) (n:Int) (w:World):Prop:=∃ I,Cel a [.string (str l),.int .i64 n] I∧St u w (I++L)
theorem PSt.perm {L':Items} (h:PSt u a L l n w) (hp:L'.Perm L):PSt u a L' l n w:=by
 obtain ⟨I,h1,h2⟩:=h
 exact ⟨I,h1,h2.perm (List.Perm.append_left I hp)⟩
theorem PSt.sub (h:PSt u a L l n w):Sub u w:=by
 obtain ⟨I,h1,h2⟩:=h
 exact h2.sub
theorem idx_tok (l:List UInt8):Lib.indexAny l [32,41]=if (tokT l).length=l.length then -1 else ((tokT l).length:Int):=idx_take _ l
theorem ix_str {l:List UInt8} (i:Int) (h0:0≤i) (h1:i < l.length):StrIxOk (str l) i∧strIx (str l) i=((nth l i).toNat:Int):=by
 have hs:(str l).size=l.length:=str_size l
 refine ⟨⟨h0,by rw [hs];exact h1⟩,?_⟩
 unfold strIx
 have hlt:i.toNat < l.length:=by omega
 have e:(str l).data.getD i.toNat 0=nth l i:=by
  unfold str nth
  simp [List.getD,hlt]
 rw [e]
theorem c_token (hl:l.length≤2000000) (h:PSt u a L l n w):Trip Tryz.prog 111 #[.pointer (some (a.add 0))] w fun r w'=>r=.string (str (tokT l))∧PSt u a L (l.drop (tokT l).length) n w':=by
 refine of111 _ _ _ ?_
 unfold vc111
 obtain ⟨I,hC,hS⟩:=h
 have hz:=str_size l
 have hle:(tokT l).length≤l.length:=takeWhile_le _ l
 refine ⟨_,hC.load hS rfl,_,by rw [str_eq (l:=[32,41]) rfl];exact c_IndexAny (by omega),?_,?_⟩
 ·intro hc
  simp only [bls] at hc
  rw [idx_tok] at hc
  have hall:(tokT l).length=l.length:=by
   split at hc
   ·rename_i hh;exact hh
   ·omega
  refine ⟨_,hC.load hS rfl,_,hC.load hS rfl,⟨by omega,by omega,by omega⟩,_,hC.load hS rfl,⟨by omega,by omega⟩,?_⟩
  rw [str_cut (by omega) (by omega) (by omega),str_cut (by omega) (by omega) (by omega)]
  refine hC.store hS (by simp) fun w' I' hC' hS'=>⟨?_,?_⟩
  ·congr 2
   rw [hz,Int.toNat_natCast,←hall]
   show List.take _ l=_
   exact take_while _ l
  ·refine ⟨I',?_,hS'⟩
   rw [hall]
   rw [hz,Int.toNat_natCast,List.take_length] at hC'
   exact hC'
 ·intro hc
  simp only [bls] at hc
  rw [idx_tok] at hc ⊢
  have hlt:¬ (tokT l).length=l.length:=by
   intro hh
   rw [if_pos hh] at hc
   omega
  rw [if_neg hlt] at hc ⊢
  refine ⟨_,hC.load hS rfl,⟨by omega,by omega,?_⟩,_,hC.load hS rfl,⟨by omega,?_⟩,?_⟩
  ·rw [hz];omega
  ·rw [hz];omega
  rw [str_cut (by omega) (by omega) (by omega),str_cut (by omega) (by omega) (by omega)]
  refine hC.store hS (by simp) fun w' I' hC' hS'=>⟨?_,?_⟩
  ·congr 2
   rw [Int.toNat_natCast]
   show List.take _ l=_
   exact take_while _ l
  ·refine ⟨I',?_,hS'⟩
   rw [hz,Int.toNat_natCast,Int.toNat_natCast,List.take_length] at hC'
   exact hC'
theorem c_skipI {b:UInt8} (h:PSt u a L l n w) (hl:l.length≤2000000):Trip Tryz.prog 110 #[.pointer (some (a.add 0)),.int .u8 ((b.toNat:Nat):Int)] w fun r w'=>
  (∃ m,l=b ::m∧r=.bool true∧PSt u a L m n w')∨(l.head?≠some b∧r=.bool false∧PSt u a L l n w'):=by
 refine of110 _ _ _ _ ?_
 unfold vc110
 obtain ⟨I,hC,hS⟩:=h
 have hz:=str_size l
 refine ⟨_,hC.load hS rfl,_,fun _=>hC.load hS rfl,?_,?_,?_⟩
 ·intro hc
  rw [str_eqB l _ (m:=[]) rfl] at hc
  simp only [bls] at hc
  refine ⟨by omega,?_⟩
  rw [hz]
  cases l with
  | nil=>exact absurd rfl hc
  | cons c r=>simp
 ·intro hc
  rw [str_eqB l _ (m:=[]) rfl] at hc
  refine .inr ⟨?_,rfl,I,hC,hS⟩
  cases l with
  | nil=>simp
  | cons c r=>
   simp only [bls] at hc
   have h2:=(ix_str (l:=c ::r) 0 (by omega) (by simp)).2
   rw [h2] at hc
   intro hh
   simp only [List.head?_cons,Option.some.injEq] at hh
   subst hh
   simp [nth] at hc
 ·intro hc
  rw [str_eqB l _ (m:=[]) rfl] at hc
  simp only [bls] at hc
  cases l with
  | nil=>exact absurd rfl hc.1
  | cons c r=>
   have h2:=(ix_str (l:=c ::r) 0 (by omega) (by simp)).2
   rw [h2] at hc
   have hcb:c=b:=UInt8.toNat_inj.1 (by have:=hc.2;simp [nth] at this;omega)
   subst hcb
   refine ⟨_,hC.load hS rfl,⟨by omega,by rw [hz];simp;omega⟩,?_⟩
   rw [str_cut (by omega) (by rw [hz];simp;omega) (by omega)]
   refine hC.store hS (by simp) fun w' I' hC' hS'=>.inl ⟨r,rfl,rfl,I',?_,hS'⟩
   rw [hz,Int.toNat_natCast,List.take_length] at hC'
   exact hC'
end
end Go.Vc
namespace Go.Vc
open Go Go.Proofs Go.RowKit
def digB:List UInt8:=[48,49,50,51,52,53,54,55,56,57]
theorem dig_asc:AscB digB:=by unfold AscB;decide
theorem dig_mem {b:UInt8} (h0:48≤b.toNat) (h1:b.toNat≤57):digB.contains b=true:=by
 have h:∀ k:Fin 10,digB.contains (UInt8.ofNat (48+k.val))=true:=by decide
 have:=h ⟨b.toNat - 48,by omega⟩
 rwa [show 48+(b.toNat - 48)=b.toNat by omega,UInt8.ofNat_toNat] at this
theorem trim_app {w d:List UInt8} (hd:∀ b∈d,digB.contains b=true):Lib.trimRightS (w++d) digB=Lib.trimRightS w digB:=by
 unfold Lib.trimRightS
 rw [List.reverse_append,List.dropWhile_append_of_pos (fun b hb=>hd b (List.mem_reverse.1 hb))]
theorem trim_word:∀ k:Fin 14,Lib.trimRightS (wordE (k.val:Int)) digB=wordE (k.val:Int):=by decide
theorem word_inj:∀ i j:Fin 14,wordE (i.val:Int)=wordE (j.val:Int)→wordE (i.val:Int)≠[]→i=j:=by decide
theorem word_asc:∀ k:Fin 14,∀ b∈wordE (k.val:Int),97≤b.toNat∧b.toNat≤122:=by decide
theorem word_ne:∀ k:Fin 14,k.val≠0→k.val≠12→wordE (k.val:Int)≠[]:=by decide
theorem fin14 {op:Int} (h0:0≤op) (h1:op≤13):∃ k:Fin 14,(k.val:Int)=op:=⟨⟨op.toNat,by omega⟩,by show ((op.toNat:Nat):Int)=op;omega⟩
def headE (op num:Int):List UInt8:=wordE op++(if numE op then Lib.itoa num else [])
def HeadOk (l:List UInt8) (op num:Int) (ok:Bool):Prop:=∀ op0 num0:Int,1≤op0→op0≤13→op0≠12→(if numE op0 then 0≤num0∧num0≤99 else num0=0)→l=headE op0 num0→op=op0∧num=num0∧ok=true
theorem trim_len (l:List UInt8):(Lib.trimRightS l digB).length≤l.length:=by
 unfold Lib.trimRightS
 rw [List.length_reverse]
 exact Nat.le_trans (List.dropWhile_sublist _).length_le (by simp)
theorem trim_head {op num:Int} (h0:0≤op) (h1:op≤13) (hn:if numE op then 0≤num∧num≤99 else num=0):Lib.trimRightS (headE op num) digB=wordE op:=by
 unfold headE
 obtain ⟨k,rfl⟩:=fin14 h0 h1
 rw [trim_app,trim_word k]
 intro b hb
 split at hb
 ·rename_i hq
  rw [if_pos hq] at hn
  have:=(itoa_dig hn.1 (by omega)).1 b hb
  exact dig_mem this.1 this.2
 ·cases hb
section
variable {u v w:World} {l m:List UInt8} {a:Addr} {L I J K:Items} {n:Int}
theorem c_headOf (hT:Tab2 v) (hl:l.length≤2000000):∃ (op num:Int) (ok:Bool),Fn Tryz.prog 113 #[.string (str l)] v (.tuple #[.agg #[.int .i64 op,.int .i64 num,(Sl.mk none 0 0).val],.bool ok])∧InI op∧InI num∧HeadOk l op num ok:=by
 have hz:=str_size l
 have hnl:=trim_len l
 by_cases hm:∃ k:Fin 14,wordE (k.val:Int)≠[]∧wordE (k.val:Int)=Lib.trimRightS l digB
 ·obtain ⟨k,k1,k2⟩:=hm
  have hk0:1≤k.val:=by
   rcases Nat.eq_zero_or_pos k.val with h|h
   ·rw [h] at k1;exact absurd rfl k1
   ·exact h
  have hk1:=k.isLt
  refine ⟨k.val,if numE (k.val:Int) then (atoiV (l.drop (wordE (k.val:Int)).length)).1 else 0,if numE (k.val:Int) then (atoiV (l.drop (wordE (k.val:Int)).length)).2 else decide (l=wordE (k.val:Int)),?_,⟨by omega,by omega⟩,?_,?_⟩
  ·refine of113 _ _ _ ?_
   unfold vc113
   refine ⟨_,by rw [str_eq (l:=digB) rfl];exact c_TrimRight (by omega) dig_asc (by decide),?_⟩
   rw [←k2]
   have hz2:=str_size (wordE (k.val:Int))
   refine ⟨fun i w=>Sub v w∧1≤i∧i≤k.val,fun i _=>(14 - i).toNat,⟨.refl v,by omega,by omega⟩,?_⟩
   rintro i w ⟨hs,i0,i1⟩
   dsimp only
   refine ⟨fun hi=>⟨_,_,c_exprWords,?_⟩,fun hi=>?_⟩
   ·rw [str_eqB _ _ (m:=[]) rfl,str_eqB _ _ (m:=wordE (k.val:Int)) (str_data _)]
    obtain ⟨j,hj⟩:=fin14 (op:=i) (by omega) (by omega)
    refine ⟨fun hc=>?_,fun hc=>?_⟩
    ·simp only [bls] at hc
     refine go_wr (by omega) (by omega) ?_
     refine ⟨rfl,rfl,rfl,⟨hs,by omega,?_⟩,by omega⟩
     have:i≠k.val:=by
      rintro rfl
      rcases hc with hc|hc
      ·exact k1 hc
      ·exact hc rfl
     omega
    ·simp only [bls] at hc
     have hik:i=k.val:=by
      rw [←hj] at hc ⊢
      rw [word_inj j k hc.2 hc.1]
     subst hik
     refine ⟨fun hq=>?_,fun hq=>?_⟩
     ·simp only [bls] at hq
      rw [if_neg (by rw [hq];decide),if_neg (by rw [hq];decide),str_eqB _ _ (m:=wordE (k.val:Int)) (str_data _)]
      exact ⟨rfl,hs⟩
     ·simp only [bls] at hq
      rw [if_pos hq,if_pos hq]
      refine ⟨⟨by omega,by rw [hz,hz2,k2];omega⟩,?_⟩
      rw [str_cut (by omega) (by rw [hz,hz2,k2];omega) (by omega),hz,hz2,Int.toNat_natCast,Int.toNat_natCast,List.take_length]
      refine (c_Atoi (hT.mono hs) (by rw [List.length_drop];omega)).mono' ?_
      rintro _ _ ⟨y,rfl,hy,rfl⟩
      exact ⟨_,y,rfl,⟨_,hy _ _,rfl,hs⟩,_,hy _ _,rfl,hs⟩
   ·simp only [bls] at hi
    omega
  ·split
   ·exact atoiV_in _
   ·exact zero_in
  ·intro op0 num0 h1 h2 h3 h4 h5
   obtain ⟨j,rfl⟩:=fin14 (op:=op0) (by omega) h2
   have ht:=trim_head (by omega) h2 h4
   rw [←h5,←k2] at ht
   have hjk:k=j:=word_inj k j ht k1
   subst hjk
   refine ⟨rfl,?_⟩
   by_cases hq:numE (k.val:Int)=true
   ·rw [if_pos hq] at h4
    rw [if_pos hq,if_pos hq,h5]
    unfold headE
    rw [if_pos hq,List.drop_left' rfl,atoiV_itoa (by omega) (by omega)]
    exact ⟨rfl,rfl⟩
   ·rw [if_neg hq] at h4
    rw [if_neg hq,if_neg hq,h5]
    unfold headE
    rw [if_neg hq,List.append_nil]
    exact ⟨h4.symm,by simp⟩
 ·refine ⟨0,0,false,?_,zero_in,zero_in,?_⟩
  ·refine of113 _ _ _ ?_
   unfold vc113
   refine ⟨_,by rw [str_eq (l:=digB) rfl];exact c_TrimRight (by omega) dig_asc (by decide),?_⟩
   refine ⟨fun i w=>Sub v w∧1≤i∧i≤14,fun i _=>(14 - i).toNat,⟨.refl v,by omega,by omega⟩,?_⟩
   rintro i w ⟨hs,i0,i1⟩
   dsimp only
   refine ⟨fun hi=>⟨_,_,c_exprWords,?_⟩,fun hi=>⟨rfl,hs⟩⟩
   rw [str_eqB _ _ (m:=[]) rfl,str_eqB _ _ (m:=Lib.trimRightS l digB) (str_data _)]
   simp only [bls] at hi
   obtain ⟨j,hj⟩:=fin14 (op:=i) (by omega) (by omega)
   refine ⟨fun hc=>?_,fun hc=>?_⟩
   ·refine go_wr (by omega) (by omega) ?_
    exact ⟨rfl,rfl,rfl,⟨hs,by omega,by omega⟩,by omega⟩
   ·simp only [bls] at hc
    rw [←hj] at hc
    exact absurd ⟨j,hc.1,hc.2⟩ hm
  ·intro op0 num0 h1 h2 h3 h4 h5
   obtain ⟨j,rfl⟩:=fin14 (op:=op0) (by omega) h2
   have ht:=trim_head (by omega) h2 h4
   rw [←h5] at ht
   exact absurd ⟨j,word_ne j (by omega) (by omega),ht.symm⟩ hm
def StopB (rest:List UInt8):Prop:=∀ b,rest.head?=some b→b=32∨b=41
def GhE (l:List UInt8) (n:Int) (e:ExprD) (ok:Bool) (l':List UInt8) (n':Int):Prop:=
 ∀ (e0:ExprD) (rest:List UInt8),canE e0=true→l=showE e0++rest→StopB rest→n+nodesE e0≤30→e=e0∧ok=true∧l'=rest∧n'=n+nodesE e0
def PX (u:World) (a:Addr) (L:Items) (l:List UInt8) (n:Int) (r:Value) (w:World):Prop:=
 ∃ (e:ExprD) (x:Sl) (ok:Bool) (l':List UInt8) (n':Int) (J:Items),r=.tuple #[.agg #[.int .i64 e.op,.int .i64 e.num,x.val],.bool ok]∧OwnD x e.kids J∧InI e.op∧InI e.num∧PSt u a (J++L) l' n' w∧
  (∃ pre,l=pre++l')∧n < n'∧n'+l'.length≤n+1+l.length∧(ok=true→l≠[])∧GhE l n e ok l' n'
theorem tok_stop {a rest:List UInt8} (ha:∀ b∈a,b≠32∧b≠41) (hr:StopB rest):tokT (a++rest)=a:=by
 refine takeWhile_all (fun b hb=>?_) fun b hb=>?_
 ·have:=ha b hb
  simp [this.1,this.2]
 ·rcases hr b hb with rfl|rfl<;>decide
theorem not_sp {b:UInt8} (h0:44≤b.toNat):b≠32∧b≠41:=by
 constructor<;>(rintro rfl;exact absurd h0 (by decide))
theorem itoa_byte {n:Int} (h0:-999≤n) (h1:n≤999):(∀ b∈Lib.itoa n,45≤b.toNat∧b.toNat≤57)∧Lib.itoa n≠[]:=by
 rcases Int.lt_or_le n 0 with h|h
 ·rw [itoa_negC h]
  refine ⟨fun b hb=>?_,by simp⟩
  rcases List.mem_cons.1 hb with rfl|hb
  ·exact ⟨by decide,by decide⟩
  ·have:=(itoa_dig (n:=-n) (by omega) (by omega)).1 b hb
   omega
 ·have:=itoa_dig (n:=n) h h1
  exact ⟨fun b hb=>by have:=this.1 b hb;omega,this.2⟩
theorem head_byte {op num:Int} (h0:1≤op) (h1:op≤13) (hn:if numE op then 0≤num∧num≤99 else num=0):∀ b∈headE op num,45≤b.toNat:=by
 intro b hb
 unfold headE at hb
 rcases List.mem_append.1 hb with hb|hb
 ·obtain ⟨k,rfl⟩:=fin14 (op:=op) (by omega) h1
  have:=word_asc k b hb
  omega
 ·split at hb
  ·rename_i hq
   rw [if_pos hq] at hn
   have:=(itoa_dig hn.1 (by omega)).1 b hb
   omega
  ·cases hb
theorem can_cases {e:ExprD} (h:canE e=true):(e.op=0∧e.kids=[]∧-999≤e.num∧e.num≤999∧showE e=Lib.itoa e.num)∨(e.op=12∧e.kids=[]∧0≤e.num∧e.num≤99∧showE e=118 ::Lib.itoa e.num)∨
  (1≤e.op∧e.op≤13∧e.op≠12∧(if numE e.op then 0≤e.num∧e.num≤99 else e.num=0)∧canL e.kids=true∧showE e=40 ::(headE e.op e.num++(showL e.kids++[41]))):=by
 rw [canE_eq,Bool.and_eq_true] at h
 obtain ⟨h1,h2⟩:=h
 unfold okN at h1
 rw [showE_eq]
 by_cases c0:e.op=0
 ·rw [if_pos c0] at h1 ⊢
  simp only [bls] at h1
  exact .inl ⟨c0,List.eq_nil_of_length_eq_zero h1.1.1,h1.1.2,h1.2,rfl⟩
 ·rw [if_neg c0] at h1 ⊢
  by_cases c1:e.op=12
  ·rw [if_pos c1] at h1 ⊢
   simp only [bls] at h1
   exact .inr (.inl ⟨c1,List.eq_nil_of_length_eq_zero h1.1.1,h1.1.2,h1.2,rfl⟩)
  ·rw [if_neg c1] at h1 ⊢
   simp only [bls] at h1
   refine .inr (.inr ⟨h1.1.1,h1.1.2,c1,?_,h2,?_⟩)
   ·have:=h1.2
    split at this
    ·rename_i hq;rw [if_pos hq];simpa only [bls] using this
    ·rename_i hq;rw [if_neg hq];simpa only [bls] using this
   ·unfold headE
    simp only [List.append_assoc]
end
end Go.Vc
namespace Go.Vc
open Go Go.Proofs Go.RowKit
def lenAt (w:World) (a:Addr):Nat:=match w.cell? (a.add 0) with
 | some (.string s)=>s.size
 | _=>0
section
variable {u v w:World} {l m:List UInt8} {a:Addr} {L I J K:Items} {n:Int}
theorem PSt.len (h:PSt u a L l n w):lenAt w a=l.length:=by
 obtain ⟨I,hC,hS⟩:=h
 unfold lenAt
 rw [hC.load hS (k:=0) rfl]
 exact str_size l
theorem trimP_len (t p:List UInt8):(Lib.trimPrefix t p).length≤t.length:=by
 unfold Lib.trimPrefix
 split
 ·rw [List.length_drop];omega
 ·exact Nat.le_refl _
theorem hasP_118 (t:List UInt8):Lib.hasPrefix t [118]=decide (t.head?=some 118):=by
 unfold Lib.hasPrefix
 cases t with
 | nil=>rfl
 | cons c r=>
  rw [Bool.eq_iff_iff]
  simp [List.isPrefixOf]
  exact eq_comm
theorem gh_leaf (hne:l.head?≠some 40):∀ (e0:ExprD) (rest:List UInt8),canE e0=true→l=showE e0++rest→StopB rest→
  nodesE e0=1∧l.drop (tokT l).length=rest∧e0.kids=[]∧((e0.op=0∧tokT l=Lib.itoa e0.num∧-999≤e0.num∧e0.num≤999∧(tokT l).head?≠some 118)∨(e0.op=12∧tokT l=118 ::Lib.itoa e0.num∧0≤e0.num∧e0.num≤99)):=by
 intro e0 rest h1 h2 h3
 have hn:∀ {e:ExprD},e.kids=[]→nodesE e=1:=fun h=>by rw [nodesE_eq,h,nodesL_nil]
 rcases can_cases h1 with ⟨k1,k2,k3,k4,k5⟩|⟨k1,k2,k3,k4,k5⟩|⟨k1,k2,k3,k4,k5,k6⟩
 ·rw [k5] at h2
  have hb:=itoa_byte k3 k4
  have ht:tokT l=Lib.itoa e0.num:=by rw [h2];exact tok_stop (fun b hb'=>not_sp (by have:=hb.1 b hb';omega)) h3
  refine ⟨hn k2,?_,k2,.inl ⟨k1,ht,k3,k4,?_⟩⟩
  ·rw [ht,h2,List.drop_left' rfl]
  ·rw [ht]
   intro hh
   have:=hb.1 118 (List.mem_of_mem_head? hh)
   exact absurd this.2 (by decide)
 ·rw [k5] at h2
  have hb:=itoa_byte (n:=e0.num) (by omega) (by omega)
  have ht:tokT l=118 ::Lib.itoa e0.num:=by
   rw [h2]
   refine tok_stop (fun b hb'=>not_sp ?_) h3
   rcases List.mem_cons.1 hb' with rfl|hb'
   ·decide
   ·have:=hb.1 b hb';omega
  refine ⟨hn k2,?_,k2,.inr ⟨k1,ht,k3,k4⟩⟩
  rw [ht,h2,List.drop_left' rfl]
 ·rw [k6] at h2
  rw [h2] at hne
  exact absurd rfl hne
theorem expr_ext {e:ExprD} {op num:Int} (h1:e.op=op) (h2:e.num=num) (h3:e.kids=[]):(⟨op,num,[]⟩:ExprD)=e:=by
 cases e;simp only [ExprD.op,ExprD.num,ExprD.kids] at *;subst h1;subst h2;subst h3;rfl
theorem gh_var (hne:l.head?≠some 40) (hv:Lib.hasPrefix (tokT l) [118]=true):GhE l n ⟨12,(atoiV (Lib.trimPrefix (tokT l) [118])).1,[]⟩ (atoiV (Lib.trimPrefix (tokT l) [118])).2 (l.drop (tokT l).length) (n+1):=by
 intro e0 rest h1 h2 h3 h4
 obtain ⟨g1,g2,g3,g4⟩:=gh_leaf hne e0 rest h1 h2 h3
 rcases g4 with ⟨k1,k2,k3,k4,k5⟩|⟨k1,k2,k3,k4⟩
 ·rw [hasP_118,decide_eq_true_eq] at hv
  exact absurd hv k5
 ·have ht:Lib.trimPrefix (tokT l) [118]=Lib.itoa e0.num:=by
   unfold Lib.trimPrefix
   rw [hv,if_pos rfl,k2]
   rfl
  rw [ht,atoiV_itoa (by omega) (by omega)]
  exact ⟨expr_ext k1 rfl g3,rfl,g2,by rw [g1];rfl⟩
theorem gh_int (hne:l.head?≠some 40) (hv:Lib.hasPrefix (tokT l) [118]=false):GhE l n ⟨0,(atoiV (tokT l)).1,[]⟩ (atoiV (tokT l)).2 (l.drop (tokT l).length) (n+1):=by
 intro e0 rest h1 h2 h3 h4
 obtain ⟨g1,g2,g3,g4⟩:=gh_leaf hne e0 rest h1 h2 h3
 rcases g4 with ⟨k1,k2,k3,k4,k5⟩|⟨k1,k2,k3,k4⟩
 ·rw [k2,atoiV_itoa k3 k4,←k2]
  exact ⟨expr_ext k1 rfl g3,rfl,g2,by rw [g1];rfl⟩
 ·rw [hasP_118,decide_eq_false_iff_not,k2] at hv
  exact absurd rfl hv
def GhL (m:List UInt8) (n:Int) (op num:Int) (ks:List ExprD) (q:Bool) (l1:List UInt8) (n1:Int):Prop:=
 ∀ (e0:ExprD) (rest:List UInt8),canE e0=true→40 ::m=showE e0++rest→StopB rest→n+nodesE e0≤30→
  ∃ todo,e0.op=op∧e0.num=num∧e0.kids=ks++todo∧q=true∧l1=showL todo++41 ::rest∧n1=n+1+nodesL ks∧canL todo=true
theorem stop_kids (todo:List ExprD) (rest:List UInt8):StopB (showL todo++41 ::rest):=by
 intro b hb
 cases todo with
 | nil=>rw [showL_nil] at hb;simp at hb;exact .inr hb.symm
 | cons k r=>rw [showL_cons] at hb;simp at hb;exact .inl hb.symm
theorem ghl_start {op num:Int} {ok:Bool} (hH:HeadOk (tokT m) op num ok):GhL m n op num [] ok (m.drop (tokT m).length) (n+1):=by
 intro e0 rest h1 h2 h3 h4
 rcases can_cases h1 with ⟨k1,k2,k3,k4,k5⟩|⟨k1,k2,k3,k4,k5⟩|⟨k1,k2,k3,k4,k5,k6⟩
 ·rw [k5] at h2
  have hb:=itoa_byte k3 k4
  cases hi:Lib.itoa e0.num with
  | nil=>exact absurd hi hb.2
  | cons c r=>
   rw [hi,List.cons_append] at h2
   have:=hb.1 c (by rw [hi];simp)
   rw [←(List.cons.inj h2).1] at this
   exact absurd this.1 (by decide)
 ·rw [k5,List.cons_append] at h2
  exact absurd (List.cons.inj h2).1 (by decide)
 ·rw [k6,List.cons_append] at h2
  have hm:=(List.cons.inj h2).2
  have hm:m=headE e0.op e0.num++(showL e0.kids++41 ::rest):=by rw [hm];simp only [List.append_assoc,List.singleton_append]
  have ht:tokT m=headE e0.op e0.num:=by
   rw [hm]
   exact tok_stop (fun b hb=>not_sp (by have:=head_byte k1 k2 k4 b hb;omega)) (stop_kids _ _)
  obtain ⟨g1,g2,g3⟩:=hH e0.op e0.num k1 k2 k3 k4 ht
  refine ⟨e0.kids,g1.symm,g2.symm,rfl,g3,?_,by rw [nodesL_nil];omega,k5⟩
  rw [ht]
  conv=>lhs;arg 2;rw [hm]
  exact List.drop_left' rfl
theorem ghl_step {op num n1 n3:Int} {ks:List ExprD} {q2:Bool} {e:ExprD} {l2 l3:List UInt8} (h:GhL m n op num ks true (32 ::l2) n1) (hG:GhE l2 n1 e q2 l3 n3):GhL m n op num (ks++[e]) q2 l3 n3:=by
 intro e0 rest h1 h2 h3 h4
 obtain ⟨todo,g1,g2,g3,g4,g5,g6,g7⟩:=h e0 rest h1 h2 h3 h4
 cases todo with
 | nil=>rw [showL_nil] at g5;exact absurd (List.cons.inj g5).1 (by decide)
 | cons k r=>
  rw [showL_cons,List.cons_append] at g5
  have g5:=(List.cons.inj g5).2
  rw [canL_cons,Bool.and_eq_true] at g7
  rw [List.append_assoc] at g5
  obtain ⟨t1,t2,t3,t4⟩:=hG k _ g7.1 g5 (stop_kids _ _) (by
   rw [nodesE_eq,g3,nodesL_app,nodesL_cons] at h4
   omega)
  subst t1
  exact ⟨r,g1,g2,by rw [g3];simp,t2,t3,by rw [nodesL_app,nodesL_cons,nodesL_nil];omega,g7.2⟩
theorem ghl_end {op num n1:Int} {ks:List ExprD} {l2:List UInt8} (h:GhL m n op num ks true (41 ::l2) n1):GhE (40 ::m) n ⟨op,num,ks⟩ true l2 n1:=by
 intro e0 rest h1 h2 h3 h4
 obtain ⟨todo,g1,g2,g3,g4,g5,g6,g7⟩:=h e0 rest h1 h2 h3 h4
 cases todo with
 | nil=>
  rw [showL_nil] at g5
  rw [List.append_nil] at g3
  refine ⟨?_,rfl,(List.cons.inj g5).2,by rw [nodesE_eq,g3];omega⟩
  rw [←g1,←g2,←g3]
  exact e0.eta
 | cons k r=>rw [showL_cons] at g5;exact absurd (List.cons.inj g5).1 (by decide)
theorem ghl_bad {op num n1:Int} {ks:List ExprD} {q q':Bool} {l1 l2:List UInt8} (h:GhL m n op num ks q l1 n1) (hb:q=false∨(l1.head?≠some 32∧l1.head?≠some 41)) {n2:Int}:GhE (40 ::m) n ⟨op,num,ks⟩ q' l2 n2:=by
 intro e0 rest h1 h2 h3 h4
 obtain ⟨todo,g1,g2,g3,g4,g5,g6,g7⟩:=h e0 rest h1 h2 h3 h4
 rcases hb with hb|hb
 ·rw [hb] at g4;cases g4
 ·cases todo with
  | nil=>rw [showL_nil] at g5;rw [g5] at hb;exact absurd rfl hb.2
  | cons k r=>rw [showL_cons] at g5;rw [g5] at hb;exact absurd rfl hb.1
theorem c_pexpr:∀ (k:Nat) {u w:World} {l:List UInt8} {a:Addr} {L:Items} {n:Int},Tab2 u→l.length < k→l.length≤2000000→0≤n→n+l.length≤3000000→PSt u a L l n w→Trip Tryz.prog 59 #[.pointer (some (a.add 0))] w (PX u a L l n):=by
 intro k
 induction k with
 | zero=>intro u w l a L n hT hk;omega
 | succ k ih=>
 intro u w l a L n hT hk hl h0 h1 h
 refine of59 _ _ _ ?_
 unfold vc59
 obtain ⟨I,hC,hS⟩:=h
 refine ⟨_,hC.load hS rfl,?_⟩
 refine go_wr (by omega) (by omega) ?_
 refine hC.store hS (by simp) fun w1 I1 hC1 hS1=>?_
 have hP:PSt u a L l (n+1) w1:=⟨I1,hC1,hS1⟩
 refine ⟨_,hC1.load hS1 rfl,fun hc=>?_,fun hc=>?_⟩
 ·simp only [bls] at hc
  refine ⟨⟨0,0,[]⟩,⟨none,0,0⟩,false,l,n+1,[],rfl,OwnD.nil,zero_in,zero_in,hP,⟨[],rfl⟩,by omega,by omega,(fun h=>by cases h),?_⟩
  intro e0 rest _ _ _ h4
  have:=nodes_pos e0
  omega
 ·refine (c_skipI (b:=40) hP hl).mono' ?_
  rintro _ w2 (⟨m,rfl,rfl,hP2⟩|⟨hne,rfl,hP2⟩)
  ·refine ⟨_,rfl,fun h=>(by cases h),fun _=>?_⟩
   simp only [List.length_cons] at hk hl h1
   refine (c_token (by omega) hP2).mono' ?_
   rintro _ w3 ⟨rfl,hP3⟩
   have htl:(tokT m).length≤m.length:=takeWhile_le _ m
   obtain ⟨op,num,ok,hF,i1,i2,hH⟩:=c_headOf (v:=w3) (l:=tokT m) (hT.mono hP3.sub) (by omega)
   refine ⟨_,rfl,op,num,⟨none,0,0⟩,ok,hF,?_⟩
   have hG0:=ghl_start (n:=n) hH
   refine ⟨fun q x w=>∃ (ks:List ExprD) (l1:List UInt8) (n1:Int) (K:Items),OwnD x ks K∧PSt u a (K++L) l1 n1 w∧(∃ pre,40 ::m=pre++l1)∧n+1≤n1∧n1+l1.length≤n+1+m.length∧ks.length+l1.length≤m.length∧GhL m n op num ks q l1 n1,fun _ _ w=>lenAt w a,?_,?_⟩
   ·refine ⟨[],_,_,[],OwnD.nil,hP3,⟨40 ::m.take (tokT m).length,by rw [List.cons_append,List.take_append_drop]⟩,by omega,?_,?_,hG0⟩
    ·rw [List.length_drop];omega
    ·rw [List.length_drop];simp
   rintro q x w4 ⟨ks,l1,n1,K,hO,hP4,⟨pre,hpre⟩,hn1,hb1,hkl,hG⟩
   dsimp only
   refine ⟨fun hq=>?_,fun hq=>?_⟩
   ·subst hq
    refine (c_skipI (b:=32) hP4 (by omega)).mono' ?_
    rintro _ w5 (⟨l2,rfl,rfl,hP5⟩|⟨hne,rfl,hP5⟩)
    ·refine ⟨_,rfl,fun _=>?_,fun h=>by cases h⟩
     simp only [List.length_cons] at hb1 hkl
     refine (ih hT (by omega) (by omega) (by omega) (by omega) hP5).mono' ?_
     rintro _ w6 ⟨e,x2,ok2,l3,n3,J,rfl,hO2,j1,j2,hP6,⟨pre2,hpre2⟩,hn3,hb3,_,hG2⟩
     refine ⟨_,_,x2,_,rfl,?_⟩
     obtain ⟨I6,hC6,hS6⟩:=hP6
     have hl3:l3.length≤l2.length:=by rw [hpre2,List.length_append];omega
     refine OwnD.add (a:=e) (J:=J) (R:=I6++L) hO (hS6.perm (by
      classical
      exact List.perm_iff_count.2 fun a=>by simp only [List.count_append];omega)) rfl (expr_own.2 ⟨x2,rfl,j1,j2,hO2⟩) (by decide) (by omega) (by decide) ?_
     intro x7 w7 K7 hO7 hS7
     have hP7:PSt u a (K7++L) l3 n3 w7:=⟨I6,hC6,hS7.perm (by
      classical
      exact List.perm_iff_count.2 fun a=>by simp only [List.count_append];omega)⟩
     refine ⟨rfl,rfl,rfl,rfl,rfl,⟨ks++[e],l3,n3,K7,hO7,hP7,⟨pre++(32 ::pre2),by rw [hpre,hpre2];simp⟩,by omega,by omega,?_,ghl_step hG hG2⟩,?_⟩
     ·simp only [List.length_append,List.length_cons,List.length_nil];omega
     ·rw [hP7.len,hP4.len,List.length_cons];omega
    ·refine ⟨_,rfl,fun h=>(by cases h),fun _=>⟨fun _=>?_,fun h=>by cases h⟩⟩
     refine (c_skipI (b:=41) hP5 (by omega)).mono' ?_
     rintro _ w6 (⟨l2,rfl,rfl,hP6⟩|⟨hne2,rfl,hP6⟩)
     ·have hE:PX u a L (40 ::m) n (.tuple #[.agg #[.int .i64 op,.int .i64 num,x.val],.bool true]) w6:=by
       simp only [List.length_cons] at hb1 hkl
       exact ⟨⟨op,num,ks⟩,x,true,l2,n1,K,rfl,hO,i1,i2,hP6,⟨pre++[41],by rw [hpre];simp⟩,by omega,by simp only [List.length_cons];omega,fun _=>by simp,ghl_end hG⟩
      exact ⟨_,rfl,hE,hE⟩
     ·have hE:PX u a L (40 ::m) n (.tuple #[.agg #[.int .i64 op,.int .i64 num,x.val],.bool false]) w6:=
       ⟨⟨op,num,ks⟩,x,false,l1,n1,K,rfl,hO,i1,i2,hP6,⟨pre,hpre⟩,by omega,by simp only [List.length_cons];omega,fun _=>by simp,ghl_bad hG (.inr ⟨hne,hne2⟩)⟩
      exact ⟨_,rfl,hE,hE⟩
   ·subst hq
    have hE:PX u a L (40 ::m) n (.tuple #[.agg #[.int .i64 op,.int .i64 num,x.val],.bool false]) w4:=
     ⟨⟨op,num,ks⟩,x,false,l1,n1,K,rfl,hO,i1,i2,hP4,⟨pre,hpre⟩,by omega,by simp only [List.length_cons];omega,fun _=>by simp,ghl_bad hG (.inl rfl)⟩
    exact ⟨fun h=>(by cases h),fun _=>⟨hE,hE⟩⟩
  ·refine ⟨_,rfl,fun _=>?_,fun h=>by cases h⟩
   refine (c_token hl hP2).mono' ?_
   rintro _ w3 ⟨rfl,hP3⟩
   have htl:(tokT l).length≤l.length:=takeWhile_le _ l
   have hd:(l.drop (tokT l).length).length≤l.length:=by rw [List.length_drop];omega
   refine ⟨_,rfl,_,_,by rw [str_eq (l:=[118]) rfl];exact c_CutPrefix _,fun hv=>?_,fun hv=>?_⟩
   ·refine (c_Atoi (hT.mono hP3.sub) (by have:=trimP_len (tokT l) [118];omega)).mono' ?_
    rintro _ _ ⟨y,rfl,hy,rfl⟩
    have hE:PX u a L l n (.tuple #[.agg #[.int .i64 12,.int .i64 (atoiV (Lib.trimPrefix (tokT l) [118])).1,.slice none 0 0],.bool (atoiV (Lib.trimPrefix (tokT l) [118])).2]) w3:=
     ⟨⟨12,_,[]⟩,⟨none,0,0⟩,_,_,n+1,[],rfl,OwnD.nil,(show InI 12 from ⟨by decide,by decide⟩),atoiV_in _,hP3,⟨l.take (tokT l).length,(List.take_append_drop _ _).symm⟩,by omega,by omega,(fun h=>by rintro rfl;cases hv),gh_var hne hv⟩
    exact ⟨_,y,rfl,⟨_,hy _ _,hE⟩,_,hy _ _,hE⟩
   ·refine (c_Atoi (hT.mono hP3.sub) (by omega)).mono' ?_
    rintro _ _ ⟨y,rfl,hy,rfl⟩
    have hE:PX u a L l n (.tuple #[.agg #[.int .i64 0,.int .i64 (atoiV (tokT l)).1,.slice none 0 0],.bool (atoiV (tokT l)).2]) w3:=
     ⟨⟨0,_,[]⟩,⟨none,0,0⟩,_,_,n+1,[],rfl,OwnD.nil,zero_in,atoiV_in _,hP3,⟨l.take (tokT l).length,(List.take_append_drop _ _).symm⟩,by omega,by omega,(fun h=>by rintro rfl;cases h),gh_int hne hv⟩
    exact ⟨_,y,rfl,⟨_,hy _ _,hE⟩,_,hy _ _,hE⟩
end
end Go.Vc
namespace Go.Vc
open Go Go.Proofs Go.RowKit
def PE (l:List UInt8) (e:ExprD) (ok:Bool):Prop:=
 (ok=true∧canE e=true∧nodesE e≤30∧showE e=l∧∀ e0:ExprD,canE e0=true→nodesE e0≤30→showE e0=l→e0=e)∨
 (ok=false∧e=⟨0,0,[]⟩∧∀ e0:ExprD,canE e0=true→nodesE e0≤30→showE e0≠l)
theorem PE.same {l:List UInt8} {e e':ExprD} {ok ok':Bool} (h:PE l e ok) (h':PE l e' ok'):e=e'∧ok=ok':=by
 rcases h with ⟨h1,h2,h3,h4,h5⟩|⟨h1,h2,h3⟩<;>rcases h' with ⟨k1,k2,k3,k4,k5⟩|⟨k1,k2,k3⟩
 ·exact ⟨(h5 e' k2 k3 k4).symm,by rw [h1,k1]⟩
 ·exact absurd h4 (k3 e h2 h3)
 ·exact absurd k4 (h3 e' k2 k3)
 ·exact ⟨by rw [h2,k2],by rw [h1,k1]⟩
theorem PE.ok {l:List UInt8} {e e0:ExprD} {ok:Bool} (h:PE l e ok) (h1:canE e0=true) (h2:nodesE e0≤30) (h3:showE e0=l):e=e0∧ok=true:=by
 rcases h with ⟨k1,k2,k3,k4,k5⟩|⟨k1,k2,k3⟩
 ·exact ⟨(k5 e0 h1 h2 h3).symm,k1⟩
 ·exact absurd h3 (k3 e0 h1 h2)
theorem fmtE_ne {e:ExprD} (h:fmtE e≠[]):canE e=true∧nodesE e≤30∧fmtE e=showE e:=by
 have hc:nodesE e≤30∧canE e=true:=Classical.byContradiction fun hh=>h (by unfold fmtE;rw [if_neg hh])
 exact ⟨hc.2,hc.1,by unfold fmtE;rw [if_pos hc]⟩
theorem fmtE_eq {e:ExprD} (h1:canE e=true) (h2:nodesE e≤30):fmtE e=showE e:=by unfold fmtE;rw [if_pos ⟨h2,h1⟩]
section
variable {u v w:World} {l m:List UInt8} {a:Addr} {L I J K:Items} {n:Int} {f g:Sl} {c d:ExprD}
theorem c_ParseExprI (hT:Tab2 v) (hl:l.length≤2000000):Trip Tryz.prog 22 #[.string (str l)] v fun r w=>∃ (e:ExprD) (x:Sl) (ok:Bool) (J G:Items),r=.tuple #[.agg #[.int .i64 e.op,.int .i64 e.num,x.val],.bool ok]∧OwnD x e.kids J∧InI e.op∧InI e.num∧St v w (J++G)∧PE l e ok:=by
 refine of22 _ _ _ ?_
 unfold vc22
 refine St.box (vals:=[.string ByteArray.empty,.int .i64 0]) (St.refl v) fun a w1 I1 hC hS _=>?_
 refine hC.store hS (by simp) fun w2 I2 hC2 hS2=>?_
 refine (c_pexpr (u:=v) (l.length+1) hT (by omega) hl (Int.le_refl 0) (by omega) ⟨I2,hC2,hS2⟩).mono' ?_
 rintro _ w3 ⟨e,x,ok,l',n',J,rfl,hO,i1,i2,⟨I3,hC3,hS3⟩,hpre,hn,hb,hne,hG⟩
 have hS4:St v w3 (J++I3):=hS3.perm (by
  classical
  exact List.perm_iff_count.2 fun a=>by simp only [List.count_append,List.count_nil];omega)
 have hgo:∀ e0:ExprD,canE e0=true→nodesE e0≤30→showE e0=l→e=e0∧ok=true:=fun e0 h1 h2 h3=>by
  obtain ⟨k1,k2,_⟩:=hG e0 [] h1 (by rw [h3,List.append_nil]) (fun b hb=>by cases hb) (by omega)
  exact ⟨k1,k2⟩
 refine ⟨_,_,x,ok,rfl,_,fun hc=>c_FormatExpr (hT.1.mono hS3.sub) (hO.read hS4) i2,?_⟩
 rw [str_eqB _ _ (m:=l) (str_data _)]
 refine ⟨fun hc=>?_,fun hc=>?_⟩
 ·refine ⟨⟨0,0,[]⟩,⟨none,0,0⟩,false,[],J++I3,rfl,OwnD.nil,zero_in,zero_in,hS4,.inr ⟨rfl,rfl,fun e0 h1 h2 h3=>?_⟩⟩
  obtain ⟨k1,k2⟩:=hgo e0 h1 h2 h3
  subst k1;subst k2
  simp only [bls] at hc
  exact hc (by rw [fmtE_eq h1 h2];exact h3)
 ·simp only [bls] at hc
  obtain ⟨h1,h2⟩:=hc
  subst h1
  obtain ⟨k1,k2,k3⟩:=fmtE_ne (e:=e) (by rw [h2];exact hne rfl)
  exact ⟨e,x,true,J,I3,rfl,hO,i1,i2,hS4,.inl ⟨rfl,k1,k2,by rw [←k3];exact h2,fun e0 q1 q2 q3=>(hgo e0 q1 q2 q3).1.symm⟩⟩
end
def EquE (c:ExprD):Prop:=∀ (v:World) (d:ExprD) (f g:Sl),Read v f c.kids→Read v g d.kids→Fn Tryz.prog 23 #[.agg #[.int .i64 c.op,.int .i64 c.num,f.val],.agg #[.int .i64 d.op,.int .i64 d.num,g.val]] v (.bool (decide (c=d)))
theorem c_equalExpr (c:ExprD):EquE c:=by
 refine ex_ind (P:=EquE) (fun c ih=>?_) c
 intro v d f g hf hg
 refine of23 _ _ _ _ _ _ _ _ ?_
 unfold vc23
 have hn:=hf.n
 have hm:=hg.n
 have hl:=hf.le
 refine ⟨fun hc=>⟨?_,.refl v⟩,fun hc=>?_⟩
 ·rw [decide_eq_false (fun h=>by rw [h] at hc hn;simp at hc;omega)]
 simp only [bls] at hc
 obtain ⟨⟨e1,e2⟩,e3⟩:=hc
 have hlen:c.kids.length=d.kids.length:=by omega
 refine ⟨fun i w=>Sub v w∧0≤i∧i≤c.kids.length∧c.kids.take i.toNat=d.kids.take i.toNat,fun i _=>(c.kids.length - i).toNat,⟨.refl v,by omega,by omega,by simp⟩,?_⟩
 rintro i w ⟨hs,h0,h1,h2⟩
 dsimp only
 refine ⟨fun hi=>?_,fun hi=>?_⟩
 ·simp only [bls] at hi
  obtain ⟨f_kids,hcell,r_kids⟩:=rowExprD (hf.mono hs) h0 (by omega)
  obtain ⟨g_kids,hcell2,s_kids⟩:=rowExprD (hg.mono hs) h0 (by omega)
  refine go_ix hf h0 (by omega) ?_
  refine ⟨_,_,f_kids,hcell,?_⟩
  refine go_ix hg h0 (by omega) ?_
  refine ⟨_,_,g_kids,hcell2,?_⟩
  refine ⟨_,ih _ (nth_mem h0 (by omega)) w (nth d.kids i) f_kids g_kids r_kids s_kids,fun hq=>⟨?_,hs⟩,fun hq=>?_⟩
  ·rw [decide_eq_false (fun h=>by rw [h] at hq;simp at hq)]
  ·have he:nth c.kids i=nth d.kids i:=by simpa using hq
   refine go_wr (by omega) (by omega) ?_
   refine ⟨rfl,rfl,rfl,rfl,rfl,rfl,⟨hs,by omega,by omega,?_⟩,by omega⟩
   rw [take_nth h0 (by omega),take_nth h0 (by omega),h2,he]
 ·simp only [bls] at hi
  rw [take_all (by omega),take_all (by omega)] at h2
  have:c=d:=by rw [←c.eta,←d.eta,e1,e2,h2]
  exact ⟨by rw [decide_eq_true this],hs⟩
end Go.Vc
