/- Part of the proofs about the heaps and memories: a law is joined in the text whose name ends in W and the law. -/
import Derived.Shelf.Strings.Prefix
import Derived.Shelf.Strings.Split
import Derived.Shelf.LaysM
import Derived.Shelf.Strings.SplitShaped
import Derived.Test.YtelgbndeeccblaaGreatDoorProg
import Derived.Test.YtelgbndeeccblaaGreatDoorEVcFn
import Derived.KernelRfl
import Derived.Test.YtelgbndeeccblaaGreatDoorEU0
set_option linter.all false
namespace Go.Proofs
open Go.Shelf
def Tryz.lays102_ren:Go.Shelf.Ren:=⟨fun|102=>48|209=>95|207=>154|n=>n,fun|9=>9|4=>4|3=>3|n=>n,fun|n=>n⟩
theorem Tryz.lays102:Go.Proofs.Lays.n102 Tryz.prog Tryz.lays102_ren:={
 mixed:=by kernel_rfl
 f102:=Tryz.func48.trans (congrArg some (by kernel_rfl))
 f207:=Tryz.func154.trans (congrArg some (by kernel_rfl))
 f209:=Tryz.func95.trans (congrArg some (by kernel_rfl))
 t3:=Tryz.underlying3
 a3:=Tryz.isAgg3
 z3:=Tryz.sizeOf3
 v3:=Tryz.zeroValue3
 t4:=Tryz.underlying4
 a4:=Tryz.isAgg4
 z4:=Tryz.sizeOf4
 v4:=Tryz.zeroValue4
 t9:=Tryz.underlying9
 a9:=Tryz.isAgg9
 z9:=Tryz.sizeOf9
 v9:=Tryz.zeroValue9 }
open Go.RowKit Go.Lib in
theorem Tryz.strings_TrimSuffix (s p:ByteArray) (w:World) (hs:s.size≤9223372036854775807):
  Calls Tryz.prog 48 #[.string s,.string p] w fun e w'=>e=.returned (.string ⟨(Lib.trimSuffix s.data.toList p.data.toList).toArray⟩)∧w'=w:=Any.strings_TrimSuffix Tryz.lays102 s p w hs
def Tryz.lays221_ren:Go.Shelf.Ren:=⟨fun|221=>89|268=>149|138=>150|143=>151|195=>191|197=>192|218=>193|219=>194|260=>224|217=>225|225=>226|224=>227|267=>228|266=>248|314=>249|n=>n,fun|9=>9|3=>3|31=>83|4=>4|0=>0|105=>206|21=>21|5=>5|46=>236|119=>254|139=>257|138=>256|146=>258|51=>234|n=>n,fun|1=>1|3=>4|4=>5|n=>n⟩
theorem Tryz.lays221:Go.Proofs.Lays.n221 Tryz.prog Tryz.lays221_ren:={
 mixed:=by kernel_rfl
 f138:=Tryz.func150.trans (congrArg some (by kernel_rfl))
 f143:=Tryz.func151.trans (congrArg some (by kernel_rfl))
 f195:=Tryz.func191.trans (congrArg some (by kernel_rfl))
 f197:=Tryz.func192.trans (congrArg some (by kernel_rfl))
 f217:=Tryz.func225.trans (congrArg some (by kernel_rfl))
 f218:=Tryz.func193.trans (congrArg some (by kernel_rfl))
 f219:=Tryz.func194.trans (congrArg some (by kernel_rfl))
 f221:=Tryz.func89.trans (congrArg some (by kernel_rfl))
 f224:=Tryz.func227.trans (congrArg some (by kernel_rfl))
 f225:=Tryz.func226.trans (congrArg some (by kernel_rfl))
 f260:=Tryz.func224.trans (congrArg some (by kernel_rfl))
 f266:=Tryz.func248.trans (congrArg some (by kernel_rfl))
 f267:=Tryz.func228.trans (congrArg some (by kernel_rfl))
 f268:=Tryz.func149.trans (congrArg some (by kernel_rfl))
 f314:=Tryz.func249.trans (congrArg some (by kernel_rfl))
 t0:=Tryz.underlying0
 a0:=Tryz.isAgg0
 z0:=Tryz.sizeOf0
 v0:=Tryz.zeroValue0
 t3:=Tryz.underlying3
 a3:=Tryz.isAgg3
 z3:=Tryz.sizeOf3
 v3:=Tryz.zeroValue3
 t4:=Tryz.underlying4
 a4:=Tryz.isAgg4
 z4:=Tryz.sizeOf4
 v4:=Tryz.zeroValue4
 t5:=Tryz.underlying5
 a5:=Tryz.isAgg5
 z5:=Tryz.sizeOf5
 v5:=Tryz.zeroValue5
 t9:=Tryz.underlying9
 a9:=Tryz.isAgg9
 z9:=Tryz.sizeOf9
 v9:=Tryz.zeroValue9
 t21:=Tryz.underlying21
 a21:=Tryz.isAgg21
 z21:=Tryz.sizeOf21
 v21:=Tryz.zeroValue21
 t31:=Tryz.underlying83
 a31:=Tryz.isAgg83
 z31:=Tryz.sizeOf83
 v31:=Tryz.zeroValue83
 t46:=Tryz.underlying236
 a46:=Tryz.isAgg236
 z46:=Tryz.sizeOf236
 v46:=Tryz.zeroValue236
 t51:=Tryz.underlying234
 a51:=Tryz.isAgg234
 z51:=Tryz.sizeOf234
 v51:=Tryz.zeroValue234
 t105:=Tryz.underlying206
 a105:=Tryz.isAgg206
 z105:=Tryz.sizeOf206
 v105:=Tryz.zeroValue206
 t119:=Tryz.underlying254
 a119:=Tryz.isAgg254
 z119:=Tryz.sizeOf254
 t138:=Tryz.underlying256
 a138:=Tryz.isAgg256
 z138:=Tryz.sizeOf256
 v138:=Tryz.zeroValue256
 t139:=Tryz.underlying257
 a139:=Tryz.isAgg257
 z139:=Tryz.sizeOf257
 v139:=Tryz.zeroValue257
 t146:=Tryz.underlying258
 a146:=Tryz.isAgg258
 z146:=Tryz.sizeOf258
 v146:=Tryz.zeroValue258
 g1:=by kernel_rfl
 g3:=by kernel_rfl
 g4:=by kernel_rfl }
open Go.RowKit Go.Lib in
theorem Tryz.strings_genSplit (s sep:ByteArray) (sv:Nat) (n:Int) (N:Nat) (m:Int) (w:World) (hs:s.size < 4294967281) (hm:w.cell? ⟨1,0,none⟩=some (.int .i64 m)) (h1:1≤sep.size) (hsv:sv≤sep.size) (hn0:n≠0) (hn63:n≤9223372036854775807) (hN:(N:Int)=min (if n < 0 then (Lib.countB s sep:Int)+1 else n) ((s.size:Int)+1)):
  Calls Tryz.prog 89 #[.string s,.string sep,.int .i64 sv,.int .i64 n] w fun e w'=>
   e=.returned (.slice (some ⟨w.heap.size,0,none⟩) (Lib.splitB sep sv (N - 1) s).length N)∧w'=w.alloc (.cells (Lib.cellsOf (Lib.splitB sep sv (N - 1) s) N) 9):=Any.strings_genSplit Tryz.lays221 (by kernel_rfl) s sep sv n N m w hs hm h1 hsv hn0 hn63 hN
end Go.Proofs
namespace Go.Vc
open Go Go.Proofs
def vc46 (s_0:ByteArray) (s_1:ByteArray) (n_2:Int) (v:World) (Q:Value→World→Prop):Prop:=
 Trip Tryz.prog 89 #[.string s_0,.string s_1,.int .i64 (s_1.size:Int),.int .i64 n_2] v fun r1 w2=>
  ∃ x3:Sl,r1=x3.val∧
  Q (x3.val) w2
theorem of46 (s_0:ByteArray) (s_1:ByteArray) (n_2:Int) (v:World) (Q:Value→World→Prop) (h:vc46 s_0 s_1 n_2 v Q):Trip Tryz.prog 46 #[.string s_0,.string s_1,.int .i64 n_2] v Q:=
 trip_of_eq (args:=[.st s_0,.st s_1,.num .i64 n_2]) (A:=⟨[],[],[],[],[10,11,13,14,18,20,21,23,26,28,30,31,32,33,34,38,39,41,42,43,48,51,52,56,57,58,66,67,69,70,71,72,73,74,75,76,77,83,84,85,99,100,100,101,104,105,106,107,108,109,112,113,115,122,123,127,128,129,130,131,132,133,134,137,138,139,146,147,148,158,160,163,169,170,173,174,175,176,177,178,181,189,190,213,214,215,216,217,243,254]⟩) Tryz.func46 (by kernel_rfl) (by kernel_rfl) (by kernel_rfl:vc46 s_0 s_1 n_2 v Q=_) h
def vc92 (s_0:ByteArray) (s_1:ByteArray) (v:World) (Q:Value→World→Prop):Prop:=
 Trip Tryz.prog 89 #[.string s_0,.string s_1,.int .i64 0,.int .i64 (-1)] v fun r1 w2=>
  ∃ x3:Sl,r1=x3.val∧
  Q (x3.val) w2
theorem of92 (s_0:ByteArray) (s_1:ByteArray) (v:World) (Q:Value→World→Prop) (h:vc92 s_0 s_1 v Q):Trip Tryz.prog 92 #[.string s_0,.string s_1] v Q:=
 trip_of_eq (args:=[.st s_0,.st s_1]) (A:=⟨[],[],[],[],[10,11,13,14,18,20,21,23,26,28,30,31,32,33,34,38,39,41,42,43,48,51,52,56,57,58,66,67,69,70,71,72,73,74,75,76,77,83,84,85,99,100,100,101,104,105,106,107,108,109,112,113,115,122,123,127,128,129,130,131,132,133,134,137,138,139,146,147,148,158,160,163,169,170,173,174,175,176,177,178,181,189,190,213,214,215,216,217,243,254]⟩) Tryz.func92 (by kernel_rfl) (by kernel_rfl) (by kernel_rfl:vc92 s_0 s_1 v Q=_) h
def vc90 (s_0:ByteArray) (s_1:ByteArray) (n_2:Int) (v:World) (Q:Value→World→Prop):Prop:=
 Trip Tryz.prog 89 #[.string s_0,.string s_1,.int .i64 0,.int .i64 n_2] v fun r1 w2=>
  ∃ x3:Sl,r1=x3.val∧
  Q (x3.val) w2
theorem of90 (s_0:ByteArray) (s_1:ByteArray) (n_2:Int) (v:World) (Q:Value→World→Prop) (h:vc90 s_0 s_1 n_2 v Q):Trip Tryz.prog 90 #[.string s_0,.string s_1,.int .i64 n_2] v Q:=
 trip_of_eq (args:=[.st s_0,.st s_1,.num .i64 n_2]) (A:=⟨[],[],[],[],[10,11,13,14,18,20,21,23,26,28,30,31,32,33,34,38,39,41,42,43,48,51,52,56,57,58,66,67,69,70,71,72,73,74,75,76,77,83,84,85,99,100,100,101,104,105,106,107,108,109,112,113,115,122,123,127,128,129,130,131,132,133,134,137,138,139,146,147,148,158,160,163,169,170,173,174,175,176,177,178,181,189,190,213,214,215,216,217,243,254]⟩) Tryz.func90 (by kernel_rfl) (by kernel_rfl) (by kernel_rfl:vc90 s_0 s_1 n_2 v Q=_) h
end Go.Vc
namespace Go.Vc
open Go Go.Proofs Go.RowKit
def Tab3 (v:World):Prop:=Tab2 v∧∃ m:Int,v.cell? ⟨1,0,none⟩=some (.int .i64 m)
theorem Tab3.mono {v w:World} (h:Tab3 v) (hs:Sub v w):Tab3 w:=⟨h.1.mono hs,let ⟨m,hm⟩:=h.2;⟨m,cell_sub hs hm⟩⟩
theorem own_strs {u:World} {g n c:Nat} {cur:Array Value} {e:TypeId} {xs:List ByteArray} (hn:n=xs.length) (hc:n≤c) (hm:c≤1000000000) (hs:c≤cur.size) (hcur:∀ (i:Nat) (s:ByteArray),xs[i]?=some s→cur[i]?=some (.string s)):
  Own u ⟨some ⟨g,0,none⟩,n,c⟩ xs [(g,.cells cur e (0,0))]:=by
 refine ⟨xs.map fun s=>[Value.string s],.blk g 0 n c cur e _ (by simpa using hn) hc (by unfold maxLen;omega) (by show 0+c * 1≤_;omega) (fun i r hr=>?_),⟨by simp,fun i r a hr ha=>?_⟩,by show _≤1099511627776;omega⟩
 ·rw [List.getElem?_map] at hr
  cases hx:xs[i]? with
  | none=>rw [hx] at hr;cases hr
  | some s=>
   rw [hx] at hr
   simp only [Option.map_some,Option.some.injEq] at hr
   subst hr
   refine ⟨rfl,fun j v hj=>?_⟩
   cases j with
   | zero=>
    simp only [List.getElem?_cons_zero,Option.some.injEq] at hj
    subst hj
    rw [show 0+i * Dat.sz ByteArray+0=i by show 0+i * 1+0=i;omega]
    exact hcur i s hx
   | succ j=>simp at hj
 ·rw [List.getElem?_map,ha] at hr
  simp only [Option.map_some,Option.some.injEq] at hr
  exact hr.symm
theorem cutB_str (c:UInt8) (sv k:Nat) (l:List UInt8):Lib.splitB (str [c]) sv k (str l)=(Lib.splitK [c] sv k l).map str:=by
 have h:=Lib.splitB_data (str [c]) sv k (str l)
 rw [str_data,str_data] at h
 rw [←h,List.map_map]
 conv=>lhs;rw [←List.map_id (Lib.splitB (str [c]) sv k (str l))]
 exact List.map_congr_left fun b _=>(str_toList b).symm
theorem splitK_len (sep:List UInt8) (sv:Nat):∀ (k:Nat) (l:List UInt8),1≤(Lib.splitK sep sv k l).length∧(Lib.splitK sep sv k l).length≤k+1
 | 0,l=>by simp [Lib.splitK]
 | k+1,l=>by
  unfold Lib.splitK
  split
  ·simp
  ·have:=splitK_len sep sv k (l.drop ((Lib.index l sep).toNat+sep.length))
   simp only [List.length_cons];omega
section
variable {u v w:World} {l m:List UInt8} {a:Addr} {L I J K R:Items} {n:Int} {b:Bool} {x y:Sl} {c:UInt8}
def Cuts (v:World) (ls:List (List UInt8)) (r:Value) (w:World):Prop:=∃ (x:Sl) (I:Items),r=x.val∧Own v x (ls.map str) I∧St v w I
theorem c_genSplit {sv:Nat} {N:Nat} (hT:Tab3 v) (hl:l.length≤2000000) (hsv:sv≤1) (hn0:n≠0) (hn63:n≤1000000) (hN:(N:Int)=min (if n < 0 then (l.count c:Int)+1 else n) ((l.length:Int)+1)):
  Trip Tryz.prog 89 #[.string (str l),.string (str [c]),.int .i64 (sv:Int),.int .i64 n] v (Cuts v (Lib.splitK [c] sv (N - 1) l)):=by
 refine ⟨fun w=>callFunc_enter Tryz.func89 (by kernel_rfl) rfl _ _,fun W hs=>?_⟩
 obtain ⟨m,hm⟩:=(hT.mono hs).2
 have hz:=str_size l
 have hcnt:Lib.countB (str l) (str [c])=l.count c:=by
  show Lib.count _ _=_
  rw [str_data,str_data]
  exact Lib.count_one c l
 refine (Tryz.strings_genSplit (str l) (str [c]) sv n N m W (by omega) hm (by rw [str_size];exact Nat.le_refl _) (by rw [str_size];exact hsv) hn0 (by omega) (by rw [hcnt,hz];exact hN)).mono ?_
 rintro e W' ⟨rfl,rfl⟩
 rw [cutB_str]
 have hlen:=splitK_len [c] sv (N - 1) l
 have hN1:1≤N:=by
  have h1:(1:Int)≤min (if n < 0 then (l.count c:Int)+1 else n) ((l.length:Int)+1):=by
   refine Int.le_min.2 ⟨?_,by omega⟩
   split<;>omega
  omega
 have hN2:(N:Int)≤(l.length:Int)+1:=by rw [hN];exact Int.min_le_right _ _
 obtain ⟨v',fr,x,I,hx,hO,hS⟩:=newAt_step (o:=.cells (Lib.cellsOf ((Lib.splitK [c] sv (N - 1) l).map str) N) 9 (0,0)) (Q:=fun a w'=>∃ (x:Sl) (I:Items),(.slice (some a) ((Lib.splitK [c] sv (N - 1) l).map str).length N:Value)=x.val∧Own v x ((Lib.splitK [c] sv (N - 1) l).map str) I∧St v w' I) hs (by
  intro g w' hg hsub ho
  refine ⟨⟨some ⟨g,0,none⟩,((Lib.splitK [c] sv (N - 1) l).map str).length,N⟩,_,rfl,own_strs (e:=9) (cur:=Lib.cellsOf ((Lib.splitK [c] sv (N - 1) l).map str) N) rfl (by rw [List.length_map];omega) (by omega) (by rw [Lib.cellsOf_size (by rw [List.length_map];omega)];exact Nat.le_refl _) (fun i s hi=>?_),?_⟩
  ·unfold Lib.cellsOf
   rw [List.getElem?_toArray,List.getElem?_append_left (by rw [List.length_map];exact (List.getElem?_eq_some_iff.1 hi).1),List.getElem?_map,hi]
   rfl
  ·have:=(St.refl v).new hg hsub ho (by simp [absent])
   simpa using this)
 exact ⟨_,v',by rw [hx],fr,x,I,rfl,hO,hS⟩
theorem c_Split (hT:Tab3 v) (hl:l.length≤2000000):Trip Tryz.prog 92 #[.string (str l),.string (str [c])] v (Cuts v (Lib.splitK [c] 0 (l.count c) l)):=by
 refine of92 _ _ _ _ ?_
 unfold vc92
 have hcl:l.count c≤l.length:=List.count_le_length
 refine (c_genSplit (sv:=0) (N:=l.count c+1) hT hl (by omega) (by omega) (by omega) (by rw [if_pos (by omega),Int.min_eq_left (by omega)];omega)).mono' ?_
 rintro _ w1 ⟨x,I,rfl,hO,hS⟩
 exact ⟨x,rfl,x,I,rfl,hO,hS⟩
theorem c_SplitN (k:Nat) (hT:Tab3 v) (hl:l.length≤2000000) (hk:1≤k) (hk2:k≤100):Trip Tryz.prog 90 #[.string (str l),.string (str [c]),.int .i64 (k:Int)] v (Cuts v (Lib.splitK [c] 0 (min k (l.length+1) - 1) l)):=by
 refine of90 _ _ _ _ _ ?_
 unfold vc90
 refine (c_genSplit (sv:=0) (N:=min k (l.length+1)) hT hl (by omega) (by omega) (by omega) (by rw [if_neg (by omega)];omega)).mono' ?_
 rintro _ w1 ⟨x,I,rfl,hO,hS⟩
 exact ⟨x,rfl,x,I,rfl,hO,hS⟩
theorem c_SplitAfterN (k:Nat) (hT:Tab3 v) (hl:l.length≤2000000) (hk:1≤k) (hk2:k≤100):Trip Tryz.prog 46 #[.string (str l),.string (str [c]),.int .i64 (k:Int)] v (Cuts v (Lib.splitK [c] 1 (min k (l.length+1) - 1) l)):=by
 refine of46 _ _ _ _ _ ?_
 unfold vc46
 refine (c_genSplit (sv:=1) (N:=min k (l.length+1)) hT hl (by omega) (by omega) (by omega) (by rw [if_neg (by omega)];omega)).mono' ?_
 rintro _ w1 ⟨x,I,rfl,hO,hS⟩
 exact ⟨x,rfl,x,I,rfl,hO,hS⟩
theorem c_TrimSuffix (m:List UInt8) (hl:l.length≤2000000):Fn Tryz.prog 48 #[.string (str l),.string (str m)] v (.string (str (Lib.trimSuffix l m))):=by
 refine ⟨fun w=>callFunc_enter Tryz.func48 (by kernel_rfl) rfl _ _,fun W hs=>?_⟩
 refine (Tryz.strings_TrimSuffix (str l) (str m) W (by rw [str_size];omega)).mono ?_
 rintro e W' ⟨rfl,rfl⟩
 refine ⟨_,v,rfl,.refl hs,?_,.refl v⟩
 rw [str_data,str_data];rfl
def NeNil (y:Vl) (ok:Bool):Prop:=∀ (k:Nat) (w:World),PureT Tryz.prog (do eqGuard .neq 64 (.tmp k) (.const (.nilIface)) (y.x) ((Vl.mk Value.nilIface rfl).x);binOp .neq 64 (y.x) ((Vl.mk Value.nilIface rfl).x)) w (.bool !ok)
theorem neNil_nil:NeNil ⟨Value.nilIface,rfl⟩ true:=by
 intro k w
 refine pure_of (fun W=>?_) rfl
 have h:=run_neq_nil_nil (w:=W) 64 err_und
 simp [eqGuard,h,go_sem]
theorem neNil_held (t:TypeId) (x:Value):NeNil ⟨Value.iface t x,rfl⟩ false:=by
 intro k w
 refine pure_of (fun W=>?_) rfl
 have h:=run_neq_held_nil (w:=W) 64 t x err_und
 simp [eqGuard,h,go_sem]
end
end Go.Vc
namespace Go.Vc
open Go Go.Proofs Go.RowKit
section
variable {α:Type} [DatO α] [Inhabited α] {u v w:World} {x y z:Sl} {g l:List α} {I J K R L:Items} {F:Items→Items}
theorem OwnD.addS {P:Program} {t ty:TypeId} {bytes:Nat} {zc:List Value} [hT:SlT P t (Dat.sz α) bytes zc] {val:Value} {a:α} (h:OwnD x l I) (hS:St u w (I++(J++R)))
  (hsz:val.cells.size=Dat.sz α) (ho:DatO.own val.cells.toList a J) (hs2:Dat.sz α≤100) (hb:l.length+1≤1099511627776) (hby:bytes≤128) {Q:Sl→World→Prop}
  (k:∀ x' w' I',OwnD x' (l++[a]) I'→St u w' (I'++R)→Q x' w'):
  StepT P (Instr.buildSlice t 1 #[(0,val)]) w fun r w2=>∃ z:Sl,r=z.val∧Sub w w2∧StepT P (Builtin.append_ #[t,t] ty #[x.val,z.val]) w2 fun r2 w3=>∃ x':Sl,r2=x'.val∧Q x' w3:=by
 refine St.buildR hS (fun v hv=>?_) rfl (by omega) ?_
 ·simp only [List.map_cons,List.map_nil,List.mem_singleton] at hv;rw [hv];exact hsz
 intro x3 w3 I3 hB hS hs _
 refine ⟨_,rfl,hs,?_⟩
 have hy:Rows w3 x3 (Dat.sz α) [val.cells.toList]:=hB.rd hS.items
 have hS2:St u w3 (I++(J++R)):=hS.right
 exact h.pushC hS2 hy ho hb hby fun x' w' I' k1 k2=>⟨x',rfl,k x' w' I' k1 k2⟩
end
section
variable {u v w:World} {l m:List UInt8} {a:Addr} {L I J K R:Items} {n:Int} {b:Bool} {x y z:Sl} {c:UInt8} {ds:List DeclD} {fs:List FunD}
theorem c_Atoi2 (hT:Tab2 v) (hl:l.length≤4294967280):Trip Tryz.prog 93 #[.string (str l)] v fun r w=>∃ y:Vl,r=.tuple #[.int .i64 (atoiV l).1,y.x]∧EqNil y (atoiV l).2∧NeNil y (atoiV l).2∧v=w:=by
 refine ⟨fun w=>callFunc_enter Tryz.func93 (by kernel_rfl) rfl _ _,fun W hsb=>?_⟩
 have hd:=str_data l
 rcases ha:Lib.atoiAll l with m|_|_
 ·
  refine (Tryz.strconv_Atoi_ok (str l) (by rw [str_size];omega) m (by rw [hd];exact ha) W).mono ?_
  rintro e W' ⟨rfl,hb⟩
  refine ⟨_,v,rfl,fr_below hsb ?_,⟨.nilIface,rfl⟩,?_,?_,?_,rfl⟩
  ·rcases hb with rfl|⟨t,rfl⟩
   ·exact Below.refl _ _
   ·exact Lib.bytesWorld_below W _ _
  ·unfold atoiV;rw [ha]
  ·unfold atoiV;rw [ha];exact eqNil_nil
  ·unfold atoiV;rw [ha];exact neNil_nil
 ·
  obtain ⟨tp,p,hp⟩:=(hT.mono hsb).2.1
  refine (Tryz.strconv_Atoi_syntax_var (str l) (by rw [str_size];omega) (by rw [hd];exact ha) tp p W hp).mono ?_
  rintro e W' ⟨N,rfl,_,_,hb⟩
  refine ⟨_,v,rfl,fr_below hsb hb,⟨.iface 212 (.pointer (some ⟨N,0,none⟩)),rfl⟩,?_,?_,?_,rfl⟩
  ·unfold atoiV;rw [ha]
  ·unfold atoiV;rw [ha];exact eqNil_held _ _
  ·unfold atoiV;rw [ha];exact neNil_held _ _
 ·
  obtain ⟨tp,p,hp⟩:=(hT.mono hsb).2.2
  refine (Tryz.strconv_Atoi_range_var (str l) (by rw [str_size];omega) (by rw [hd];exact ha) tp p W hp).mono ?_
  rintro e W' ⟨N,rfl,_,_,hb⟩
  refine ⟨_,v,rfl,fr_below hsb hb,⟨.iface 212 (.pointer (some ⟨N,0,none⟩)),rfl⟩,?_,?_,?_,rfl⟩
  ·unfold atoiV;rw [ha,hd]
  ·unfold atoiV;rw [ha];exact eqNil_held _ _
  ·unfold atoiV;rw [ha];exact neNil_held _ _
theorem itoa_no {k:Int} (h0:0≤k) (h1:k≤999):(44:UInt8)∉Lib.itoa k∧(32:UInt8)∉Lib.itoa k∧Lib.itoa k≠[]:=by
 have h:=itoa_dig h0 h1
 refine ⟨fun hm=>?_,fun hm=>?_,h.2⟩
 ·exact absurd (h.1 44 hm).1 (by decide)
 ·exact absurd (h.1 32 hm).1 (by decide)
theorem splitK_le (c:UInt8) (sv:Nat):∀ (k:Nat) (l:List UInt8),∀ p∈Lib.splitK [c] sv k l,p.length≤l.length
 | 0,l=>by intro p hp;simp [Lib.splitK] at hp;rw [hp];exact Nat.le_refl _
 | k+1,l=>by
  intro p hp
  unfold Lib.splitK at hp
  split at hp
  ·simp at hp;rw [hp];exact Nat.le_refl _
  ·rcases List.mem_cons.1 hp with rfl|hp
   ·rw [List.length_take];omega
   ·have:=splitK_le c sv k _ p hp
    rw [List.length_drop] at this;omega
def GhRl (l:List UInt8) (ns:List Int) (ok:Bool):Prop:=∀ ns0:List Int,small3 ns0→l=shN ns0→ns=ns0∧ok=true
theorem c_readList (hT:Tab3 v) (hl:l.length≤2000000):Trip Tryz.prog 94 #[.string (str l)] v fun r w=>∃ (x:Sl) (ns:List Int) (ok:Bool) (J G:Items),r=.tuple #[x.val,.bool ok]∧Own v x ns J∧St v w (J++G)∧GhRl l ns ok:=by
 refine of94 _ _ _ ?_
 unfold vc94
 have hz:=str_size l
 have hnil:Own v ⟨none,0,0⟩ ([]:List Int) []:=⟨[],.nil,⟨rfl,fun i r a hr=>by simp at hr⟩,Nat.zero_le _⟩
 refine ⟨fun hc=>⟨⟨none,0,0⟩,[],false,[],[],rfl,hnil,St.refl v,fun ns0 hs hm=>?_⟩,fun hc=>?_⟩
 ·simp only [bls] at hc
  rw [hm] at hz
  unfold shN at hz
  simp only [List.length_cons,List.length_append,List.length_nil] at hz
  rw [hm] at hc
  unfold shN at hc
  omega
 simp only [bls] at hc
 refine go_wr (by omega) (by omega) ?_
 refine ⟨⟨by omega,by omega,by omega⟩,?_⟩
 have hcut:strCut (str l) 1 (((str l).size:Int) - 1)=str ((l.take (l.length - 1)).drop 1):=by
  rw [str_cut (by omega) (by omega) (by omega)]
  congr 3
  omega
 rw [hcut]
 generalize hin:(l.take (l.length - 1)).drop 1=inner
 have hinl:inner.length≤l.length:=by rw [←hin,List.length_drop,List.length_take];omega
 have hgh:∀ ns0,l=shN ns0→inner=Lib.join (ns0.map Lib.itoa) [44]:=by
  intro ns0 hm
  rw [←hin,hm]
  unfold shN
  rw [List.length_cons,Nat.add_sub_cancel,List.length_append,List.length_singleton,List.take_succ_cons,List.drop_succ_cons,List.drop_zero,List.take_left' rfl]
 refine ⟨fun hq=>?_,fun hq=>?_⟩
 ·rw [str_eqB inner _ (m:=[]) rfl,decide_eq_true_eq] at hq
  refine ⟨⟨none,0,0⟩,[],true,[],[],rfl,hnil,St.refl v,fun ns0 hs hm=>⟨?_,rfl⟩⟩
  have:=hgh ns0 hm
  rw [hq] at this
  cases ns0 with
  | nil=>rfl
  | cons t r=>
   exfalso
   rw [List.map_cons,join_words] at this
   exact (itoa_no (hs t (by simp)).1 (hs t (by simp)).2).2.2 (List.append_eq_nil_iff.1 this.symm).1
 rw [str_eqB inner _ (m:=[]) rfl,decide_eq_false_iff_not] at hq
 rw [str_eq (l:=[44]) rfl]
 refine (c_Split hT (by omega)).mono' ?_
 rintro _ w1 ⟨z,Iz,rfl,hOz,hSz⟩
 refine ⟨z,rfl,?_⟩
 have hple:∀ p∈Lib.splitK [44] 0 (inner.count 44) inner,p.length≤2000000:=fun p hp=>by have:=splitK_le 44 0 _ inner p hp;omega
 have hpn:=splitK_len [44] 0 (inner.count 44) inner
 have hcnt:inner.count 44≤inner.length:=List.count_le_length
 have hgp:∀ ns0,small3 ns0→l=shN ns0→Lib.splitK [44] 0 (inner.count 44) inner=ns0.map Lib.itoa:=by
  intro ns0 hs hm
  have hi:=hgh ns0 hm
  cases ns0 with
  | nil=>rw [hi] at hq;exact absurd (by rw [List.map_nil,Lib.join_nil]) hq
  | cons t r=>
   rw [List.map_cons,join_words] at hi
   have h1:=(itoa_no (hs t (by simp)).1 (hs t (by simp)).2).1
   have h2:∀ b∈r.map Lib.itoa,(44:UInt8)∉b:=by
    intro b hb
    obtain ⟨k,hk,rfl⟩:=List.mem_map.1 hb
    exact (itoa_no (hs k (by simp [hk])).1 (hs k (by simp [hk])).2).1
   rw [hi,count_words _ _ h1 h2,cutK_words _ _ _ h1 h2 (Nat.le_refl _),List.map_cons]
 generalize Lib.splitK [44] 0 (inner.count 44) inner=ps at hOz hple hpn hgp
 have hzn:=hOz.n
 rw [List.length_map] at hzn
 refine ⟨fun x i w=>∃ (ns:List Int) (J:Items),Own v x ns J∧St v w (J++(Iz++[]))∧0≤i∧i≤ps.length∧ns.length=i∧(∀ ns0,small3 ns0→l=shN ns0→ns=ns0.take i.toNat),fun _ i _=>(ps.length - i).toNat,⟨[],[],hnil,by simpa using hSz,by omega,by omega,rfl,fun ns0 _ _=>by simp⟩,?_⟩
 rintro x i w ⟨ns,J,hO,hS,i0,i1,hni,hG⟩
 dsimp only
 refine ⟨fun hi=>?_,fun hi=>?_⟩
 ·simp only [bls] at hi
  have hil:i < ps.length:=by omega
  have hrd:Read w z (ps.map str):=hOz.read hS
  have hil2:i < (ps.map str).length:=by rw [List.length_map];exact hil
  have hnth:nth (ps.map str) i=str (nth ps i):=by
   unfold nth List.getD
   rw [List.getElem?_map]
   cases hg:ps[i.toNat]? with
   | none=>have:=List.getElem?_eq_none_iff.1 hg;omega
   | some p=>rfl
  have hpl:=hple _ (nth_mem i0 hil)
  refine ⟨hrd.ix i0 hil2,_,hrd.str i0 hil2,?_⟩
  rw [hnth]
  refine (c_Atoi2 (hT.1.mono hS.sub) (by omega)).mono' ?_
  rintro _ _ ⟨y,rfl,_,hy,rfl⟩
  refine ⟨_,y,rfl,_,hy _ _,fun hb=>?_,fun hb=>?_⟩
  ·refine ⟨⟨none,0,0⟩,[],false,[],J++(Iz++[]),rfl,hnil,by simpa using hS,fun ns0 hs hm=>?_⟩
   exfalso
   have hp:=hgp ns0 hs hm
   have hk:nth ps i=Lib.itoa (nth ns0 i):=by
    have hl0:i.toNat < ns0.length:=by have:=congrArg List.length hp;rw [List.length_map] at this;omega
    unfold nth List.getD
    rw [hp,List.getElem?_map,List.getElem?_eq_getElem hl0]
    rfl
   have hm2:nth ns0 i∈ns0:=nth_mem i0 (by have:=congrArg List.length hp;rw [List.length_map] at this;omega)
   rw [hk,atoiV_itoa (by have:=(hs _ hm2).1;omega) (hs _ hm2).2] at hb
   cases hb
  ·refine push_int (R:=Iz++[]) hO hS (atoiV_in _) (by omega) fun x' w' J' hO' hS'=>?_
   refine go_wr (by omega) (by omega) ?_
   refine ⟨⟨ns++[(atoiV (nth ps i)).1],J',hO',hS',by omega,by omega,by rw [List.length_append,List.length_singleton];omega,fun ns0 hs hm=>?_⟩,by omega⟩
   have hp:=hgp ns0 hs hm
   have hl0:ps.length=ns0.length:=by have:=congrArg List.length hp;rw [List.length_map] at this;exact this
   have hk:nth ps i=Lib.itoa (nth ns0 i):=by
    unfold nth List.getD
    rw [hp,List.getElem?_map,List.getElem?_eq_getElem (by omega:i.toNat < ns0.length)]
    rfl
   have hm2:nth ns0 i∈ns0:=nth_mem i0 (by omega)
   rw [hk,atoiV_itoa (by have:=(hs _ hm2).1;omega) (hs _ hm2).2,hG ns0 hs hm,take_nth i0 (by omega)]
 ·simp only [bls] at hi
  refine ⟨x,ns,true,J,Iz++[],rfl,hO,hS,fun ns0 hs hm=>⟨?_,rfl⟩⟩
  have hp:=congrArg List.length (hgp ns0 hs hm)
  rw [List.length_map] at hp
  rw [hG ns0 hs hm,List.take_of_length_le (by omega)]
end
end Go.Vc
namespace Go.Vc
open Go Go.Proofs Go.RowKit
theorem Own.anyS {v0:World} {z:Sl} {xs:List ByteArray} {I:Items} (h:Own v0 z xs I) (u:World):Own u z xs I:=let ⟨rows,h1,h2,h3⟩:=h;⟨rows,h1,⟨h2.1,fun i r a hr ha=>h2.2 i r a hr ha⟩,h3⟩
theorem shN_no {l:List Int} (h:small3 l):(32:UInt8)∉shN l∧(10:UInt8)∉shN l:=by
 have key:∀ b∈shN l,b=40∨b=41∨b=44∨(48≤b.toNat∧b.toNat≤57):=by
  intro b hb
  unfold shN at hb
  rcases List.mem_cons.1 hb with rfl|hb
  ·exact .inl rfl
  rcases List.mem_append.1 hb with hb|hb
  ·cases l with
   | nil=>rw [List.map_nil,Lib.join_nil] at hb;cases hb
   | cons t r=>
    rw [List.map_cons,join_words] at hb
    rcases List.mem_append.1 hb with hb|hb
    ·exact .inr (.inr (.inr ((itoa_dig (h t (by simp)).1 (h t (by simp)).2).1 b hb)))
    ·obtain ⟨q,hq,hbq⟩:=List.mem_flatten.1 hb
     obtain ⟨p,hp,rfl⟩:=List.mem_map.1 hq
     obtain ⟨k,hk,rfl⟩:=List.mem_map.1 hp
     rcases List.mem_cons.1 hbq with rfl|hbq
     ·exact .inr (.inr (.inl rfl))
     ·exact .inr (.inr (.inr ((itoa_dig (h k (by simp [hk])).1 (h k (by simp [hk])).2).1 b hbq)))
  ·exact .inr (.inl (List.mem_singleton.1 hb))
 constructor
 ·intro hm
  rcases key _ hm with h|h|h|h
  ·cases h
  ·cases h
  ·cases h
  ·exact absurd h.1 (by decide)
 ·intro hm
  rcases key _ hm with h|h|h|h
  ·cases h
  ·cases h
  ·cases h
  ·exact absurd h.1 (by decide)
section
variable {u v w:World} {l m:List UInt8} {a:Addr} {L I J K R:Items} {n:Int} {b:Bool} {x y z:Sl} {c:UInt8} {ds:List DeclD} {fs:List FunD}
def PrS (u:World) (a:Addr) (L:Items) (ds:List DeclD) (fs:List FunD) (w:World):Prop:=
 ∃ (x y:Sl) (I J K:Items),Cel a [x.val,y.val] I∧OwnD x ds J∧OwnD y fs K∧St u w (I++(J++(K++L)))
theorem PrS.sub (h:PrS u a L ds fs w):Sub u w:=let ⟨_,_,_,_,_,_,_,_,hS⟩:=h;hS.sub
theorem PrS.perm {L':Items} (h:PrS u a L ds fs w) (hp:L'.Perm L):PrS u a L' ds fs w:=by
 obtain ⟨x,y,I,J,K,h1,h2,h3,h4⟩:=h
 exact ⟨x,y,I,J,K,h1,h2,h3,h4.perm (List.Perm.append_left _ (List.Perm.append_left _ (List.Perm.append_left _ hp)))⟩
theorem PrS.join {w':World} {M:Items} (h:PrS u a L ds fs w) (hM:St w w' M):PrS u a (M++L) ds fs w':=by
 obtain ⟨x,y,I,J,K,h1,h2,h3,h4⟩:=h
 exact ⟨x,y,I,J,K,h1,h2,h3,(h4.join hM).perm (by
  classical
  exact List.perm_iff_count.2 fun a=>by simp only [List.count_append];omega)⟩
theorem PrS.drop {M:Items} (h:PrS u a (M++L) ds fs w):PrS u a L ds fs w:=by
 obtain ⟨x,y,I,J,K,h1,h2,h3,h4⟩:=h
 have h5:St u w (M++(I++(J++(K++L)))):=h4.perm (by
  classical
  exact List.perm_iff_count.2 fun a=>by simp only [List.count_append];omega)
 exact ⟨x,y,I,J,K,h1,h2,h3,h5.right⟩
theorem PrS.items (h:PrS u a (I++L) ds fs w):St u w (I++L):=by
 obtain ⟨x,y,I0,J,K,h1,h2,h3,h4⟩:=h
 have h5:St u w ((I0++(J++K))++(I++L)):=h4.perm (by
  classical
  exact List.perm_iff_count.2 fun a=>by simp only [List.count_append];omega)
 exact h5.right
def GhRd (ps:List (List UInt8)) (ds ds':List DeclD) (q:Bool):Prop:=∀ cs:List ConD,(∀ c∈cs,small3 c.fields)→ps=(cs.map fun c=>shN c.fields)→q=true∧ds'=ds++[⟨0,0,cs⟩]
theorem nth_str (ps:List (List UInt8)) {i:Int} (i0:0≤i) (i1:i < ps.length):nth (ps.map str) i=str (nth ps i):=by
 unfold nth List.getD
 rw [List.getElem?_map]
 cases hg:ps[i.toNat]? with
 | none=>have:=List.getElem?_eq_none_iff.1 hg;omega
 | some p=>rfl
theorem c_readData {v0:World} {ps:List (List UInt8)} {Iz:Items} (hT:Tab3 u) (hps:∀ p∈ps,p.length≤2000000) (hpl:ps.length≤3000000) (hdl:ds.length≤4000000) (hO:Own v0 z (ps.map str) Iz) (h:PrS u a (Iz++L) ds fs w):
  Trip Tryz.prog 91 #[.pointer (some (a.add 0)),z.val] w fun r w'=>∃ (q:Bool) (ds':List DeclD),r=.bool q∧PrS u a (Iz++L) ds' fs w'∧ds'.length≤ds.length+1∧GhRd ps ds ds' q:=by
 refine of91 _ _ _ _ ?_
 unfold vc91
 have hzn:=hO.n
 rw [List.length_map] at hzn
 refine ⟨fun i x w=>∃ (cs:List ConD) (J:Items),OwnD x cs J∧PrS u a (J++(Iz++L)) ds fs w∧0≤i∧i≤ps.length∧cs.length=i∧(∀ cs0:List ConD,(∀ c∈cs0,small3 c.fields)→ps=(cs0.map fun c=>shN c.fields)→cs=cs0.take i.toNat),fun i _ _=>(ps.length - i).toNat,⟨[],[],OwnD.nil,h,by omega,by omega,rfl,fun cs0 _ _=>by simp⟩,?_⟩
 clear h
 rintro i x w ⟨cs,J,hOx,h,i0,i1,hni,hG⟩
 dsimp only
 refine ⟨fun hi=>?_,fun hi=>?_⟩
 ·simp only [bls] at hi
  have hil:i < ps.length:=by omega
  have hrd:Read w z (ps.map str):=(hO.anyS u).read (h.items:St u w (J++(Iz++L)))
  have hil2:i < (ps.map str).length:=by rw [List.length_map];exact hil
  refine ⟨hrd.ix i0 hil2,_,hrd.str i0 hil2,?_⟩
  rw [nth_str ps i0 hil]
  refine (c_readList (hT.mono h.sub) (hps _ (nth_mem i0 hil))).mono' ?_
  rintro _ w2 ⟨t,ns,ok,J2,G2,rfl,hOt,hS2,hGl⟩
  refine ⟨t,ok,rfl,fun hb=>?_,fun hb=>?_⟩
  ·have hb:ok=false:=by simpa using hb
   refine ⟨false,ds,rfl,((h.join hS2).perm (L':=((J2++G2)++J)++(Iz++L)) (by
    classical
    exact List.perm_iff_count.2 fun a=>by simp only [List.count_append];omega)).drop,by omega,fun cs0 hc0 hm=>?_⟩
   exfalso
   have hl0:i.toNat < cs0.length:=by have:=congrArg List.length hm;rw [List.length_map] at this;omega
   have hk:nth ps i=shN (cs0[i.toNat]).fields:=by
    unfold nth List.getD
    rw [hm,List.getElem?_map,List.getElem?_eq_getElem hl0]
    rfl
   have:=(hGl _ (hc0 _ (List.getElem_mem hl0)) hk).2
   rw [hb] at this;cases this
  ·have hb:ok=true:=by simpa using hb
   have hP2:PrS u a (J++(J2++(Iz++L))) ds fs w2:=((h.join hS2).perm (L':=G2++(J++(J2++(Iz++L)))) (by
    classical
    exact List.perm_iff_count.2 fun a=>by simp only [List.count_append];omega)).drop
   obtain ⟨x1,y1,I1,J1,K1,hC1,hD1,hF1,hS1⟩:=hP2
   refine OwnD.add (a:=(⟨ns⟩:ConD)) (J:=J2) (R:=I1++(J1++(K1++(Iz++L)))) hOx (hS1.perm (by
    classical
    exact List.perm_iff_count.2 fun a=>by simp only [List.count_append];omega)) rfl ⟨t,J2,rfl,hOt.toAll,rfl⟩ (by decide) (by omega) (by decide) ?_
   intro x7 w7 J7 hO7 hS7
   refine go_wr (by omega) (by omega) ?_
   refine ⟨rfl,rfl,⟨cs++[⟨ns⟩],J7,hO7,⟨x1,y1,I1,J1,K1,hC1,hD1,hF1,hS7.perm (by
    classical
    exact List.perm_iff_count.2 fun a=>by simp only [List.count_append];omega)⟩,by omega,by omega,by rw [List.length_append,List.length_singleton];omega,fun cs0 hc0 hm=>?_⟩,by omega⟩
   have hl0:i.toNat < cs0.length:=by have:=congrArg List.length hm;rw [List.length_map] at this;omega
   have hk:nth ps i=shN (cs0[i.toNat]).fields:=by
    unfold nth List.getD
    rw [hm,List.getElem?_map,List.getElem?_eq_getElem hl0]
    rfl
   have h1:=(hGl _ (hc0 _ (List.getElem_mem hl0)) hk).1
   rw [hG cs0 hc0 hm,show (i+1).toNat=i.toNat+1 by omega,List.take_succ,List.getElem?_eq_getElem hl0,h1]
   rfl
 ·simp only [bls] at hi
  obtain ⟨x1,y1,I1,J1,K1,hC1,hD1,hF1,hS1⟩:=h
  refine ⟨x1,hC1.load hS1 rfl,?_⟩
  refine OwnD.addS (a:=(⟨0,0,cs⟩:DeclD)) (J:=J) (R:=I1++(K1++(Iz++L))) hD1 (hS1.perm (by
   classical
   exact List.perm_iff_count.2 fun a=>by simp only [List.count_append];omega)) rfl ⟨x,J,rfl,zero_in,zero_in,hOx,rfl⟩ (by decide) (by omega) (by decide) ?_
  intro x7 w7 J7 hO7 hS7
  have hS8:St u w7 (I1++(J7++(K1++(Iz++L)))):=hS7.perm (by
   classical
   exact List.perm_iff_count.2 fun a=>by simp only [List.count_append];omega)
  refine hC1.store hS8 (by simp) fun w8 I8 hC8 hS9=>?_
  refine ⟨true,ds++[⟨0,0,cs⟩],rfl,⟨x7,y1,I8,J7,K1,hC8,hO7,hF1,hS9⟩,by rw [List.length_append,List.length_singleton];omega,fun cs0 hc0 hm=>⟨rfl,?_⟩⟩
  have hl0:=congrArg List.length hm
  rw [List.length_map] at hl0
  rw [hG cs0 hc0 hm,List.take_of_length_le (by omega)]
end
end Go.Vc
