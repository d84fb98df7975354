/- Part of the proofs about the heaps and memories: a law is joined in the text whose name ends in W and the law. -/
import Derived.Test.YtlcegaeioheikaaGreatEVcFn
import Derived.Test.YtlcegaeioheikaaGreatProg
import Derived.KernelRfl
set_option linter.all false
namespace Go.Vc
open Go Go.Proofs
abbrev QT:=Value→World→Prop
abbrev iV (n:Int):Value:=.int .i64 n
abbrev pt (a:Addr):Value:=.pointer (some (a.add 0))
abbrev Tr (f:Nat) (ar:Array Value) (w:World) (Q:QT):Prop:=Trip Tryz.prog f ar w Q
abbrev pF (f:Nat) (ar:Array Value) (w:World) (r:Value):Prop:=Trip Tryz.prog f ar w fun r' w'=>r'=r∧Sub w w'
abbrev eS (x:Sl):Prop:=((.sl x:SV)=.sl x)
abbrev eN (n:Int):Prop:=((.num .i64 n:SV)=.num .i64 n)
abbrev aS (t:Nat) (x y:Sl) (w:World) (K:Sl→World→Prop):Prop:=StepT Tryz.prog (Builtin.append_ #[t,t] t #[x.val,y.val]) w fun r w'=>∃ z:Sl,r=z.val∧K z w'
abbrev bS (t n:Nat) (ar:Array (Nat×Value)) (w:World) (K:Sl→World→Prop):Prop:=StepT Tryz.prog (Instr.buildSlice t n ar) w fun r w'=>∃ x:Sl,r=x.val∧(K x w')
abbrev zt0 (f:Nat) (ar:Array Value) (w:World) (K:Sl→Int→Int→World→Prop):Prop:=Trip Tryz.prog f ar w fun r w'=>∃ y0:Sl,∃ y1:Int,∃ y2:Int,r=.tuple #[.agg #[y0.val,.int .i64 y1],.int .i64 y2]∧K y0 y1 y2 w'
abbrev zt1 (f:Nat) (ar:Array Value) (w:World) (K:Bool→World→Prop):Prop:=Trip Tryz.prog f ar w fun r w'=>∃ y0:Bool,r=.bool y0∧K y0 w'
abbrev zt2 (f:Nat) (ar:Array Value) (w:World) (K:Addr→World→Prop):Prop:=Trip Tryz.prog f ar w fun r w'=>∃ y0:Addr,r=.pointer (some (y0.add 0))∧K y0 w'
abbrev zt3 (f:Nat) (ar:Array Value) (w:World) (K:Sl→Int→World→Prop):Prop:=Trip Tryz.prog f ar w fun r w'=>∃ y0:Sl,∃ y1:Int,r=.agg #[y0.val,.int .i64 y1]∧K y0 y1 w'
abbrev zt4 (f:Nat) (ar:Array Value) (w:World) (K:Int→World→Prop):Prop:=Trip Tryz.prog f ar w fun r w'=>∃ y0:Int,r=.int .i64 y0∧K y0 w'
abbrev zt5 (f:Nat) (ar:Array Value) (w:World) (K:World→Prop):Prop:=Trip Tryz.prog f ar w fun r w'=>r=.tuple #[]∧K  w'
abbrev zt6 (f:Nat) (ar:Array Value) (w:World) (K:Sl→Sl→World→Prop):Prop:=Trip Tryz.prog f ar w fun r w'=>∃ y0:Sl,∃ y1:Sl,r=.agg #[y0.val,y1.val]∧K y0 y1 w'
abbrev zt7 (f:Nat) (ar:Array Value) (w:World) (K:Sl→World→Prop):Prop:=Trip Tryz.prog f ar w fun r w'=>∃ y0:Sl,r=y0.val∧K y0 w'
abbrev zt8 (f:Nat) (ar:Array Value) (w:World) (K:Sl→Sl→Int→Sl→Int→World→Prop):Prop:=Trip Tryz.prog f ar w fun r w'=>∃ y0:Sl,∃ y1:Sl,∃ y2:Int,∃ y3:Sl,∃ y4:Int,r=.agg #[y0.val,y1.val,.int .i64 y2,y3.val,.int .i64 y4]∧K y0 y1 y2 y3 y4 w'
abbrev zt9 (f:Nat) (ar:Array Value) (w:World) (K:Sl→World→Prop):Prop:=Trip Tryz.prog f ar w fun r w'=>∃ y0:Sl,r=.agg #[y0.val]∧K y0 w'
abbrev zt10 (f:Nat) (ar:Array Value) (w:World) (K:Int→Int→Int→Sl→Sl→World→Prop):Prop:=Trip Tryz.prog f ar w fun r w'=>∃ y0:Int,∃ y1:Int,∃ y2:Int,∃ y3:Sl,∃ y4:Sl,r=.agg #[.int .i64 y0,.int .i64 y1,.int .i64 y2,y3.val,y4.val]∧K y0 y1 y2 y3 y4 w'
abbrev zt11 (f:Nat) (ar:Array Value) (w:World) (K:Sl→Int→Int→Int→Sl→World→Prop):Prop:=Trip Tryz.prog f ar w fun r w'=>∃ y0:Sl,∃ y1:Int,∃ y2:Int,∃ y3:Int,∃ y4:Sl,r=.agg #[y0.val,.int .i64 y1,.int .i64 y2,.int .i64 y3,y4.val]∧K y0 y1 y2 y3 y4 w'
abbrev zt12 (f:Nat) (ar:Array Value) (w:World) (K:Int→Int→Sl→World→Prop):Prop:=Trip Tryz.prog f ar w fun r w'=>∃ y0:Int,∃ y1:Int,∃ y2:Sl,r=.agg #[.int .i64 y0,.int .i64 y1,y2.val]∧K y0 y1 y2 w'
abbrev zt13 (f:Nat) (ar:Array Value) (w:World) (K:Addr→Bool→World→Prop):Prop:=Trip Tryz.prog f ar w fun r w'=>∃ y0:Addr,∃ y1:Bool,r=.tuple #[.pointer (some (y0.add 0)),.bool y1]∧K y0 y1 w'
abbrev zl0 (w:World) (x:Sl) (i:Int) (K:Int→Int→Int→Sl→Sl→Prop):Prop:=∃ y0:Int,∃ y1:Int,∃ y2:Int,∃ y3:Sl,∃ y4:Sl,(w.cell? ((elA x i 5).add 0)=some (.int .i64 y0)∧w.cell? ((elA x i 5).add 1)=some (.int .i64 y1)∧w.cell? ((elA x i 5).add 2)=some (.int .i64 y2)∧w.cell? ((elA x i 5).add 3)=some (y3.val)∧w.cell? ((elA x i 5).add 4)=some (y4.val))∧K y0 y1 y2 y3 y4
abbrev zl1 (w:World) (x:Sl) (i:Int) (K:Sl→Int→Prop):Prop:=∃ y0:Sl,∃ y1:Int,(w.cell? ((elA x i 2).add 0)=some (y0.val)∧w.cell? ((elA x i 2).add 1)=some (.int .i64 y1))∧K y0 y1
abbrev zl2 (w:World) (x:Sl) (i:Int) (K:Sl→Int→Prop):Prop:=∃ y0:Sl,∃ y1:Int,(w.cell? ((elA x i 5).add 3)=some (y0.val)∧w.cell? ((elA x i 5).add 4)=some (.int .i64 y1))∧K y0 y1
abbrev zl3 (w:World) (x:Sl) (i:Int) (K:Sl→Sl→Int→Sl→Int→Prop):Prop:=∃ y0:Sl,∃ y1:Sl,∃ y2:Int,∃ y3:Sl,∃ y4:Int,(w.cell? ((elA x i 5).add 0)=some (y0.val)∧w.cell? ((elA x i 5).add 1)=some (y1.val)∧w.cell? ((elA x i 5).add 2)=some (.int .i64 y2)∧w.cell? ((elA x i 5).add 3)=some (y3.val)∧w.cell? ((elA x i 5).add 4)=some (.int .i64 y4))∧K y0 y1 y2 y3 y4
abbrev zl4 (w:World) (x:Sl) (i:Int) (K:Sl→Int→Int→Int→Sl→Prop):Prop:=∃ y0:Sl,∃ y1:Int,∃ y2:Int,∃ y3:Int,∃ y4:Sl,(w.cell? ((elA x i 5).add 0)=some (y0.val)∧w.cell? ((elA x i 5).add 1)=some (.int .i64 y1)∧w.cell? ((elA x i 5).add 2)=some (.int .i64 y2)∧w.cell? ((elA x i 5).add 3)=some (.int .i64 y3)∧w.cell? ((elA x i 5).add 4)=some (y4.val))∧K y0 y1 y2 y3 y4
abbrev zl5 (w:World) (x:Sl) (i:Int) (K:Int→Int→Sl→Prop):Prop:=∃ y0:Int,∃ y1:Int,∃ y2:Sl,(w.cell? ((elA x i 3).add 0)=some (.int .i64 y0)∧w.cell? ((elA x i 3).add 1)=some (.int .i64 y1)∧w.cell? ((elA x i 3).add 2)=some (y2.val))∧K y0 y1 y2
abbrev zl6 (w:World) (x:Sl) (i:Int) (K:Int→Prop):Prop:=∃ y0:Int,w.cell? ((elA x i 1).add 0)=some (.int .i64 y0)∧K y0
abbrev zl7 (w:World) (x:Sl) (i:Int) (K:Sl→Prop):Prop:=∃ y0:Sl,w.cell? ((elA x i 5).add 4)=some (y0.val)∧K y0
abbrev zl8 (w:World) (x:Sl) (i:Int) (K:Sl→Prop):Prop:=∃ y0:Sl,w.cell? ((elA x i 5).add 1)=some (y0.val)∧K y0
abbrev zl9 (w:World) (x:Sl) (i:Int) (K:Sl→Prop):Prop:=∃ y0:Sl,w.cell? ((elA x i 5).add 0)=some (y0.val)∧K y0
abbrev zl10 (w:World) (x:Sl) (i:Int) (K:Int→Prop):Prop:=∃ y0:Int,w.cell? ((elA x i 5).add 1)=some (.int .i64 y0)∧K y0
abbrev zl11 (w:World) (x:Sl) (i:Int) (K:Sl→Prop):Prop:=∃ y0:Sl,w.cell? ((elA x i 3).add 2)=some (y0.val)∧K y0
abbrev zl12 (w:World) (x:Sl) (i:Int) (K:Sl→Prop):Prop:=∃ y0:Sl,w.cell? ((elA x i 1).add 0)=some (y0.val)∧K y0
abbrev zl13 (w:World) (x:Sl) (i:Int) (K:Int→Prop):Prop:=∃ y0:Int,w.cell? ((elA x i 3).add 0)=some (.int .i64 y0)∧K y0
abbrev zl14 (w:World) (x:Sl) (i:Int) (K:Int→Prop):Prop:=∃ y0:Int,w.cell? ((elA x i 3).add 1)=some (.int .i64 y0)∧K y0
abbrev zl15 (w:World) (x:Sl) (i:Int) (K:Sl→Prop):Prop:=∃ y0:Sl,w.cell? ((elA x i 5).add 3)=some (y0.val)∧K y0
abbrev zl16 (w:World) (x:Sl) (i:Int) (K:Int→Prop):Prop:=∃ y0:Int,w.cell? ((elA x i 5).add 0)=some (.int .i64 y0)∧K y0
abbrev zl17 (w:World) (x:Sl) (i:Int) (K:Int→Prop):Prop:=∃ y0:Int,w.cell? ((elA x i 5).add 2)=some (.int .i64 y0)∧K y0
abbrev zq0 (y0:Sl) (y1 y2 y3 y4:Int) (y5 y6:Sl) (K:Unit→Prop):Prop:=eS y0∧eN y1∧eN y2∧eN y3∧eN y4∧eS y5∧eS y6∧K ()
abbrev zq1 (y0:Sl) (y1:Int) (K:Unit→Prop):Prop:=eS y0∧eN y1∧K ()
abbrev zq2 (y0 y1 y2:Int) (y3 y4:Sl) (K:Unit→Prop):Prop:=eN y0∧eN y1∧eN y2∧eS y3∧eS y4∧K ()
abbrev zq3 (y0 y1 y2 y3 y4:Sl) (K:Unit→Prop):Prop:=eS y0∧eS y1∧eS y2∧eS y3∧eS y4∧K ()
abbrev zq4 (y0 y1 y2 y3:Sl) (K:Unit→Prop):Prop:=eS y0∧eS y1∧eS y2∧eS y3∧K ()
abbrev zq5 (y0 y1 y2:Sl) (K:Unit→Prop):Prop:=eS y0∧eS y1∧eS y2∧K ()
abbrev zq6 (y0 y1 y2 y3 y4 y5:Sl) (K:Unit→Prop):Prop:=eS y0∧eS y1∧eS y2∧eS y3∧eS y4∧eS y5∧K ()
abbrev zq7 (y0 y1 y2 y3 y4:Sl) (y5:Int) (K:Unit→Prop):Prop:=eS y0∧eS y1∧eS y2∧eS y3∧eS y4∧eN y5∧K ()
abbrev zq8 (y0:Sl) (y1:Int) (y2:Sl) (y3 y4:Int) (K:Unit→Prop):Prop:=eS y0∧eN y1∧eS y2∧eN y3∧eN y4∧K ()
abbrev zq9 (y0 y1:Sl) (y2 y3:Int) (y4:Sl) (K:Unit→Prop):Prop:=eS y0∧eS y1∧eN y2∧eN y3∧eS y4∧K ()
abbrev zq10 (y0 y1:Sl) (K:Unit→Prop):Prop:=eS y0∧eS y1∧K ()
abbrev zq11 (y0:Sl) (y1:Int) (y2:Sl) (y3:Int) (K:Unit→Prop):Prop:=eS y0∧eN y1∧eS y2∧eN y3∧K ()
abbrev zq12 (y0:Sl) (y1:Int) (y2:Sl) (y3 y4 y5 y6:Int) (y7 y8:Sl) (K:Unit→Prop):Prop:=eS y0∧eN y1∧eS y2∧eN y3∧eN y4∧eN y5∧eN y6∧eS y7∧eS y8∧K ()
abbrev zq13 (y0 y1 y2:Sl) (y3:Int) (y4:Sl) (y5:Int) (y6:Sl) (y7 y8 y9 y10:Int) (y11 y12:Sl) (K:Unit→Prop):Prop:=eS y0∧eS y1∧eS y2∧eN y3∧eS y4∧eN y5∧eS y6∧eN y7∧eN y8∧eN y9∧eN y10∧eS y11∧eS y12∧K ()
abbrev zq14 (y0 y1 y2:Sl) (y3:Int) (y4:Sl) (y5 y6:Int) (K:Unit→Prop):Prop:=eS y0∧eS y1∧eS y2∧eN y3∧eS y4∧eN y5∧eN y6∧K ()
abbrev zq15 (y0 y1 y2:Int) (y3 y4:Sl) (y5 y6 y7:Int) (y8 y9:Sl) (K:Unit→Prop):Prop:=eN y0∧eN y1∧eN y2∧eS y3∧eS y4∧eN y5∧eN y6∧eN y7∧eS y8∧eS y9∧K ()
abbrev zq16 (y0 y1:Sl) (y2 y3:Int) (y4:Sl) (y5 y6:Int) (y7:Sl) (y8 y9:Int) (y10:Sl) (K:Unit→Prop):Prop:=eS y0∧eS y1∧eN y2∧eN y3∧eS y4∧eN y5∧eN y6∧eS y7∧eN y8∧eN y9∧eS y10∧K ()
abbrev zq17 (y0 y1:Sl) (y2 y3:Int) (y4:Sl) (y5 y6:Int) (y7:Sl) (K:Unit→Prop):Prop:=eS y0∧eS y1∧eN y2∧eN y3∧eS y4∧eN y5∧eN y6∧eS y7∧K ()
abbrev zq18 (y0 y1 y2 y3:Sl) (y4:Int) (y5:Sl) (y6:Int) (y7:Sl) (y8:Int) (K:Unit→Prop):Prop:=eS y0∧eS y1∧eS y2∧eS y3∧eN y4∧eS y5∧eN y6∧eS y7∧eN y8∧K ()
abbrev zq19 (y0 y1:Sl) (y2:Int) (y3:Sl) (y4:Int) (K:Unit→Prop):Prop:=eS y0∧eS y1∧eN y2∧eS y3∧eN y4∧K ()
abbrev zq20 (y0 y1:Int) (y2:Sl) (y3 y4:Int) (y5:Sl) (K:Unit→Prop):Prop:=eN y0∧eN y1∧eS y2∧eN y3∧eN y4∧eS y5∧K ()
abbrev zq21 (y0 y1:Int) (y2:Sl) (K:Unit→Prop):Prop:=eN y0∧eN y1∧eS y2∧K ()
abbrev zq22 (y0 y1:Sl) (y2 y3 y4:Int) (y5 y6:Sl) (K:Unit→Prop):Prop:=eS y0∧eS y1∧eN y2∧eN y3∧eN y4∧eS y5∧eS y6∧K ()
abbrev zq23 (y0 y1:Sl) (y2 y3 y4:Int) (y5 y6:Sl) (y7 y8 y9:Int) (y10 y11:Sl) (K:Unit→Prop):Prop:=eS y0∧eS y1∧eN y2∧eN y3∧eN y4∧eS y5∧eS y6∧eN y7∧eN y8∧eN y9∧eS y10∧eS y11∧K ()
abbrev zq24 (y0 y1 y2:Sl) (y3:Int) (K:Unit→Prop):Prop:=eS y0∧eS y1∧eS y2∧eN y3∧K ()
abbrev zq25 (y0 y1 y2:Sl) (y3:Int) (y4:Sl) (y5:Int) (K:Unit→Prop):Prop:=eS y0∧eS y1∧eS y2∧eN y3∧eS y4∧eN y5∧K ()
abbrev zI0:=Int→Int→World→Prop
abbrev zN0:=Int→Int→World→Nat
abbrev zI1:=Int→World→Prop
abbrev zN1:=Int→World→Nat
abbrev zI2:=Int→Sl→World→Prop
abbrev zN2:=Int→Sl→World→Nat
abbrev zI3:=Int→Sl→Sl→World→Prop
abbrev zN3:=Int→Sl→Sl→World→Nat
abbrev zI4:=Sl→Int→World→Prop
abbrev zN4:=Sl→Int→World→Nat
abbrev zI5:=Sl→Sl→Int→World→Prop
abbrev zN5:=Sl→Sl→Int→World→Nat
abbrev zI6:=Int→Int→Sl→World→Prop
abbrev zN6:=Int→Int→Sl→World→Nat
abbrev zI7:=Int→Int→Int→Sl→World→Prop
abbrev zN7:=Int→Int→Int→Sl→World→Nat
abbrev zI8:=Sl→Bool→Int→World→Prop
abbrev zN8:=Sl→Bool→Int→World→Nat
abbrev zI9:=Bool→Int→World→Prop
abbrev zN9:=Bool→Int→World→Nat
abbrev zq26 (y0 y1 y2:Sl) (y3:Int) (y4:Sl) (y5 y6 y7 y8:Int) (y9 y10:Sl) (K:Unit→Prop):Prop:=eS y0∧eS y1∧eS y2∧eN y3∧eS y4∧eN y5∧eN y6∧eN y7∧eN y8∧eS y9∧eS y10∧K ()
abbrev zq27 (y0 y1 y2:Sl) (y3 y4 y5 y6:Int) (y7 y8:Sl) (K:Unit→Prop):Prop:=eS y0∧eS y1∧eS y2∧eN y3∧eN y4∧eN y5∧eN y6∧eS y7∧eS y8∧K ()
abbrev zI10:=Sl→Sl→Sl→Int→World→Prop
abbrev zN10:=Sl→Sl→Sl→Int→World→Nat
abbrev psG:List Nat:=[7,8,10,11,12,14,15,19,23,24,25,28,31,35,36,68,74,81,82,84,88,91,92,97,106,107,108,109,113,116,117,124,125,126,127,131,132,141,150,151,152,153,154,155,156,157,158,160,162,163,166,169,170,171,174,176]
abbrev aG:Ann:=⟨[],[],[],[],psG⟩
def vc4 (x_0:Sl) (v:World) (Q:QT):Prop:=
 ((decide ((x_0.n:Int) > 1048576))=true→
 Q (.bool true) v)∧
 ((decide ((x_0.n:Int) > 1048576))=false→
 zt0 9 #[x_0.val] v fun x3 n4 n5 w2=>
 ∃ n6,(pF 10 #[.agg #[x3.val,iV n4],iV n5] w2 (iV n6))∧
 ∃ n9,(pF 11 #[.agg #[x3.val,iV n4],iV n5] w2 (iV n9))∧
 ((((!decide (n6=n9)) || (decide (n6 < 0))) || (decide ((x3.n:Int)=0)))=true→
 ∃ n12,(pF 11 #[.agg #[x3.val,iV n4],iV n5] w2 (iV n12))∧
 Q (.bool (decide (n6=n12))) w2)∧
 ((((!decide (n6=n9)) || (decide (n6 < 0))) || (decide ((x3.n:Int)=0)))=false→
 IxOk x3 0∧
 zl0 w2 x3 0 fun n15 n16 n17 x18 x19=>
 ∃ q20,(pF 12 #[.agg #[iV n15,iV n16,iV n17,x18.val,x19.val]] w2 (.bool q20))∧
 ((!q20)=true→
 ∃ I23:zI0,∃ m24:zN0,I23 0 0 w2∧
 ∀ n25 n26 w27,I23 n25 n26 w27→
 ((decide (n26 < (x18.n:Int)))=true→
 IxOk x18 n26∧
 zl6 w27 x18 n26 fun n28=>
 ((decide (n28=n5))=true→
 ∃ n29,Wr .i64 (n25+1) n29∧
 ∃ n30,Wr .i64 (n26+1) n30∧
 zq0 x3 n4 n15 n16 n17 x18 x19 fun _=>
 I23 n29 n30 w27∧
 m24 n29 n30 w27 < m24 n25 n26 w27)∧
 ((decide (n28=n5))=false→
 ∃ n31,Wr .i64 (n26+1) n31∧
 zq0 x3 n4 n15 n16 n17 x18 x19 fun _=>
 I23 n25 n31 w27∧
 m24 n25 n31 w27 < m24 n25 n26 w27))∧
 ((decide (n26 < (x18.n:Int)))=false→
 ∃ I32:zI0,∃ m33:zN0,I32 n25 0 w27∧
 ∀ n34 n35 w36,I32 n34 n35 w36→
 ((decide (n35 < (x19.n:Int)))=true→
 IxOk x19 n35∧
 zl1 w36 x19 n35 fun x37 n38=>
 ∃ n39,(pF 10 #[.agg #[x37.val,iV n38],iV n5] w36 (iV n39))∧
 ∃ n42,Wr .i64 (n34+n39) n42∧
 ∃ n43,Wr .i64 (n35+1) n43∧
 zq0 x3 n4 n15 n16 n17 x18 x19 fun _=>
 I32 n42 n43 w36∧
 m33 n42 n43 w36 < m33 n34 n35 w36)∧
 ((decide (n35 < (x19.n:Int)))=false→
 ((0:Int)≤1∧1≤(x3.n:Int))∧
 ∃ n44,(pF 10 #[.agg #[(x3.cut 1 (x3.n:Int) 5).val,iV n4],iV n5] w36 (iV n44))∧
 ∃ n47,Wr .i64 (n34+n44) n47∧
 Q (.bool (decide (n6=n47))) w36)))∧
 ((!q20)=false→
 ((0:Int)≤1∧1≤(x3.n:Int))∧
 ∃ n48,(pF 10 #[.agg #[(x3.cut 1 (x3.n:Int) 5).val,iV n4],iV n5] w2 (iV n48))∧
 ∃ n51,Wr .i64 (0+n48) n51∧
 Q (.bool (decide (n6=n51))) w2)))
theorem of4 (x_0:Sl) (v:World) (Q:QT) (h:vc4 x_0 v Q):Tr 4 #[x_0.val] v Q:=
 trip_of_eq (args:=[.sl x_0]) (A:=⟨[(11,[(6,.int .i64),(8,.int .i64)],[]),(16,[(6,.int .i64),(9,.int .i64)],[])],[],[],[],psG⟩) Tryz.func4 (by kernel_rfl) (by kernel_rfl) (by kernel_rfl) h
def vc7 (x0_0:Sl) (n0_1:Int) (v:World) (Q:QT):Prop:=
 NewAt v (.cells #[iV 0] 3 (0,0)) fun a1 w2=>
 StoreAt w2 a1 0 [iV 0] fun w3=>
 zt1 18 #[.agg #[x0_0.val,iV n0_1],pt a1] w3 fun q6 w5=>
 ((!q6)=true→
 Q (iV (-1)) w5)∧
 ((!q6)=false→
 ∃ n7:Int,w5.cell? (a1.add 0)=some (iV n7)∧
 Q (iV n7) w5)
theorem of7 (x0_0:Sl) (n0_1:Int) (v:World) (Q:QT) (h:vc7 x0_0 n0_1 v Q):Tr 7 #[.agg #[x0_0.val,iV n0_1]] v Q:=
 trip_of_eq (args:=[.ag [.sl x0_0,.num .i64 n0_1]]) (A:=⟨[],[],[],[3],psG⟩) Tryz.func7 (by kernel_rfl) (by kernel_rfl) (by kernel_rfl) h
def vc9 (x_0:Sl) (v:World) (Q:QT):Prop:=
 zt2 17 #[x_0.val] v fun a3 w2=>
 zt3 16 #[pt a3] w2 fun x6 n7 w5=>
 bS 28 8 #[(0,(iV 0)),(1,(iV 1)),(2,(iV 2)),(3,(iV 3)),(4,(iV 4)),(5,(iV 6)),(6,(iV (-1))),(7,(iV n7))] w5 fun x10 w9=>
 zt4 20 #[pt a3,x10.val] w9 fun n13 w12=>
 Q (.tuple #[.agg #[x6.val,iV n7],iV n13]) w12
theorem of9 (x_0:Sl) (v:World) (Q:QT) (h:vc9 x_0 v Q):Tr 9 #[x_0.val] v Q:=
 trip_of_eq (args:=[.sl x_0]) (A:=⟨[],[],[(3,[])],[],psG⟩) Tryz.func9 (by kernel_rfl) (by kernel_rfl) (by kernel_rfl) h
def vc10 (x0_0:Sl) (n0_1 n_1:Int) (v:World) (Q:QT):Prop:=
 NewAt v (.cells #[iV n_1] 3 (0,0)) fun a1 w2=>
 ∃ n3,(pF 7 #[.agg #[x0_0.val,iV n0_1]] w2 (iV n3))∧
 ((decide (n3 < 0))=true→
 Q (iV (-1)) w2)∧
 ((decide (n3 < 0))=false→
 NewAt w2 (.cells #[iV 0] 3 (0,0)) fun a6 w7=>
 StoreAt w7 a6 0 [iV 0] fun w8=>
 zt5 21 #[.agg #[x0_0.val,iV n0_1],iV 0,.func (.func 22) #[] #[pt a1,pt a6]] w8 fun  w10=>
 ∃ n11:Int,w10.cell? (a6.add 0)=some (iV n11)∧
 Q (iV n11) w10)
theorem of10 (x0_0:Sl) (n0_1 n_1:Int) (v:World) (Q:QT) (h:vc10 x0_0 n0_1 n_1 v Q):Tr 10 #[.agg #[x0_0.val,iV n0_1],iV n_1] v Q:=
 trip_of_eq (args:=[.ag [.sl x0_0,.num .i64 n0_1],.num .i64 n_1]) (A:=⟨[],[],[],[3,5],psG⟩) Tryz.func10 (by kernel_rfl) (by kernel_rfl) (by kernel_rfl) h
def vc11 (x0_0:Sl) (n0_1 n_1:Int) (v:World) (Q:QT):Prop:=
 ∃ n1,(pF 19 #[.agg #[x0_0.val,iV n0_1]] v (iV n1))∧
 ((decide (n1 < 0))=true→
 Q (iV (-1)) v)∧
 ((decide (n1 < 0))=false→
 ∃ n4,(pF 23 #[.agg #[x0_0.val,iV n0_1],iV n_1] v (iV n4))∧
 Q (iV n4) v)
theorem of11 (x0_0:Sl) (n0_1 n_1:Int) (v:World) (Q:QT) (h:vc11 x0_0 n0_1 n_1 v Q):Tr 11 #[.agg #[x0_0.val,iV n0_1],iV n_1] v Q:=
 trip_of_eq (args:=[.ag [.sl x0_0,.num .i64 n0_1],.num .i64 n_1]) (A:=aG) Tryz.func11 (by kernel_rfl) (by kernel_rfl) (by kernel_rfl) h
def vc12 (n0_0 n0_1 n0_2:Int) (x0_3 x0_4:Sl) (v:World) (Q:QT):Prop:=
 Q (.bool ((decide (n0_0≥14)) && (decide (n0_0≤17)))) v
theorem of12 (n0_0 n0_1 n0_2:Int) (x0_3 x0_4:Sl) (v:World) (Q:QT) (h:vc12 n0_0 n0_1 n0_2 x0_3 x0_4 v Q):Tr 12 #[.agg #[iV n0_0,iV n0_1,iV n0_2,x0_3.val,x0_4.val]] v Q:=
 trip_of_eq (args:=[.ag [.num .i64 n0_0,.num .i64 n0_1,.num .i64 n0_2,.sl x0_3,.sl x0_4]]) (A:=aG) Tryz.func12 (by kernel_rfl) (by kernel_rfl) (by kernel_rfl) h
def vc16 (a_0:Addr) (v:World) (Q:QT):Prop:=
 zt6 26 #[pt a_0] v fun x3 x4 w2=>
 (zt4 27 #[pt a_0,iV (x4.n:Int)] w2 fun n7 w6=>
 IxOk x4 n7∧
 zl2 w6 x4 n7 fun x8 n9=>
 Sub w6 w6∧
 ∃ n10,Wr .i64 ((x8.n:Int)+1) n10∧
 zt4 27 #[pt a_0,iV n10] w6 fun n13 w12=>
 ((decide (n13 < (x8.n:Int)))=true→
 IxOk x8 n13)∧
 ∃ x14:Sl,((decide (n13 < (x8.n:Int)))=true→
 w12.cell? ((elA x8 n13 5).add 4)=some (x14.val))∧
 (((decide (n13 < (x8.n:Int))) && (decide ((x14.n:Int) > 0)))=true→
 IxOk x8 n13∧
 zl7 w12 x8 n13 fun x15=>
 (IxOk x8 n13∧
 (zl7 w12 x8 n13 fun x16=>
 zt4 27 #[pt a_0,iV (x15.n:Int)] w12 fun n19 w18=>
 IxOk x16 n19∧
 zl1 w18 x16 n19 fun x20 n21=>
 Q (.agg #[x20.val,iV n21]) w18)∧
 zt4 27 #[pt a_0,iV (x15.n:Int)] w12 fun n24 w23=>
 zl7 w23 x8 n13 fun x25=>
 IxOk x25 n24∧
 zl1 w23 x25 n24 fun x26 n27=>
 Q (.agg #[x26.val,iV n27]) w23)∧
 zt4 27 #[pt a_0,iV (x15.n:Int)] w12 fun n30 w29=>
 IxOk x8 n13∧
 zl7 w29 x8 n13 fun x31=>
 IxOk x31 n30∧
 zl1 w29 x31 n30 fun x32 n33=>
 Q (.agg #[x32.val,iV n33]) w29)∧
 (((decide (n13 < (x8.n:Int))) && (decide ((x14.n:Int) > 0)))=false→
 Q (.agg #[x8.val,iV n9]) w12))∧
 Sub w2 w2∧
 zt4 27 #[pt a_0,iV (x4.n:Int)] w2 fun n36 w35=>
 IxOk x4 n36∧
 zl2 w35 x4 n36 fun x37 n38=>
 ∃ n39,Wr .i64 ((x37.n:Int)+1) n39∧
 zt4 27 #[pt a_0,iV n39] w35 fun n42 w41=>
 ((decide (n42 < (x37.n:Int)))=true→
 IxOk x37 n42)∧
 ∃ x43:Sl,((decide (n42 < (x37.n:Int)))=true→
 w41.cell? ((elA x37 n42 5).add 4)=some (x43.val))∧
 (((decide (n42 < (x37.n:Int))) && (decide ((x43.n:Int) > 0)))=true→
 IxOk x37 n42∧
 zl7 w41 x37 n42 fun x44=>
 (IxOk x37 n42∧
 (zl7 w41 x37 n42 fun x45=>
 zt4 27 #[pt a_0,iV (x44.n:Int)] w41 fun n48 w47=>
 IxOk x45 n48∧
 zl1 w47 x45 n48 fun x49 n50=>
 Q (.agg #[x49.val,iV n50]) w47)∧
 zt4 27 #[pt a_0,iV (x44.n:Int)] w41 fun n53 w52=>
 zl7 w52 x37 n42 fun x54=>
 IxOk x54 n53∧
 zl1 w52 x54 n53 fun x55 n56=>
 Q (.agg #[x55.val,iV n56]) w52)∧
 zt4 27 #[pt a_0,iV (x44.n:Int)] w41 fun n59 w58=>
 IxOk x37 n42∧
 zl7 w58 x37 n42 fun x60=>
 IxOk x60 n59∧
 zl1 w58 x60 n59 fun x61 n62=>
 Q (.agg #[x61.val,iV n62]) w58)∧
 (((decide (n42 < (x37.n:Int))) && (decide ((x43.n:Int) > 0)))=false→
 Q (.agg #[x37.val,iV n38]) w41)
theorem of16 (a_0:Addr) (v:World) (Q:QT) (h:vc16 a_0 v Q):Tr 16 #[pt a_0] v Q:=
 trip_of_eq (args:=[.pt a_0 0]) (A:=⟨[],[],[(2,[10]),(5,[])],[],psG⟩) Tryz.func16 (by kernel_rfl) (by kernel_rfl) (by kernel_rfl) h
def vc17 (x_0:Sl) (v:World) (Q:QT):Prop:=
 ((decide ((x_0.n:Int) > 2000))=true→
 CutOk x_0 0 2000∧
 NewAt v (.cells #[(x_0.cut 0 2000 1).val,iV 0] 56 (0,0)) fun a1 w2=>
 Q (pt a1) w2)∧
 ((decide ((x_0.n:Int) > 2000))=false→
 NewAt v (.cells #[x_0.val,iV 0] 56 (0,0)) fun a3 w4=>
 Q (pt a3) w4)
theorem of17 (x_0:Sl) (v:World) (Q:QT) (h:vc17 x_0 v Q):Tr 17 #[x_0.val] v Q:=
 trip_of_eq (args:=[.sl x_0]) (A:=⟨[],[],[],[10],psG⟩) Tryz.func17 (by kernel_rfl) (by kernel_rfl) (by kernel_rfl) h
def vc18 (x0_0:Sl) (n0_1:Int) (a_1:Addr) (v:World) (Q:QT):Prop:=
 ∃ I1:zI1,∃ m2:zN1,I1 0 v∧
 ∀ n3 w4,I1 n3 w4→
 ((decide (n3 < (x0_0.n:Int)))=true→
 IxOk x0_0 n3∧
 zl0 w4 x0_0 n3 fun n5 n6 n7 x8 x9=>
 ∃ n10:Int,w4.cell? (a_1.add 0)=some (iV n10)∧
 ∃ n11,Wr .i64 (n10+1) n11∧
 StoreAt w4 a_1 0 [iV n11] fun w12=>
 ∃ n13:Int,w12.cell? (a_1.add 0)=some (iV n13)∧
 ((decide (n13 > 600))=true→
 Q (.bool false) w12)∧
 ((decide (n13 > 600))=false→
 ∃ I14:zI1,∃ m15:zN1,I14 0 w12∧
 ∀ n16 w17,I14 n16 w17→
 ((decide (n16 < (x9.n:Int)))=true→
 IxOk x9 n16∧
 zl1 w17 x9 n16 fun x18 n19=>
 zt1 18 #[.agg #[x18.val,iV n19],pt a_1] w17 fun q22 w21=>
 ((!q22)=true→
 Q (.bool false) w21)∧
 ((!q22)=false→
 ∃ n23,Wr .i64 (n16+1) n23∧
 zq0 x0_0 n0_1 n5 n6 n7 x8 x9 fun _=>
 I14 n23 w21∧
 m15 n23 w21 < m15 n16 w17))∧
 ((decide (n16 < (x9.n:Int)))=false→
 ∃ n24,Wr .i64 (n3+1) n24∧
 zq1 x0_0 n0_1 fun _=>
 I1 n24 w17∧
 m2 n24 w17 < m2 n3 w4)))∧
 ((decide (n3 < (x0_0.n:Int)))=false→
 Q (.bool true) w4)
theorem of18 (x0_0:Sl) (n0_1:Int) (a_1:Addr) (v:World) (Q:QT) (h:vc18 x0_0 n0_1 a_1 v Q):Tr 18 #[.agg #[x0_0.val,iV n0_1],pt a_1] v Q:=
 trip_of_eq (args:=[.ag [.sl x0_0,.num .i64 n0_1],.pt a_1 0]) (A:=⟨[(2,[(12,.int .i64)],[]),(8,[(28,.int .i64)],[])],[],[],[],psG⟩) Tryz.func18 (by kernel_rfl) (by kernel_rfl) (by kernel_rfl) h
def vc19 (x0_0:Sl) (n0_1:Int) (v:World) (Q:QT):Prop:=
 ∃ n1,(pF 28 #[.agg #[x0_0.val,iV n0_1],iV 600] v (iV n1))∧
 ((decide (n1 < 0))=true→
 Q (iV (-1)) v)∧
 ((decide (n1 < 0))=false→
 ∃ n4,Wr .i64 (600 - n1) n4∧
 Q (iV n4) v)
theorem of19 (x0_0:Sl) (n0_1:Int) (v:World) (Q:QT) (h:vc19 x0_0 n0_1 v Q):Tr 19 #[.agg #[x0_0.val,iV n0_1]] v Q:=
 trip_of_eq (args:=[.ag [.sl x0_0,.num .i64 n0_1]]) (A:=aG) Tryz.func19 (by kernel_rfl) (by kernel_rfl) (by kernel_rfl) h
def vc20 (a_0:Addr) (x_1:Sl) (v:World) (Q:QT):Prop:=
 zt4 27 #[pt a_0,iV (x_1.n:Int)] v fun n3 w2=>
 IxOk x_1 n3∧
 zl6 w2 x_1 n3 fun n4=>
 Q (iV n4) w2
theorem of20 (a_0:Addr) (x_1:Sl) (v:World) (Q:QT) (h:vc20 a_0 x_1 v Q):Tr 20 #[pt a_0,x_1.val] v Q:=
 trip_of_eq (args:=[.pt a_0 0,.sl x_1]) (A:=aG) Tryz.func20 (by kernel_rfl) (by kernel_rfl) (by kernel_rfl) h
def vc21 (x0_0:Sl) (n0_1 n_1:Int) (f_2:Nat) (k2_0 k2_1:Addr) (v:World) (Q:QT):Prop:=
 ((0:Int)≤n_1∧n_1≤(x0_0.n:Int))∧
 ∃ I1:zI1,∃ m2:zN1,I1 0 v∧
 ∀ n3 w4,I1 n3 w4→
 ((decide (n3 < ((x0_0.cut n_1 (x0_0.n:Int) 5).n:Int)))=true→
 IxOk (x0_0.cut n_1 (x0_0.n:Int) 5) n3∧
 zl0 w4 (x0_0.cut n_1 (x0_0.n:Int) 5) n3 fun n5 n6 n7 x8 x9=>
 zt5 29 #[.agg #[iV n5,iV n6,iV n7,x8.val,x9.val],.func (.func f_2) #[] #[pt k2_0,pt k2_1]] w4 fun  w11=>
 ∃ n12,Wr .i64 (n3+1) n12∧
 zq1 x0_0 n0_1 fun _=>
 I1 n12 w11∧
 m2 n12 w11 < m2 n3 w4)∧
 ((decide (n3 < ((x0_0.cut n_1 (x0_0.n:Int) 5).n:Int)))=false→
 Tr f_2 #[iV n0_1,pt k2_0,pt k2_1] w4 fun r13 w14=>
 r13=.tuple #[]∧
 Q (.tuple #[]) w14)
theorem of21 (x0_0:Sl) (n0_1 n_1:Int) (f_2:Nat) (k2_0 k2_1:Addr) (v:World) (Q:QT) (h:vc21 x0_0 n0_1 n_1 f_2 k2_0 k2_1 v Q):Tr 21 #[.agg #[x0_0.val,iV n0_1],iV n_1,.func (.func f_2) #[] #[pt k2_0,pt k2_1]] v Q:=
 trip_of_eq (args:=[.ag [.sl x0_0,.num .i64 n0_1],.num .i64 n_1,.clo f_2 [.pt k2_0 0,.pt k2_1 0]]) (A:=⟨[(2,[(13,.int .i64)],[])],[],[],[],psG⟩) Tryz.func21 (by kernel_rfl) (by kernel_rfl) (by kernel_rfl) h
def vc22 (n_0:Int) (c_0 c_1:Addr) (v:World) (Q:QT):Prop:=
 ∃ n1:Int,v.cell? (c_0.add 0)=some (iV n1)∧
 ((decide (n_0=n1))=true→
 ∃ n2:Int,v.cell? (c_1.add 0)=some (iV n2)∧
 ∃ n3,Wr .i64 (n2+1) n3∧
 StoreAt v c_1 0 [iV n3] fun w4=>
 Q (.tuple #[]) w4)∧
 ((decide (n_0=n1))=false→
 Q (.tuple #[]) v)
theorem of22 (n_0:Int) (c_0 c_1:Addr) (v:World) (Q:QT) (h:vc22 n_0 c_0 c_1 v Q):Tr 22 #[iV n_0,pt c_0,pt c_1] v Q:=
 trip_of_eq (args:=[.num .i64 n_0,.pt c_0 0,.pt c_1 0]) (A:=aG) Tryz.func22 (by kernel_rfl) (by kernel_rfl) (by kernel_rfl) h
def vc23 (x0_0:Sl) (n0_1 n_1:Int) (v:World) (Q:QT):Prop:=
 ((decide (n0_1=n_1))=true→
 ∃ I1:zI0,∃ m2:zN0,I1 1 0 v∧
 ∀ n3 n4 w5,I1 n3 n4 w5→
 ((decide (n4 < (x0_0.n:Int)))=true→
 IxOk x0_0 n4∧
 zl0 w5 x0_0 n4 fun n6 n7 n8 x9 x10=>
 ∃ n11,(pF 25 #[.agg #[iV n6,iV n7,iV n8,x9.val,x10.val],iV n_1] w5 (iV n11))∧
 ∃ n14,Wr .i64 (n3+n11) n14∧
 ∃ n15,Wr .i64 (n4+1) n15∧
 zq1 x0_0 n0_1 fun _=>
 I1 n14 n15 w5∧
 m2 n14 n15 w5 < m2 n3 n4 w5)∧
 ((decide (n4 < (x0_0.n:Int)))=false→
 Q (iV n3) w5))∧
 ((decide (n0_1=n_1))=false→
 ∃ I16:zI0,∃ m17:zN0,I16 0 0 v∧
 ∀ n18 n19 w20,I16 n18 n19 w20→
 ((decide (n19 < (x0_0.n:Int)))=true→
 IxOk x0_0 n19∧
 zl0 w20 x0_0 n19 fun n21 n22 n23 x24 x25=>
 ∃ n26,(pF 25 #[.agg #[iV n21,iV n22,iV n23,x24.val,x25.val],iV n_1] w20 (iV n26))∧
 ∃ n29,Wr .i64 (n18+n26) n29∧
 ∃ n30,Wr .i64 (n19+1) n30∧
 zq1 x0_0 n0_1 fun _=>
 I16 n29 n30 w20∧
 m17 n29 n30 w20 < m17 n18 n19 w20)∧
 ((decide (n19 < (x0_0.n:Int)))=false→
 Q (iV n18) w20))
theorem of23 (x0_0:Sl) (n0_1 n_1:Int) (v:World) (Q:QT) (h:vc23 x0_0 n0_1 n_1 v Q):Tr 23 #[.agg #[x0_0.val,iV n0_1],iV n_1] v Q:=
 trip_of_eq (args:=[.ag [.sl x0_0,.num .i64 n0_1],.num .i64 n_1]) (A:=⟨[(5,[(5,.int .i64),(6,.int .i64)],[])],[],[],[],psG⟩) Tryz.func23 (by kernel_rfl) (by kernel_rfl) (by kernel_rfl) h
def vc25 (n0_0 n0_1 n0_2:Int) (x0_3 x0_4:Sl) (n_1:Int) (v:World) (Q:QT):Prop:=
 ∃ q1,(pF 31 #[iV n0_0] v (.bool q1))∧
 (q1=true→
 Q (iV 0) v)∧
 (q1=false→
 ∃ I4:zI0,∃ m5:zN0,I4 0 0 v∧
 ∀ n6 n7 w8,I4 n6 n7 w8→
 ((decide (n7 < (x0_3.n:Int)))=true→
 IxOk x0_3 n7∧
 zl6 w8 x0_3 n7 fun n9=>
 ((decide (n9=n_1))=true→
 ∃ n10,Wr .i64 (n6+1) n10∧
 ∃ n11,Wr .i64 (n7+1) n11∧
 zq2 n0_0 n0_1 n0_2 x0_3 x0_4 fun _=>
 I4 n10 n11 w8∧
 m5 n10 n11 w8 < m5 n6 n7 w8)∧
 ((decide (n9=n_1))=false→
 ∃ n12,Wr .i64 (n7+1) n12∧
 zq2 n0_0 n0_1 n0_2 x0_3 x0_4 fun _=>
 I4 n6 n12 w8∧
 m5 n6 n12 w8 < m5 n6 n7 w8))∧
 ((decide (n7 < (x0_3.n:Int)))=false→
 ∃ I13:zI0,∃ m14:zN0,I13 n6 0 w8∧
 ∀ n15 n16 w17,I13 n15 n16 w17→
 ((decide (n16 < (x0_4.n:Int)))=true→
 IxOk x0_4 n16∧
 zl1 w17 x0_4 n16 fun x18 n19=>
 ∃ n20,(pF 23 #[.agg #[x18.val,iV n19],iV n_1] w17 (iV n20))∧
 ∃ n23,Wr .i64 (n15+n20) n23∧
 ∃ n24,Wr .i64 (n16+1) n24∧
 zq2 n0_0 n0_1 n0_2 x0_3 x0_4 fun _=>
 I13 n23 n24 w17∧
 m14 n23 n24 w17 < m14 n15 n16 w17)∧
 ((decide (n16 < (x0_4.n:Int)))=false→
 Q (iV n15) w17)))
theorem of25 (n0_0 n0_1 n0_2:Int) (x0_3 x0_4:Sl) (n_1:Int) (v:World) (Q:QT) (h:vc25 n0_0 n0_1 n0_2 x0_3 x0_4 n_1 v Q):Tr 25 #[.agg #[iV n0_0,iV n0_1,iV n0_2,x0_3.val,x0_4.val],iV n_1] v Q:=
 trip_of_eq (args:=[.ag [.num .i64 n0_0,.num .i64 n0_1,.num .i64 n0_2,.sl x0_3,.sl x0_4],.num .i64 n_1]) (A:=⟨[(5,[(5,.int .i64),(6,.int .i64)],[]),(10,[(5,.int .i64),(7,.int .i64)],[])],[],[],[],psG⟩) Tryz.func25 (by kernel_rfl) (by kernel_rfl) (by kernel_rfl) h
def vc26 (a_0:Addr) (v:World) (Q:QT):Prop:=
 zt4 27 #[pt a_0,iV 4] v fun n3 w2=>
 ((decide (n3=0))=true→
 zt6 33 #[pt a_0] w2 fun x6 x7 w5=>
 zt6 32 #[pt a_0,.agg #[x6.val,x7.val],iV 8] w5 fun x10 x11 w9=>
 Q (.agg #[x10.val,x11.val]) w9)∧
 ((decide (n3=0))=false→
 zt6 34 #[pt a_0] w2 fun x14 x15 w13=>
 zt6 32 #[pt a_0,.agg #[x14.val,x15.val],iV 8] w13 fun x18 x19 w17=>
 Q (.agg #[x18.val,x19.val]) w17)
theorem of26 (a_0:Addr) (v:World) (Q:QT) (h:vc26 a_0 v Q):Tr 26 #[pt a_0] v Q:=
 trip_of_eq (args:=[.pt a_0 0]) (A:=aG) Tryz.func26 (by kernel_rfl) (by kernel_rfl) (by kernel_rfl) h
def vc27 (a_0:Addr) (n_1:Int) (v:World) (Q:QT):Prop:=
 ∃ n1:Int,v.cell? (a_0.add 1)=some (iV n1)∧
 ∃ n2,Wr .i64 (n1+1) n2∧
 StoreAt v a_0 1 [iV n2] fun w3=>
 ∃ x4:Sl,((decide (n_1 < 1))=false→
 w3.cell? (a_0.add 0)=some (x4.val))∧
 (((decide (n_1 < 1)) || (decide ((x4.n:Int)=0)))=true→
 Q (iV 0) w3)∧
 (((decide (n_1 < 1)) || (decide ((x4.n:Int)=0)))=false→
 ∃ n5:Int,w3.cell? (a_0.add 1)=some (iV n5)∧
 ∃ n6,Wr .i64 (n5 - 1) n6∧
 ∃ x7:Sl,w3.cell? (a_0.add 0)=some (x7.val)∧
 ((decide (n6 < (x7.n:Int)))=true→
 ∃ x8:Sl,w3.cell? (a_0.add 0)=some (x8.val)∧
 IxOk x8 n6∧
 ∃ n9:Int,w3.cell? ((elA x8 n6 1).add 0)=some (.int .u8 n9)∧
 ∃ n10,Wr .i64 n9 n10∧
 (n_1:Int)≠0∧
 Q (iV (Int.tmod n10 n_1)) w3)∧
 ((decide (n6 < (x7.n:Int)))=false→
 ∃ x11:Sl,w3.cell? (a_0.add 0)=some (x11.val)∧
 ∃ x12:Sl,w3.cell? (a_0.add 0)=some (x12.val)∧
 ((x12.n:Int):Int)≠0∧
 IxOk x11 (Int.tmod n6 (x12.n:Int))∧
 ∃ n13:Int,w3.cell? ((elA x11 (Int.tmod n6 (x12.n:Int)) 1).add 0)=some (.int .u8 n13)∧
 ∃ n14,Wr .i64 n13 n14∧
 ∃ n15,Wr .i64 (n14 * 131) n15∧
 ∃ x16:Sl,w3.cell? (a_0.add 0)=some (x16.val)∧
 ∃ n17,Wr .i64 (n6 * 7) n17∧
 ∃ n18,Wr .i64 (n17+3) n18∧
 ∃ x19:Sl,w3.cell? (a_0.add 0)=some (x19.val)∧
 ((x19.n:Int):Int)≠0∧
 IxOk x16 (Int.tmod n18 (x19.n:Int))∧
 ∃ n20:Int,w3.cell? ((elA x16 (Int.tmod n18 (x19.n:Int)) 1).add 0)=some (.int .u8 n20)∧
 ∃ n21,Wr .i64 n20 n21∧
 ∃ n22,Wr .i64 (n21 * 1117) n22∧
 ∃ n23,Wr .i64 (n15+n22) n23∧
 ∃ n24,Wr .i64 (n6 * 29) n24∧
 ∃ n25,Wr .i64 (n23+n24) n25∧
 ∃ x26:Sl,w3.cell? (a_0.add 0)=some (x26.val)∧
 ∃ n27:Int,(((x26.n:Int):Int)≠0∧Wr .i64 (Int.tdiv n6 (x26.n:Int)) n27)∧
 ∃ n28,Wr .i64 (n27 * 53) n28∧
 ∃ n29,Wr .i64 (n25+n28) n29∧
 ∃ n30:Int,((64:Int)≠0∧Wr .i64 (Int.tdiv n29 64) n30)∧
 ∃ n31:Int,PureT Tryz.prog (do eqGuard .xor 3 (.tmp 92) (.tmp 94) (iV n29) (iV n30);binOp .xor 3 (iV n29) (iV n30)) w3 (iV n31)∧
 (n_1:Int)≠0∧
 Q (iV (Int.tmod n31 n_1)) w3))
theorem of27 (a_0:Addr) (n_1:Int) (v:World) (Q:QT) (h:vc27 a_0 n_1 v Q):Tr 27 #[pt a_0,iV n_1] v Q:=
 trip_of_eq (args:=[.pt a_0 0,.num .i64 n_1]) (A:=aG) Tryz.func27 (by kernel_rfl) (by kernel_rfl) (by kernel_rfl) h
def vc28 (x0_0:Sl) (n0_1 n_1:Int) (v:World) (Q:QT):Prop:=
 ∃ I1:zI0,∃ m2:zN0,I1 n_1 0 v∧
 ∀ n3 n4 w5,I1 n3 n4 w5→
 ((decide (n4 < (x0_0.n:Int)))=true→
 ((decide (n3 < 1))=true→
 Q (iV (-1)) w5)∧
 ((decide (n3 < 1))=false→
 ∃ n6,Wr .i64 (n3 - 1) n6∧
 ∃ I7:zI0,∃ m8:zN0,I7 n6 0 w5∧
 ∀ n9 n10 w11,I7 n9 n10 w11→
 IxOk x0_0 n4∧
 zl7 w11 x0_0 n4 fun x12=>
 ((decide (n10 < (x12.n:Int)))=true→
 IxOk x0_0 n4∧
 zl7 w11 x0_0 n4 fun x13=>
 IxOk x13 n10∧
 zl1 w11 x13 n10 fun x14 n15=>
 ∃ n16,(pF 28 #[.agg #[x14.val,iV n15],iV n9] w11 (iV n16))∧
 ((decide (n16 < 0))=true→
 Q (iV (-1)) w11)∧
 ((decide (n16 < 0))=false→
 ∃ n19,Wr .i64 (n10+1) n19∧
 zq1 x0_0 n0_1 fun _=>
 I7 n16 n19 w11∧
 m8 n16 n19 w11 < m8 n9 n10 w11))∧
 ((decide (n10 < (x12.n:Int)))=false→
 ∃ n20,Wr .i64 (n4+1) n20∧
 zq1 x0_0 n0_1 fun _=>
 I1 n9 n20 w11∧
 m2 n9 n20 w11 < m2 n3 n4 w5)))∧
 ((decide (n4 < (x0_0.n:Int)))=false→
 Q (iV n3) w5)
theorem of28 (x0_0:Sl) (n0_1 n_1:Int) (v:World) (Q:QT) (h:vc28 x0_0 n0_1 n_1 v Q):Tr 28 #[.agg #[x0_0.val,iV n0_1],iV n_1] v Q:=
 trip_of_eq (args:=[.ag [.sl x0_0,.num .i64 n0_1],.num .i64 n_1]) (A:=⟨[(2,[(1,.int .i64),(5,.int .i64)],[]),(8,[(1,.int .i64),(6,.int .i64)],[])],[],[],[],psG⟩) Tryz.func28 (by kernel_rfl) (by kernel_rfl) (by kernel_rfl) h
def vc29 (n0_0 n0_1 n0_2:Int) (x0_3 x0_4:Sl) (f_1:Nat) (k1_0 k1_1:Addr) (v:World) (Q:QT):Prop:=
 ∃ q1,(pF 35 #[iV n0_0] v (.bool q1))∧
 (q1=true→
 Q (.tuple #[]) v)∧
 (q1=false→
 ∃ I4:zI1,∃ m5:zN1,I4 0 v∧
 ∀ n6 w7,I4 n6 w7→
 ((decide (n6 < (x0_3.n:Int)))=true→
 IxOk x0_3 n6∧
 zl6 w7 x0_3 n6 fun n8=>
 Tr f_1 #[iV n8,pt k1_0,pt k1_1] w7 fun r9 w10=>
 r9=.tuple #[]∧
 ∃ n11,Wr .i64 (n6+1) n11∧
 zq2 n0_0 n0_1 n0_2 x0_3 x0_4 fun _=>
 I4 n11 w10∧
 m5 n11 w10 < m5 n6 w7)∧
 ((decide (n6 < (x0_3.n:Int)))=false→
 ∃ I12:zI1,∃ m13:zN1,I12 0 w7∧
 ∀ n14 w15,I12 n14 w15→
 ((decide (n14 < (x0_4.n:Int)))=true→
 IxOk x0_4 n14∧
 zl1 w15 x0_4 n14 fun x16 n17=>
 zt5 21 #[.agg #[x16.val,iV n17],iV 0,.func (.func f_1) #[] #[pt k1_0,pt k1_1]] w15 fun  w19=>
 ∃ n20,Wr .i64 (n14+1) n20∧
 zq2 n0_0 n0_1 n0_2 x0_3 x0_4 fun _=>
 I12 n20 w19∧
 m13 n20 w19 < m13 n14 w15)∧
 ((decide (n14 < (x0_4.n:Int)))=false→
 Q (.tuple #[]) w15)))
theorem of29 (n0_0 n0_1 n0_2:Int) (x0_3 x0_4:Sl) (f_1:Nat) (k1_0 k1_1:Addr) (v:World) (Q:QT) (h:vc29 n0_0 n0_1 n0_2 x0_3 x0_4 f_1 k1_0 k1_1 v Q):Tr 29 #[.agg #[iV n0_0,iV n0_1,iV n0_2,x0_3.val,x0_4.val],.func (.func f_1) #[] #[pt k1_0,pt k1_1]] v Q:=
 trip_of_eq (args:=[.ag [.num .i64 n0_0,.num .i64 n0_1,.num .i64 n0_2,.sl x0_3,.sl x0_4],.clo f_1 [.pt k1_0 0,.pt k1_1 0]]) (A:=⟨[(3,[(14,.int .i64)],[]),(8,[(25,.int .i64)],[])],[],[],[],psG⟩) Tryz.func29 (by kernel_rfl) (by kernel_rfl) (by kernel_rfl) h
def vc31 (n_0:Int) (v:World) (Q:QT):Prop:=
 ∃ q1,(pF 36 #[iV n_0,iV 14,iV 17] v (.bool q1))∧
 Q (.bool q1) v
theorem of31 (n_0:Int) (v:World) (Q:QT) (h:vc31 n_0 v Q):Tr 31 #[iV n_0] v Q:=
 trip_of_eq (args:=[.num .i64 n_0]) (A:=aG) Tryz.func31 (by kernel_rfl) (by kernel_rfl) (by kernel_rfl) h
def vc32 (a_0:Addr) (x1_0 x1_1:Sl) (n_2:Int) (v:World) (Q:QT):Prop:=
 zt4 27 #[pt a_0,iV n_2] v fun n3 w2=>
 ((decide (n3 > 0))=true→
 Q (.agg #[x1_0.val,x1_1.val]) w2)∧
 ((decide (n3 > 0))=false→
 zt4 27 #[pt a_0,iV (x1_1.n:Int)] w2 fun n6 w5=>
 zt4 27 #[pt a_0,iV 8] w5 fun n9 w8=>
 ((decide (n9=0))=true→
 IxOk x1_1 n6∧
 zl2 w8 x1_1 n6 fun x10 n11=>
 (zt6 37 #[.agg #[x1_0.val,x1_1.val],iV n6,.agg #[x10.val,iV n11]] w8 fun x14 x15 w13=>
 Sub w13 w13∧
 IxOk x15 n6∧
 zl8 w13 x15 n6 fun x16=>
 zt7 38 #[pt a_0,x16.val] w13 fun x19 w18=>
 IxOk x15 n6∧
 StoreAt w18 (elA x15 n6 5) 1 [x19.val] fun w20=>
 Q (.agg #[x14.val,x15.val]) w20)∧
 Sub w8 w8∧
 zt6 37 #[.agg #[x1_0.val,x1_1.val],iV n6,.agg #[x10.val,iV n11]] w8 fun x23 x24 w22=>
 IxOk x24 n6∧
 zl8 w22 x24 n6 fun x25=>
 zt7 38 #[pt a_0,x25.val] w22 fun x28 w27=>
 IxOk x24 n6∧
 StoreAt w27 (elA x24 n6 5) 1 [x28.val] fun w29=>
 Q (.agg #[x23.val,x24.val]) w29)∧
 ((decide (n9=0))=false→
 ((decide (n9=1))=true→
 zt7 39 #[pt a_0] w8 fun x32 w31=>
 Q (.agg #[x32.val,x1_1.val]) w31)∧
 ((decide (n9=1))=false→
 IxOk x1_1 n6∧
 zl2 w8 x1_1 n6 fun x33 n34=>
 zt3 40 #[pt a_0,.agg #[x33.val,iV n34]] w8 fun x37 n38 w36=>
 zt6 37 #[.agg #[x1_0.val,x1_1.val],iV n6,.agg #[x37.val,iV n38]] w36 fun x41 x42 w40=>
 Q (.agg #[x41.val,x42.val]) w40)))
theorem of32 (a_0:Addr) (x1_0 x1_1:Sl) (n_2:Int) (v:World) (Q:QT) (h:vc32 a_0 x1_0 x1_1 n_2 v Q):Tr 32 #[pt a_0,.agg #[x1_0.val,x1_1.val],iV n_2] v Q:=
 trip_of_eq (args:=[.pt a_0 0,.ag [.sl x1_0,.sl x1_1],.num .i64 n_2]) (A:=⟨[],[],[(6,[9]),(7,[]),(10,[]),(11,[])],[],psG⟩) Tryz.func32 (by kernel_rfl) (by kernel_rfl) (by kernel_rfl) h
def vc33 (a_0:Addr) (v:World) (Q:QT):Prop:=
 zt6 42 #[pt a_0] v fun x3 x4 w2=>
 zt6 41 #[.agg #[x3.val,x4.val]] w2 fun x7 x8 w6=>
 zt4 27 #[pt a_0,iV 3] w6 fun n11 w10=>
 ((decide (n11=0))=true→
 zt6 43 #[.agg #[x7.val,x8.val]] w10 fun x14 x15 w13=>
 Q (.agg #[x14.val,x15.val]) w13)∧
 ((decide (n11=0))=false→
 Q (.agg #[x7.val,x8.val]) w10)
theorem of33 (a_0:Addr) (v:World) (Q:QT) (h:vc33 a_0 v Q):Tr 33 #[pt a_0] v Q:=
 trip_of_eq (args:=[.pt a_0 0]) (A:=aG) Tryz.func33 (by kernel_rfl) (by kernel_rfl) (by kernel_rfl) h
def vc34 (a_0:Addr) (v:World) (Q:QT):Prop:=
 zt6 44 #[pt a_0] v fun x3 x4 w2=>
 zt4 27 #[pt a_0,iV 4] w2 fun n7 w6=>
 ((decide (n7=0))=true→
 zt6 45 #[pt a_0,.agg #[x3.val,x4.val]] w6 fun x10 x11 w9=>
 zt4 27 #[pt a_0,iV 4] w9 fun n14 w13=>
 ((decide (n14=0))=true→
 zt6 46 #[.agg #[x10.val,x11.val]] w13 fun x17 x18 w16=>
 zt4 27 #[pt a_0,iV 3] w16 fun n21 w20=>
 ((decide (n21 > 0))=true→
 zt6 47 #[.agg #[x17.val,x18.val]] w20 fun x24 x25 w23=>
 ((decide (n21 > 1))=true→
 zt6 48 #[.agg #[x24.val,x25.val]] w23 fun x28 x29 w27=>
 zt4 27 #[pt a_0,iV 6] w27 fun n32 w31=>
 ((decide (n32=0))=true→
 zt6 45 #[pt a_0,.agg #[x28.val,x29.val]] w31 fun x35 x36 w34=>
 Q (.agg #[x35.val,x36.val]) w34)∧
 ((decide (n32=0))=false→
 Q (.agg #[x28.val,x29.val]) w31))∧
 ((decide (n21 > 1))=false→
 zt4 27 #[pt a_0,iV 6] w23 fun n39 w38=>
 ((decide (n39=0))=true→
 zt6 45 #[pt a_0,.agg #[x24.val,x25.val]] w38 fun x42 x43 w41=>
 Q (.agg #[x42.val,x43.val]) w41)∧
 ((decide (n39=0))=false→
 Q (.agg #[x24.val,x25.val]) w38)))∧
 ((decide (n21 > 0))=false→
 ((decide (n21 > 1))=true→
 zt6 48 #[.agg #[x17.val,x18.val]] w20 fun x46 x47 w45=>
 zt4 27 #[pt a_0,iV 6] w45 fun n50 w49=>
 ((decide (n50=0))=true→
 zt6 45 #[pt a_0,.agg #[x46.val,x47.val]] w49 fun x53 x54 w52=>
 Q (.agg #[x53.val,x54.val]) w52)∧
 ((decide (n50=0))=false→
 Q (.agg #[x46.val,x47.val]) w49))∧
 ((decide (n21 > 1))=false→
 zt4 27 #[pt a_0,iV 6] w20 fun n57 w56=>
 ((decide (n57=0))=true→
 zt6 45 #[pt a_0,.agg #[x17.val,x18.val]] w56 fun x60 x61 w59=>
 Q (.agg #[x60.val,x61.val]) w59)∧
 ((decide (n57=0))=false→
 Q (.agg #[x17.val,x18.val]) w56))))∧
 ((decide (n14=0))=false→
 zt4 27 #[pt a_0,iV 3] w13 fun n64 w63=>
 ((decide (n64 > 0))=true→
 zt6 47 #[.agg #[x10.val,x11.val]] w63 fun x67 x68 w66=>
 ((decide (n64 > 1))=true→
 zt6 48 #[.agg #[x67.val,x68.val]] w66 fun x71 x72 w70=>
 zt4 27 #[pt a_0,iV 6] w70 fun n75 w74=>
 ((decide (n75=0))=true→
 zt6 45 #[pt a_0,.agg #[x71.val,x72.val]] w74 fun x78 x79 w77=>
 Q (.agg #[x78.val,x79.val]) w77)∧
 ((decide (n75=0))=false→
 Q (.agg #[x71.val,x72.val]) w74))∧
 ((decide (n64 > 1))=false→
 zt4 27 #[pt a_0,iV 6] w66 fun n82 w81=>
 ((decide (n82=0))=true→
 zt6 45 #[pt a_0,.agg #[x67.val,x68.val]] w81 fun x85 x86 w84=>
 Q (.agg #[x85.val,x86.val]) w84)∧
 ((decide (n82=0))=false→
 Q (.agg #[x67.val,x68.val]) w81)))∧
 ((decide (n64 > 0))=false→
 ((decide (n64 > 1))=true→
 zt6 48 #[.agg #[x10.val,x11.val]] w63 fun x89 x90 w88=>
 zt4 27 #[pt a_0,iV 6] w88 fun n93 w92=>
 ((decide (n93=0))=true→
 zt6 45 #[pt a_0,.agg #[x89.val,x90.val]] w92 fun x96 x97 w95=>
 Q (.agg #[x96.val,x97.val]) w95)∧
 ((decide (n93=0))=false→
 Q (.agg #[x89.val,x90.val]) w92))∧
 ((decide (n64 > 1))=false→
 zt4 27 #[pt a_0,iV 6] w63 fun n100 w99=>
 ((decide (n100=0))=true→
 zt6 45 #[pt a_0,.agg #[x10.val,x11.val]] w99 fun x103 x104 w102=>
 Q (.agg #[x103.val,x104.val]) w102)∧
 ((decide (n100=0))=false→
 Q (.agg #[x10.val,x11.val]) w99)))))∧
 ((decide (n7=0))=false→
 zt4 27 #[pt a_0,iV 4] w6 fun n107 w106=>
 ((decide (n107=0))=true→
 zt6 46 #[.agg #[x3.val,x4.val]] w106 fun x110 x111 w109=>
 zt4 27 #[pt a_0,iV 3] w109 fun n114 w113=>
 ((decide (n114 > 0))=true→
 zt6 47 #[.agg #[x110.val,x111.val]] w113 fun x117 x118 w116=>
 ((decide (n114 > 1))=true→
 zt6 48 #[.agg #[x117.val,x118.val]] w116 fun x121 x122 w120=>
 zt4 27 #[pt a_0,iV 6] w120 fun n125 w124=>
 ((decide (n125=0))=true→
 zt6 45 #[pt a_0,.agg #[x121.val,x122.val]] w124 fun x128 x129 w127=>
 Q (.agg #[x128.val,x129.val]) w127)∧
 ((decide (n125=0))=false→
 Q (.agg #[x121.val,x122.val]) w124))∧
 ((decide (n114 > 1))=false→
 zt4 27 #[pt a_0,iV 6] w116 fun n132 w131=>
 ((decide (n132=0))=true→
 zt6 45 #[pt a_0,.agg #[x117.val,x118.val]] w131 fun x135 x136 w134=>
 Q (.agg #[x135.val,x136.val]) w134)∧
 ((decide (n132=0))=false→
 Q (.agg #[x117.val,x118.val]) w131)))∧
 ((decide (n114 > 0))=false→
 ((decide (n114 > 1))=true→
 zt6 48 #[.agg #[x110.val,x111.val]] w113 fun x139 x140 w138=>
 zt4 27 #[pt a_0,iV 6] w138 fun n143 w142=>
 ((decide (n143=0))=true→
 zt6 45 #[pt a_0,.agg #[x139.val,x140.val]] w142 fun x146 x147 w145=>
 Q (.agg #[x146.val,x147.val]) w145)∧
 ((decide (n143=0))=false→
 Q (.agg #[x139.val,x140.val]) w142))∧
 ((decide (n114 > 1))=false→
 zt4 27 #[pt a_0,iV 6] w113 fun n150 w149=>
 ((decide (n150=0))=true→
 zt6 45 #[pt a_0,.agg #[x110.val,x111.val]] w149 fun x153 x154 w152=>
 Q (.agg #[x153.val,x154.val]) w152)∧
 ((decide (n150=0))=false→
 Q (.agg #[x110.val,x111.val]) w149))))∧
 ((decide (n107=0))=false→
 zt4 27 #[pt a_0,iV 3] w106 fun n157 w156=>
 ((decide (n157 > 0))=true→
 zt6 47 #[.agg #[x3.val,x4.val]] w156 fun x160 x161 w159=>
 ((decide (n157 > 1))=true→
 zt6 48 #[.agg #[x160.val,x161.val]] w159 fun x164 x165 w163=>
 zt4 27 #[pt a_0,iV 6] w163 fun n168 w167=>
 ((decide (n168=0))=true→
 zt6 45 #[pt a_0,.agg #[x164.val,x165.val]] w167 fun x171 x172 w170=>
 Q (.agg #[x171.val,x172.val]) w170)∧
 ((decide (n168=0))=false→
 Q (.agg #[x164.val,x165.val]) w167))∧
 ((decide (n157 > 1))=false→
 zt4 27 #[pt a_0,iV 6] w159 fun n175 w174=>
 ((decide (n175=0))=true→
 zt6 45 #[pt a_0,.agg #[x160.val,x161.val]] w174 fun x178 x179 w177=>
 Q (.agg #[x178.val,x179.val]) w177)∧
 ((decide (n175=0))=false→
 Q (.agg #[x160.val,x161.val]) w174)))∧
 ((decide (n157 > 0))=false→
 ((decide (n157 > 1))=true→
 zt6 48 #[.agg #[x3.val,x4.val]] w156 fun x182 x183 w181=>
 zt4 27 #[pt a_0,iV 6] w181 fun n186 w185=>
 ((decide (n186=0))=true→
 zt6 45 #[pt a_0,.agg #[x182.val,x183.val]] w185 fun x189 x190 w188=>
 Q (.agg #[x189.val,x190.val]) w188)∧
 ((decide (n186=0))=false→
 Q (.agg #[x182.val,x183.val]) w185))∧
 ((decide (n157 > 1))=false→
 zt4 27 #[pt a_0,iV 6] w156 fun n193 w192=>
 ((decide (n193=0))=true→
 zt6 45 #[pt a_0,.agg #[x3.val,x4.val]] w192 fun x196 x197 w195=>
 Q (.agg #[x196.val,x197.val]) w195)∧
 ((decide (n193=0))=false→
 Q (.agg #[x3.val,x4.val]) w192)))))
theorem of34 (a_0:Addr) (v:World) (Q:QT) (h:vc34 a_0 v Q):Tr 34 #[pt a_0] v Q:=
 trip_of_eq (args:=[.pt a_0 0]) (A:=aG) Tryz.func34 (by kernel_rfl) (by kernel_rfl) (by kernel_rfl) h
def vc35 (n_0:Int) (v:World) (Q:QT):Prop:=
 Q (.bool ((decide (n_0≥14)) && (decide (n_0≤17)))) v
theorem of35 (n_0:Int) (v:World) (Q:QT) (h:vc35 n_0 v Q):Tr 35 #[iV n_0] v Q:=
 trip_of_eq (args:=[.num .i64 n_0]) (A:=aG) Tryz.func35 (by kernel_rfl) (by kernel_rfl) (by kernel_rfl) h
def vc36 (n_0 n_1 n_2:Int) (v:World) (Q:QT):Prop:=
 Q (.bool ((decide (n_1≤n_0)) && (decide (n_0≤n_2)))) v
theorem of36 (n_0 n_1 n_2:Int) (v:World) (Q:QT) (h:vc36 n_0 n_1 n_2 v Q):Tr 36 #[iV n_0,iV n_1,iV n_2] v Q:=
 trip_of_eq (args:=[.num .i64 n_0,.num .i64 n_1,.num .i64 n_2]) (A:=aG) Tryz.func36 (by kernel_rfl) (by kernel_rfl) (by kernel_rfl) h
def vc37 (x0_0 x0_1:Sl) (n_1:Int) (x2_0:Sl) (n2_1:Int) (v:World) (Q:QT):Prop:=
 bS 48 0 #[] v fun x3 w2=>
 aS 48 x3 x0_1 w2 fun x6 w5=>
 IxOk x0_1 n_1∧
 zl3 w5 x0_1 n_1 fun x7 x8 n9 x10 n11=>
 zt8 49 #[.agg #[x7.val,x8.val,iV n9,x10.val,iV n11],.agg #[x2_0.val,iV n2_1]] w5 fun x14 x15 n16 x17 n18 w13=>
 IxOk x6 n_1∧
 StoreAt w13 (elA x6 n_1 5) 0 [x14.val,x15.val,iV n16,x17.val,iV n18] fun w19=>
 Q (.agg #[x0_0.val,x6.val]) w19
theorem of37 (x0_0 x0_1:Sl) (n_1:Int) (x2_0:Sl) (n2_1:Int) (v:World) (Q:QT) (h:vc37 x0_0 x0_1 n_1 x2_0 n2_1 v Q):Tr 37 #[.agg #[x0_0.val,x0_1.val],iV n_1,.agg #[x2_0.val,iV n2_1]] v Q:=
 trip_of_eq (args:=[.ag [.sl x0_0,.sl x0_1],.num .i64 n_1,.ag [.sl x2_0,.num .i64 n2_1]]) (A:=⟨[],[],[(2,[])],[],psG⟩) Tryz.func37 (by kernel_rfl) (by kernel_rfl) (by kernel_rfl) h
def vc38 (a_0:Addr) (x_1:Sl) (v:World) (Q:QT):Prop:=
 zt7 50 #[x_1.val] v fun x3 w2=>
 ((decide ((x3.n:Int) > 0))=true→
 zt4 27 #[pt a_0,iV 2] w2 fun n6 w5=>
 ((decide (n6=0))=true→
 zt4 27 #[pt a_0,iV (x3.n:Int)] w5 fun n9 w8=>
 bS 28 6 #[(0,(iV 0)),(1,(iV 1)),(2,(iV (-1))),(3,(iV 7)),(4,(iV 1000)),(5,(iV 1001))] w8 fun x12 w11=>
 zt4 20 #[pt a_0,x12.val] w11 fun n15 w14=>
 IxOk x3 n9∧
 StoreAt w14 (elA x3 n9 1) 0 [iV n15] fun w16=>
 Q (x3.val) w16)∧
 ((decide (n6=0))=false→
 bS 28 5 #[(0,(iV 0)),(1,(iV 1)),(2,(iV 2)),(3,(iV (-1))),(4,(iV 1000))] w5 fun x19 w18=>
 zt4 20 #[pt a_0,x19.val] w18 fun n22 w21=>
 bS 28 1 #[(0,(iV n22))] w21 fun x25 w24=>
 aS 28 x3 x25 w24 fun x28 w27=>
 Q (x28.val) w27))∧
 ((decide ((x3.n:Int) > 0))=false→
 bS 28 5 #[(0,(iV 0)),(1,(iV 1)),(2,(iV 2)),(3,(iV (-1))),(4,(iV 1000))] w2 fun x31 w30=>
 zt4 20 #[pt a_0,x31.val] w30 fun n34 w33=>
 bS 28 1 #[(0,(iV n34))] w33 fun x37 w36=>
 aS 28 x3 x37 w36 fun x40 w39=>
 Q (x40.val) w39)
theorem of38 (a_0:Addr) (x_1:Sl) (v:World) (Q:QT) (h:vc38 a_0 x_1 v Q):Tr 38 #[pt a_0,x_1.val] v Q:=
 trip_of_eq (args:=[.pt a_0 0,.sl x_1]) (A:=aG) Tryz.func38 (by kernel_rfl) (by kernel_rfl) (by kernel_rfl) h
def vc39 (a_0:Addr) (v:World) (Q:QT):Prop:=
 zt7 51 #[pt a_0] v fun x3 w2=>
 zt4 27 #[pt a_0,iV (x3.n:Int)] w2 fun n6 w5=>
 zt4 27 #[pt a_0,iV 14] w5 fun n9 w8=>
 ((decide (n9=0))=true→
 bS 28 4 #[(0,(iV (-1))),(1,(iV 5)),(2,(iV 0)),(3,(iV 2))] w8 fun x12 w11=>
 zt4 20 #[pt a_0,x12.val] w11 fun n15 w14=>
 bS 28 3 #[(0,(iV 0)),(1,(iV 1)),(2,(iV 5))] w14 fun x18 w17=>
 zt4 20 #[pt a_0,x18.val] w17 fun n21 w20=>
 IxOk x3 n6∧
 StoreAt w20 (elA x3 n6 3) 0 [iV n15,iV n21,.slice none 0 0] fun w22=>
 Q (x3.val) w22)∧
 ((decide (n9=0))=false→
 ((decide (n9=1))=true→
 bS 28 4 #[(0,(iV (-1))),(1,(iV 0)),(2,(iV 4)),(3,(iV 5))] w8 fun x25 w24=>
 zt4 20 #[pt a_0,x25.val] w24 fun n28 w27=>
 bS 28 1 #[(0,(iV n28))] w27 fun x31 w30=>
 zt9 52 #[x31.val] w30 fun x34 w33=>
 bS 28 4 #[(0,(iV 0)),(1,(iV 0)),(2,(iV 0)),(3,(iV 0))] w33 fun x37 w36=>
 zt9 52 #[x37.val] w36 fun x40 w39=>
 bS 28 0 #[] w39 fun x43 w42=>
 zt9 52 #[x43.val] w42 fun x46 w45=>
 bS 73 3 #[(0,(.agg #[x34.val])),(1,(.agg #[x40.val])),(2,(.agg #[x46.val]))] w45 fun x49 w48=>
 IxOk x3 n6∧
 StoreAt w48 (elA x3 n6 3) 0 [iV 0,iV 0,x49.val] fun w50=>
 Q (x3.val) w50)∧
 ((decide (n9=1))=false→
 ((decide (n9=2))=true→
 ∃ n51,Wr .i64 (n6+1) n51∧
 bS 28 1 #[(0,(iV n51))] w8 fun x54 w53=>
 zt9 52 #[x54.val] w53 fun x57 w56=>
 bS 73 1 #[(0,(.agg #[x57.val]))] w56 fun x60 w59=>
 IxOk x3 n6∧
 StoreAt w59 (elA x3 n6 3) 0 [iV 0,iV 0,x60.val] fun w61=>
 Q (x3.val) w61)∧
 ((decide (n9=2))=false→
 ((decide (n9=3))=true→
 bS 28 3 #[(0,(iV 0)),(1,(iV 2)),(2,(iV 1))] w8 fun x64 w63=>
 zt4 20 #[pt a_0,x64.val] w63 fun n67 w66=>
 bS 47 1 #[(0,(.agg #[iV 2,iV n67,.slice none 0 0]))] w66 fun x70 w69=>
 aS 47 x3 x70 w69 fun x73 w72=>
 Q (x73.val) w72)∧
 ((decide (n9=3))=false→
 ((decide (n9=4))=true→
 zt4 27 #[pt a_0,iV 2] w8 fun n76 w75=>
 bS 28 0 #[] w75 fun x79 w78=>
 zt9 52 #[x79.val] w78 fun x82 w81=>
 bS 28 1 #[(0,(iV 2))] w81 fun x85 w84=>
 zt9 52 #[x85.val] w84 fun x88 w87=>
 bS 28 0 #[] w87 fun x91 w90=>
 zt9 52 #[x91.val] w90 fun x94 w93=>
 bS 28 0 #[] w93 fun x97 w96=>
 zt9 52 #[x97.val] w96 fun x100 w99=>
 bS 73 4 #[(0,(.agg #[x82.val])),(1,(.agg #[x88.val])),(2,(.agg #[x94.val])),(3,(.agg #[x100.val]))] w99 fun x103 w102=>
 zt4 27 #[pt a_0,iV 3] w102 fun n106 w105=>
 ((0:Int)≤n106∧n106≤(x103.n:Int))∧
 IxOk x3 n6∧
 StoreAt w105 (elA x3 n6 3) 0 [iV n76,iV 0,(x103.cut n106 (x103.n:Int) 1).val] fun w107=>
 Q (x3.val) w107)∧
 ((decide (n9=4))=false→
 ((decide (n9=5))=true→
 bS 47 2 #[(0,(.agg #[iV 0,iV 0,.slice none 0 0])),(1,(.agg #[iV 3,iV 0,.slice none 0 0]))] w8 fun x110 w109=>
 aS 47 x3 x110 w109 fun x113 w112=>
 Q (x113.val) w112)∧
 ((decide (n9=5))=false→
 Q (x3.val) w8))))))
theorem of39 (a_0:Addr) (v:World) (Q:QT) (h:vc39 a_0 v Q):Tr 39 #[pt a_0] v Q:=
 trip_of_eq (args:=[.pt a_0 0]) (A:=aG) Tryz.func39 (by kernel_rfl) (by kernel_rfl) (by kernel_rfl) h
def vc40 (a_0:Addr) (x1_0:Sl) (n1_1:Int) (v:World) (Q:QT):Prop:=
 zt3 53 #[.agg #[x1_0.val,iV n1_1]] v fun x3 n4 w2=>
 ((decide ((x3.n:Int)=0))=false→
 zt4 27 #[pt a_0,iV 5] w2 fun n7 w6=>
 ((decide (n7=0))=true→
 bS 28 6 #[(0,(iV 0)),(1,(iV 1)),(2,(iV 2)),(3,(iV 3)),(4,(iV (-1))),(5,(iV 99))] w6 fun x10 w9=>
 zt4 20 #[pt a_0,x10.val] w9 fun n13 w12=>
 Q (.agg #[x3.val,iV n13]) w12)∧
 ((decide (n7=0))=false→
 zt4 27 #[pt a_0,iV (x3.n:Int)] w6 fun n16 w15=>
 IxOk x3 n16∧
 zl7 w15 x3 n16 fun x17=>
 ((decide ((x17.n:Int) > 0))=true→
 zt4 27 #[pt a_0,iV 3] w15 fun n20 w19=>
 ((decide (n20 > 0))=true→
 IxOk x3 n16∧
 zl7 w19 x3 n16 fun x21=>
 zt4 27 #[pt a_0,iV (x21.n:Int)] w19 fun n24 w23=>
 IxOk x3 n16∧
 zl7 w23 x3 n16 fun x25=>
 IxOk x25 n24∧
 zl1 w23 x25 n24 fun x26 n27=>
 (IxOk x3 n16∧
 (zl7 w23 x3 n16 fun x28=>
 zt3 40 #[pt a_0,.agg #[x26.val,iV n27]] w23 fun x31 n32 w30=>
 IxOk x28 n24∧
 StoreAt w30 (elA x28 n24 2) 0 [x31.val,iV n32] fun w33=>
 Q (.agg #[x3.val,iV n4]) w33)∧
 zt3 40 #[pt a_0,.agg #[x26.val,iV n27]] w23 fun x36 n37 w35=>
 zl7 w35 x3 n16 fun x38=>
 IxOk x38 n24∧
 StoreAt w35 (elA x38 n24 2) 0 [x36.val,iV n37] fun w39=>
 Q (.agg #[x3.val,iV n4]) w39)∧
 zt3 40 #[pt a_0,.agg #[x26.val,iV n27]] w23 fun x42 n43 w41=>
 IxOk x3 n16∧
 zl7 w41 x3 n16 fun x44=>
 IxOk x44 n24∧
 StoreAt w41 (elA x44 n24 2) 0 [x42.val,iV n43] fun w45=>
 Q (.agg #[x3.val,iV n4]) w45)∧
 ((decide (n20 > 0))=false→
 zt4 27 #[pt a_0,iV 4] w19 fun n48 w47=>
 ((decide (n48=0))=true→
 CutOk x3 0 n16∧
 ∃ n49,Wr .i64 (n16+1) n49∧
 ((0:Int)≤n49∧n49≤(x3.n:Int))∧
 aS 23 (x3.cut 0 n16 5) (x3.cut n49 (x3.n:Int) 5) w47 fun x52 w51=>
 Q (.agg #[x52.val,iV n4]) w51)∧
 ((decide (n48=0))=false→
 ((decide (n48=1))=true→
 bS 28 5 #[(0,(iV 14)),(1,(iV 15)),(2,(iV 15)),(3,(iV 16)),(4,(iV 17))] w47 fun x55 w54=>
 zt4 20 #[pt a_0,x55.val] w54 fun n58 w57=>
 zt4 27 #[pt a_0,iV 4] w57 fun n61 w60=>
 zt10 55 #[iV n58,iV n61] w60 fun n64 n65 n66 x67 x68 w63=>
 zt3 54 #[.agg #[x3.val,iV n4],iV n16,.agg #[iV n64,iV n65,iV n66,x67.val,x68.val]] w63 fun x71 n72 w70=>
 Q (.agg #[x71.val,iV n72]) w70)∧
 ((decide (n48=1))=false→
 IxOk x3 n16∧
 zl0 w47 x3 n16 fun n73 n74 n75 x76 x77=>
 zt10 56 #[pt a_0,.agg #[iV n73,iV n74,iV n75,x76.val,x77.val]] w47 fun n80 n81 n82 x83 x84 w79=>
 IxOk x3 n16∧
 StoreAt w79 (elA x3 n16 5) 0 [iV n80,iV n81,iV n82,x83.val,x84.val] fun w85=>
 Q (.agg #[x3.val,iV n4]) w85))))∧
 ((decide ((x17.n:Int) > 0))=false→
 zt4 27 #[pt a_0,iV 4] w15 fun n88 w87=>
 ((decide (n88=0))=true→
 CutOk x3 0 n16∧
 ∃ n89,Wr .i64 (n16+1) n89∧
 ((0:Int)≤n89∧n89≤(x3.n:Int))∧
 aS 23 (x3.cut 0 n16 5) (x3.cut n89 (x3.n:Int) 5) w87 fun x92 w91=>
 Q (.agg #[x92.val,iV n4]) w91)∧
 ((decide (n88=0))=false→
 ((decide (n88=1))=true→
 bS 28 5 #[(0,(iV 14)),(1,(iV 15)),(2,(iV 15)),(3,(iV 16)),(4,(iV 17))] w87 fun x95 w94=>
 zt4 20 #[pt a_0,x95.val] w94 fun n98 w97=>
 zt4 27 #[pt a_0,iV 4] w97 fun n101 w100=>
 zt10 55 #[iV n98,iV n101] w100 fun n104 n105 n106 x107 x108 w103=>
 zt3 54 #[.agg #[x3.val,iV n4],iV n16,.agg #[iV n104,iV n105,iV n106,x107.val,x108.val]] w103 fun x111 n112 w110=>
 Q (.agg #[x111.val,iV n112]) w110)∧
 ((decide (n88=1))=false→
 IxOk x3 n16∧
 zl0 w87 x3 n16 fun n113 n114 n115 x116 x117=>
 zt10 56 #[pt a_0,.agg #[iV n113,iV n114,iV n115,x116.val,x117.val]] w87 fun n120 n121 n122 x123 x124 w119=>
 IxOk x3 n16∧
 StoreAt w119 (elA x3 n16 5) 0 [iV n120,iV n121,iV n122,x123.val,x124.val] fun w125=>
 Q (.agg #[x3.val,iV n4]) w125)))))∧
 ((decide ((x3.n:Int)=0))=true→
 bS 28 6 #[(0,(iV 0)),(1,(iV 1)),(2,(iV 2)),(3,(iV 3)),(4,(iV (-1))),(5,(iV 99))] w2 fun x128 w127=>
 zt4 20 #[pt a_0,x128.val] w127 fun n131 w130=>
 Q (.agg #[x3.val,iV n131]) w130)
theorem of40 (a_0:Addr) (x1_0:Sl) (n1_1:Int) (v:World) (Q:QT) (h:vc40 a_0 x1_0 n1_1 v Q):Tr 40 #[pt a_0,.agg #[x1_0.val,iV n1_1]] v Q:=
 trip_of_eq (args:=[.pt a_0 0,.ag [.sl x1_0,.num .i64 n1_1]]) (A:=⟨[],[],[(8,[]),(11,[]),(13,[]),(15,[])],[],psG⟩) Tryz.func40 (by kernel_rfl) (by kernel_rfl) (by kernel_rfl) h
def vc41 (x0_0 x0_1:Sl) (v:World) (Q:QT):Prop:=
 zt7 57 #[x0_0.val] v fun x3 w2=>
 bS 48 0 #[] w2 fun x6 w5=>
 ∃ I7:zI2,∃ m8:zN2,I7 0 x6 w5∧
 ∀ n9 x10 w11,I7 n9 x10 w11→
 ((decide (n9 < (x0_1.n:Int)))=true→
 IxOk x0_1 n9∧
 zl4 w11 x0_1 n9 fun x12 n13 n14 n15 x16=>
 (zt7 59 #[iV 0,iV (x12.n:Int)] w11 fun x19 w18=>
 Sub w11 w18∧
 (zt3 58 #[.agg #[x0_0.val,x0_1.val],.agg #[iV n14,iV n15,x16.val],x19.val,iV (x12.n:Int)] w18 fun x22 n23 w21=>
 Sub w21 w21∧
 (zt7 50 #[x12.val] w21 fun x26 w25=>
 Sub w21 w25∧
 bS 28 0 #[] w25 fun x29 w28=>
 Sub w25 w28∧
 bS 48 1 #[(0,(.agg #[x26.val,x29.val,iV n13,x22.val,iV n23]))] w28 fun x32 w31=>
 Sub w28 w31∧
 aS 48 x10 x32 w31 fun x35 w34=>
 ∃ n36,Wr .i64 (n9+1) n36∧
 zq3 x0_0 x0_1 (Sl.mk none 0 0) (Sl.mk none 0 0) x3 fun _=>
 I7 n36 x35 w34∧
 m8 n36 x35 w34 < m8 n9 x10 w11)∧
 bS 28 0 #[] w21 fun x39 w38=>
 Sub w21 w38∧
 zt7 50 #[x12.val] w38 fun x42 w41=>
 Sub w38 w41∧
 bS 48 1 #[(0,(.agg #[x42.val,x39.val,iV n13,x22.val,iV n23]))] w41 fun x45 w44=>
 Sub w41 w44∧
 aS 48 x10 x45 w44 fun x48 w47=>
 ∃ n49,Wr .i64 (n9+1) n49∧
 zq3 x0_0 x0_1 (Sl.mk none 0 0) (Sl.mk none 0 0) x3 fun _=>
 I7 n49 x48 w47∧
 m8 n49 x48 w47 < m8 n9 x10 w11)∧
 Sub w18 w18∧
 zt3 58 #[.agg #[x0_0.val,x0_1.val],.agg #[iV n14,iV n15,x16.val],x19.val,iV (x12.n:Int)] w18 fun x52 n53 w51=>
 (zt7 50 #[x12.val] w51 fun x56 w55=>
 Sub w51 w55∧
 bS 28 0 #[] w55 fun x59 w58=>
 Sub w55 w58∧
 bS 48 1 #[(0,(.agg #[x56.val,x59.val,iV n13,x52.val,iV n53]))] w58 fun x62 w61=>
 Sub w58 w61∧
 aS 48 x10 x62 w61 fun x65 w64=>
 ∃ n66,Wr .i64 (n9+1) n66∧
 zq3 x0_0 x0_1 (Sl.mk none 0 0) (Sl.mk none 0 0) x3 fun _=>
 I7 n66 x65 w64∧
 m8 n66 x65 w64 < m8 n9 x10 w11)∧
 bS 28 0 #[] w51 fun x69 w68=>
 Sub w51 w68∧
 zt7 50 #[x12.val] w68 fun x72 w71=>
 Sub w68 w71∧
 bS 48 1 #[(0,(.agg #[x72.val,x69.val,iV n13,x52.val,iV n53]))] w71 fun x75 w74=>
 Sub w71 w74∧
 aS 48 x10 x75 w74 fun x78 w77=>
 ∃ n79,Wr .i64 (n9+1) n79∧
 zq3 x0_0 x0_1 (Sl.mk none 0 0) (Sl.mk none 0 0) x3 fun _=>
 I7 n79 x78 w77∧
 m8 n79 x78 w77 < m8 n9 x10 w11)∧
 Sub w11 w11∧
 zt7 59 #[iV 0,iV (x12.n:Int)] w11 fun x82 w81=>
 Sub w11 w81∧
 zt3 58 #[.agg #[x0_0.val,x0_1.val],.agg #[iV n14,iV n15,x16.val],x82.val,iV (x12.n:Int)] w81 fun x85 n86 w84=>
 (zt7 50 #[x12.val] w84 fun x89 w88=>
 Sub w84 w88∧
 bS 28 0 #[] w88 fun x92 w91=>
 Sub w88 w91∧
 bS 48 1 #[(0,(.agg #[x89.val,x92.val,iV n13,x85.val,iV n86]))] w91 fun x95 w94=>
 Sub w91 w94∧
 aS 48 x10 x95 w94 fun x98 w97=>
 ∃ n99,Wr .i64 (n9+1) n99∧
 zq3 x0_0 x0_1 (Sl.mk none 0 0) (Sl.mk none 0 0) x3 fun _=>
 I7 n99 x98 w97∧
 m8 n99 x98 w97 < m8 n9 x10 w11)∧
 bS 28 0 #[] w84 fun x102 w101=>
 Sub w84 w101∧
 zt7 50 #[x12.val] w101 fun x105 w104=>
 Sub w101 w104∧
 bS 48 1 #[(0,(.agg #[x105.val,x102.val,iV n13,x85.val,iV n86]))] w104 fun x108 w107=>
 Sub w104 w107∧
 aS 48 x10 x108 w107 fun x111 w110=>
 ∃ n112,Wr .i64 (n9+1) n112∧
 zq3 x0_0 x0_1 (Sl.mk none 0 0) (Sl.mk none 0 0) x3 fun _=>
 I7 n112 x111 w110∧
 m8 n112 x111 w110 < m8 n9 x10 w11)∧
 ((decide (n9 < (x0_1.n:Int)))=false→
 Q (.agg #[x3.val,x10.val]) w11)
theorem of41 (x0_0 x0_1:Sl) (v:World) (Q:QT) (h:vc41 x0_0 x0_1 v Q):Tr 41 #[.agg #[x0_0.val,x0_1.val]] v Q:=
 trip_of_eq (args:=[.ag [.sl x0_0,.sl x0_1]]) (A:=⟨[(3,[(4,.int .i64)],[(2,1,.sl)])],[],[(7,[4,7]),(8,[4,5,10])],[],psG⟩) Tryz.func41 (by kernel_rfl) (by kernel_rfl) (by kernel_rfl) h
def vc42 (a_0:Addr) (v:World) (Q:QT):Prop:=
 zt7 51 #[pt a_0] v fun x3 w2=>
 ∃ J4:Sl→World→Prop,(bS 28 1 #[(0,(iV 1))] w2 fun x7 w6=>
 zt11 60 #[x7.val,iV 0] w6 fun x10 n11 n12 n13 x14 w9=>
 bS 28 2 #[(0,(iV 1)),(1,(iV 1))] w9 fun x17 w16=>
 zt11 60 #[x17.val,iV 1] w16 fun x20 n21 n22 n23 x24 w19=>
 bS 28 1 #[(0,(iV 1))] w19 fun x27 w26=>
 zt11 60 #[x27.val,iV 1] w26 fun x30 n31 n32 n33 x34 w29=>
 bS 28 2 #[(0,(iV 1)),(1,(iV 0))] w29 fun x37 w36=>
 zt11 60 #[x37.val,iV 1] w36 fun x40 n41 n42 n43 x44 w39=>
 bS 28 2 #[(0,(iV 2)),(1,(iV 1))] w39 fun x47 w46=>
 zt11 60 #[x47.val,iV 1] w46 fun x50 n51 n52 n53 x54 w49=>
 bS 28 2 #[(0,(iV 1)),(1,(iV 1))] w49 fun x57 w56=>
 zt11 60 #[x57.val,iV 0] w56 fun x60 n61 n62 n63 x64 w59=>
 bS 66 6 #[(0,(.agg #[x10.val,iV n11,iV n12,iV n13,x14.val])),(1,(.agg #[x20.val,iV n21,iV n22,iV n23,x24.val])),(2,(.agg #[x30.val,iV n31,iV n32,iV n33,x34.val])),(3,(.agg #[x40.val,iV n41,iV n42,iV n43,x44.val])),(4,(.agg #[x50.val,iV n51,iV n52,iV n53,x54.val])),(5,(.agg #[x60.val,iV n61,iV n62,iV n63,x64.val]))] w59 fun x67 w66=>
 zq4 (Sl.mk none 0 0) (Sl.mk none 0 0) x3 (Sl.mk none 0 0) fun _=>
 J4 x67 w66)∧
 ∀ x68:Sl,∀ w69:World,J4 x68 w69→
 ∃ J70:Sl→World→Prop,(bS 28 1 #[(0,(iV 3))] w69 fun x73 w72=>
 zt11 60 #[x73.val,iV 0] w72 fun x76 n77 n78 n79 x80 w75=>
 bS 28 1 #[(0,(iV 0))] w75 fun x83 w82=>
 zt11 60 #[x83.val,iV 1] w82 fun x86 n87 n88 n89 x90 w85=>
 bS 28 2 #[(0,(iV 0)),(1,(iV 1))] w85 fun x93 w92=>
 zt11 60 #[x93.val,iV 1] w92 fun x96 n97 n98 n99 x100 w95=>
 bS 28 2 #[(0,(iV 3)),(1,(iV 0))] w95 fun x103 w102=>
 zt11 60 #[x103.val,iV 3] w102 fun x106 n107 n108 n109 x110 w105=>
 bS 28 1 #[(0,(iV 3))] w105 fun x113 w112=>
 zt11 60 #[x113.val,iV 1] w112 fun x116 n117 n118 n119 x120 w115=>
 bS 28 3 #[(0,(iV 1)),(1,(iV 3)),(2,(iV 0))] w115 fun x123 w122=>
 zt11 60 #[x123.val,iV 0] w122 fun x126 n127 n128 n129 x130 w125=>
 bS 66 6 #[(0,(.agg #[x76.val,iV n77,iV n78,iV n79,x80.val])),(1,(.agg #[x86.val,iV n87,iV n88,iV n89,x90.val])),(2,(.agg #[x96.val,iV n97,iV n98,iV n99,x100.val])),(3,(.agg #[x106.val,iV n107,iV n108,iV n109,x110.val])),(4,(.agg #[x116.val,iV n117,iV n118,iV n119,x120.val])),(5,(.agg #[x126.val,iV n127,iV n128,iV n129,x130.val]))] w125 fun x133 w132=>
 zq4 (Sl.mk none 0 0) (Sl.mk none 0 0) x3 (Sl.mk none 0 0) fun _=>
 J70 x133 w132)∧
 ∀ x134:Sl,∀ w135:World,J70 x134 w135→
 ∃ J136:Sl→World→Prop,(bS 28 1 #[(0,(iV 0))] w135 fun x139 w138=>
 zt11 60 #[x139.val,iV 0] w138 fun x142 n143 n144 n145 x146 w141=>
 bS 28 2 #[(0,(iV 0)),(1,(iV 0))] w141 fun x149 w148=>
 zt11 60 #[x149.val,iV 0] w148 fun x152 n153 n154 n155 x156 w151=>
 bS 28 2 #[(0,(iV 1)),(1,(iV 0))] w151 fun x159 w158=>
 zt11 60 #[x159.val,iV 0] w158 fun x162 n163 n164 n165 x166 w161=>
 bS 28 1 #[(0,(iV 0))] w161 fun x169 w168=>
 zt11 60 #[x169.val,iV 1] w168 fun x172 n173 n174 n175 x176 w171=>
 bS 66 4 #[(0,(.agg #[x142.val,iV n143,iV n144,iV n145,x146.val])),(1,(.agg #[x152.val,iV n153,iV n154,iV n155,x156.val])),(2,(.agg #[x162.val,iV n163,iV n164,iV n165,x166.val])),(3,(.agg #[x172.val,iV n173,iV n174,iV n175,x176.val]))] w171 fun x179 w178=>
 zq4 (Sl.mk none 0 0) (Sl.mk none 0 0) x3 (Sl.mk none 0 0) fun _=>
 J136 x179 w178)∧
 ∀ x180:Sl,∀ w181:World,J136 x180 w181→
 ∃ J182:Sl→World→Prop,(bS 28 0 #[] w181 fun x185 w184=>
 Sub w181 w184∧
 zt11 60 #[x185.val,iV 0] w184 fun x188 n189 n190 n191 x192 w187=>
 Sub w184 w187∧
 zt4 27 #[pt a_0,iV (x68.n:Int)] w187 fun n195 w194=>
 (IxOk x68 n195∧
 (zl4 w194 x68 n195 fun x196 n197 n198 n199 x200=>
 zt4 27 #[pt a_0,iV (x134.n:Int)] w194 fun n203 w202=>
 (IxOk x134 n203∧
 (zl4 w202 x134 n203 fun x204 n205 n206 n207 x208=>
 zt4 27 #[pt a_0,iV (x180.n:Int)] w202 fun n211 w210=>
 IxOk x180 n211∧
 zl4 w210 x180 n211 fun x212 n213 n214 n215 x216=>
 bS 66 4 #[(0,(.agg #[x188.val,iV n189,iV n190,iV n191,x192.val])),(1,(.agg #[x196.val,iV n197,iV n198,iV n199,x200.val])),(2,(.agg #[x204.val,iV n205,iV n206,iV n207,x208.val])),(3,(.agg #[x212.val,iV n213,iV n214,iV n215,x216.val]))] w210 fun x219 w218=>
 zq5 (Sl.mk none 0 0) (Sl.mk none 0 0) x3 fun _=>
 J182 x219 w218)∧
 zt4 27 #[pt a_0,iV (x180.n:Int)] w202 fun n222 w221=>
 zl4 w221 x134 n203 fun x223 n224 n225 n226 x227=>
 IxOk x180 n222∧
 zl4 w221 x180 n222 fun x228 n229 n230 n231 x232=>
 bS 66 4 #[(0,(.agg #[x188.val,iV n189,iV n190,iV n191,x192.val])),(1,(.agg #[x196.val,iV n197,iV n198,iV n199,x200.val])),(2,(.agg #[x223.val,iV n224,iV n225,iV n226,x227.val])),(3,(.agg #[x228.val,iV n229,iV n230,iV n231,x232.val]))] w221 fun x235 w234=>
 zq5 (Sl.mk none 0 0) (Sl.mk none 0 0) x3 fun _=>
 J182 x235 w234)∧
 zt4 27 #[pt a_0,iV (x180.n:Int)] w202 fun n238 w237=>
 IxOk x134 n203∧
 zl4 w237 x134 n203 fun x239 n240 n241 n242 x243=>
 IxOk x180 n238∧
 zl4 w237 x180 n238 fun x244 n245 n246 n247 x248=>
 bS 66 4 #[(0,(.agg #[x188.val,iV n189,iV n190,iV n191,x192.val])),(1,(.agg #[x196.val,iV n197,iV n198,iV n199,x200.val])),(2,(.agg #[x239.val,iV n240,iV n241,iV n242,x243.val])),(3,(.agg #[x244.val,iV n245,iV n246,iV n247,x248.val]))] w237 fun x251 w250=>
 zq5 (Sl.mk none 0 0) (Sl.mk none 0 0) x3 fun _=>
 J182 x251 w250)∧
 zt4 27 #[pt a_0,iV (x134.n:Int)] w194 fun n254 w253=>
 (zl4 w253 x68 n195 fun x255 n256 n257 n258 x259=>
 (IxOk x134 n254∧
 (zl4 w253 x134 n254 fun x260 n261 n262 n263 x264=>
 zt4 27 #[pt a_0,iV (x180.n:Int)] w253 fun n267 w266=>
 IxOk x180 n267∧
 zl4 w266 x180 n267 fun x268 n269 n270 n271 x272=>
 bS 66 4 #[(0,(.agg #[x188.val,iV n189,iV n190,iV n191,x192.val])),(1,(.agg #[x255.val,iV n256,iV n257,iV n258,x259.val])),(2,(.agg #[x260.val,iV n261,iV n262,iV n263,x264.val])),(3,(.agg #[x268.val,iV n269,iV n270,iV n271,x272.val]))] w266 fun x275 w274=>
 zq5 (Sl.mk none 0 0) (Sl.mk none 0 0) x3 fun _=>
 J182 x275 w274)∧
 zt4 27 #[pt a_0,iV (x180.n:Int)] w253 fun n278 w277=>
 zl4 w277 x134 n254 fun x279 n280 n281 n282 x283=>
 IxOk x180 n278∧
 zl4 w277 x180 n278 fun x284 n285 n286 n287 x288=>
 bS 66 4 #[(0,(.agg #[x188.val,iV n189,iV n190,iV n191,x192.val])),(1,(.agg #[x255.val,iV n256,iV n257,iV n258,x259.val])),(2,(.agg #[x279.val,iV n280,iV n281,iV n282,x283.val])),(3,(.agg #[x284.val,iV n285,iV n286,iV n287,x288.val]))] w277 fun x291 w290=>
 zq5 (Sl.mk none 0 0) (Sl.mk none 0 0) x3 fun _=>
 J182 x291 w290)∧
 zt4 27 #[pt a_0,iV (x180.n:Int)] w253 fun n294 w293=>
 IxOk x134 n254∧
 zl4 w293 x134 n254 fun x295 n296 n297 n298 x299=>
 IxOk x180 n294∧
 zl4 w293 x180 n294 fun x300 n301 n302 n303 x304=>
 bS 66 4 #[(0,(.agg #[x188.val,iV n189,iV n190,iV n191,x192.val])),(1,(.agg #[x255.val,iV n256,iV n257,iV n258,x259.val])),(2,(.agg #[x295.val,iV n296,iV n297,iV n298,x299.val])),(3,(.agg #[x300.val,iV n301,iV n302,iV n303,x304.val]))] w293 fun x307 w306=>
 zq5 (Sl.mk none 0 0) (Sl.mk none 0 0) x3 fun _=>
 J182 x307 w306)∧
 (IxOk x134 n254∧
 (zl4 w253 x68 n195 fun x308 n309 n310 n311 x312=>
 (zl4 w253 x134 n254 fun x313 n314 n315 n316 x317=>
 zt4 27 #[pt a_0,iV (x180.n:Int)] w253 fun n320 w319=>
 IxOk x180 n320∧
 zl4 w319 x180 n320 fun x321 n322 n323 n324 x325=>
 bS 66 4 #[(0,(.agg #[x188.val,iV n189,iV n190,iV n191,x192.val])),(1,(.agg #[x308.val,iV n309,iV n310,iV n311,x312.val])),(2,(.agg #[x313.val,iV n314,iV n315,iV n316,x317.val])),(3,(.agg #[x321.val,iV n322,iV n323,iV n324,x325.val]))] w319 fun x328 w327=>
 zq5 (Sl.mk none 0 0) (Sl.mk none 0 0) x3 fun _=>
 J182 x328 w327)∧
 zt4 27 #[pt a_0,iV (x180.n:Int)] w253 fun n331 w330=>
 zl4 w330 x134 n254 fun x332 n333 n334 n335 x336=>
 IxOk x180 n331∧
 zl4 w330 x180 n331 fun x337 n338 n339 n340 x341=>
 bS 66 4 #[(0,(.agg #[x188.val,iV n189,iV n190,iV n191,x192.val])),(1,(.agg #[x308.val,iV n309,iV n310,iV n311,x312.val])),(2,(.agg #[x332.val,iV n333,iV n334,iV n335,x336.val])),(3,(.agg #[x337.val,iV n338,iV n339,iV n340,x341.val]))] w330 fun x344 w343=>
 zq5 (Sl.mk none 0 0) (Sl.mk none 0 0) x3 fun _=>
 J182 x344 w343)∧
 (zl4 w253 x134 n254 fun x345 n346 n347 n348 x349=>
 (zl4 w253 x68 n195 fun x350 n351 n352 n353 x354=>
 zt4 27 #[pt a_0,iV (x180.n:Int)] w253 fun n357 w356=>
 IxOk x180 n357∧
 zl4 w356 x180 n357 fun x358 n359 n360 n361 x362=>
 bS 66 4 #[(0,(.agg #[x188.val,iV n189,iV n190,iV n191,x192.val])),(1,(.agg #[x350.val,iV n351,iV n352,iV n353,x354.val])),(2,(.agg #[x345.val,iV n346,iV n347,iV n348,x349.val])),(3,(.agg #[x358.val,iV n359,iV n360,iV n361,x362.val]))] w356 fun x365 w364=>
 zq5 (Sl.mk none 0 0) (Sl.mk none 0 0) x3 fun _=>
 J182 x365 w364)∧
 zt4 27 #[pt a_0,iV (x180.n:Int)] w253 fun n368 w367=>
 zl4 w367 x68 n195 fun x369 n370 n371 n372 x373=>
 IxOk x180 n368∧
 zl4 w367 x180 n368 fun x374 n375 n376 n377 x378=>
 bS 66 4 #[(0,(.agg #[x188.val,iV n189,iV n190,iV n191,x192.val])),(1,(.agg #[x369.val,iV n370,iV n371,iV n372,x373.val])),(2,(.agg #[x345.val,iV n346,iV n347,iV n348,x349.val])),(3,(.agg #[x374.val,iV n375,iV n376,iV n377,x378.val]))] w367 fun x381 w380=>
 zq5 (Sl.mk none 0 0) (Sl.mk none 0 0) x3 fun _=>
 J182 x381 w380)∧
 zt4 27 #[pt a_0,iV (x180.n:Int)] w253 fun n384 w383=>
 zl4 w383 x68 n195 fun x385 n386 n387 n388 x389=>
 zl4 w383 x134 n254 fun x390 n391 n392 n393 x394=>
 IxOk x180 n384∧
 zl4 w383 x180 n384 fun x395 n396 n397 n398 x399=>
 bS 66 4 #[(0,(.agg #[x188.val,iV n189,iV n190,iV n191,x192.val])),(1,(.agg #[x385.val,iV n386,iV n387,iV n388,x389.val])),(2,(.agg #[x390.val,iV n391,iV n392,iV n393,x394.val])),(3,(.agg #[x395.val,iV n396,iV n397,iV n398,x399.val]))] w383 fun x402 w401=>
 zq5 (Sl.mk none 0 0) (Sl.mk none 0 0) x3 fun _=>
 J182 x402 w401)∧
 zt4 27 #[pt a_0,iV (x180.n:Int)] w253 fun n405 w404=>
 zl4 w404 x68 n195 fun x406 n407 n408 n409 x410=>
 IxOk x134 n254∧
 zl4 w404 x134 n254 fun x411 n412 n413 n414 x415=>
 IxOk x180 n405∧
 zl4 w404 x180 n405 fun x416 n417 n418 n419 x420=>
 bS 66 4 #[(0,(.agg #[x188.val,iV n189,iV n190,iV n191,x192.val])),(1,(.agg #[x406.val,iV n407,iV n408,iV n409,x410.val])),(2,(.agg #[x411.val,iV n412,iV n413,iV n414,x415.val])),(3,(.agg #[x416.val,iV n417,iV n418,iV n419,x420.val]))] w404 fun x423 w422=>
 zq5 (Sl.mk none 0 0) (Sl.mk none 0 0) x3 fun _=>
 J182 x423 w422)∧
 zt4 27 #[pt a_0,iV (x134.n:Int)] w194 fun n426 w425=>
 (IxOk x68 n195∧
 (zl4 w425 x68 n195 fun x427 n428 n429 n430 x431=>
 (IxOk x134 n426∧
 (zl4 w425 x134 n426 fun x432 n433 n434 n435 x436=>
 zt4 27 #[pt a_0,iV (x180.n:Int)] w425 fun n439 w438=>
 IxOk x180 n439∧
 zl4 w438 x180 n439 fun x440 n441 n442 n443 x444=>
 bS 66 4 #[(0,(.agg #[x188.val,iV n189,iV n190,iV n191,x192.val])),(1,(.agg #[x427.val,iV n428,iV n429,iV n430,x431.val])),(2,(.agg #[x432.val,iV n433,iV n434,iV n435,x436.val])),(3,(.agg #[x440.val,iV n441,iV n442,iV n443,x444.val]))] w438 fun x447 w446=>
 zq5 (Sl.mk none 0 0) (Sl.mk none 0 0) x3 fun _=>
 J182 x447 w446)∧
 zt4 27 #[pt a_0,iV (x180.n:Int)] w425 fun n450 w449=>
 zl4 w449 x134 n426 fun x451 n452 n453 n454 x455=>
 IxOk x180 n450∧
 zl4 w449 x180 n450 fun x456 n457 n458 n459 x460=>
 bS 66 4 #[(0,(.agg #[x188.val,iV n189,iV n190,iV n191,x192.val])),(1,(.agg #[x427.val,iV n428,iV n429,iV n430,x431.val])),(2,(.agg #[x451.val,iV n452,iV n453,iV n454,x455.val])),(3,(.agg #[x456.val,iV n457,iV n458,iV n459,x460.val]))] w449 fun x463 w462=>
 zq5 (Sl.mk none 0 0) (Sl.mk none 0 0) x3 fun _=>
 J182 x463 w462)∧
 zt4 27 #[pt a_0,iV (x180.n:Int)] w425 fun n466 w465=>
 IxOk x134 n426∧
 zl4 w465 x134 n426 fun x467 n468 n469 n470 x471=>
 IxOk x180 n466∧
 zl4 w465 x180 n466 fun x472 n473 n474 n475 x476=>
 bS 66 4 #[(0,(.agg #[x188.val,iV n189,iV n190,iV n191,x192.val])),(1,(.agg #[x427.val,iV n428,iV n429,iV n430,x431.val])),(2,(.agg #[x467.val,iV n468,iV n469,iV n470,x471.val])),(3,(.agg #[x472.val,iV n473,iV n474,iV n475,x476.val]))] w465 fun x479 w478=>
 zq5 (Sl.mk none 0 0) (Sl.mk none 0 0) x3 fun _=>
 J182 x479 w478)∧
 (IxOk x134 n426∧
 (zl4 w425 x68 n195 fun x480 n481 n482 n483 x484=>
 (zl4 w425 x134 n426 fun x485 n486 n487 n488 x489=>
 zt4 27 #[pt a_0,iV (x180.n:Int)] w425 fun n492 w491=>
 IxOk x180 n492∧
 zl4 w491 x180 n492 fun x493 n494 n495 n496 x497=>
 bS 66 4 #[(0,(.agg #[x188.val,iV n189,iV n190,iV n191,x192.val])),(1,(.agg #[x480.val,iV n481,iV n482,iV n483,x484.val])),(2,(.agg #[x485.val,iV n486,iV n487,iV n488,x489.val])),(3,(.agg #[x493.val,iV n494,iV n495,iV n496,x497.val]))] w491 fun x500 w499=>
 zq5 (Sl.mk none 0 0) (Sl.mk none 0 0) x3 fun _=>
 J182 x500 w499)∧
 zt4 27 #[pt a_0,iV (x180.n:Int)] w425 fun n503 w502=>
 zl4 w502 x134 n426 fun x504 n505 n506 n507 x508=>
 IxOk x180 n503∧
 zl4 w502 x180 n503 fun x509 n510 n511 n512 x513=>
 bS 66 4 #[(0,(.agg #[x188.val,iV n189,iV n190,iV n191,x192.val])),(1,(.agg #[x480.val,iV n481,iV n482,iV n483,x484.val])),(2,(.agg #[x504.val,iV n505,iV n506,iV n507,x508.val])),(3,(.agg #[x509.val,iV n510,iV n511,iV n512,x513.val]))] w502 fun x516 w515=>
 zq5 (Sl.mk none 0 0) (Sl.mk none 0 0) x3 fun _=>
 J182 x516 w515)∧
 (zl4 w425 x134 n426 fun x517 n518 n519 n520 x521=>
 (zl4 w425 x68 n195 fun x522 n523 n524 n525 x526=>
 zt4 27 #[pt a_0,iV (x180.n:Int)] w425 fun n529 w528=>
 IxOk x180 n529∧
 zl4 w528 x180 n529 fun x530 n531 n532 n533 x534=>
 bS 66 4 #[(0,(.agg #[x188.val,iV n189,iV n190,iV n191,x192.val])),(1,(.agg #[x522.val,iV n523,iV n524,iV n525,x526.val])),(2,(.agg #[x517.val,iV n518,iV n519,iV n520,x521.val])),(3,(.agg #[x530.val,iV n531,iV n532,iV n533,x534.val]))] w528 fun x537 w536=>
 zq5 (Sl.mk none 0 0) (Sl.mk none 0 0) x3 fun _=>
 J182 x537 w536)∧
 zt4 27 #[pt a_0,iV (x180.n:Int)] w425 fun n540 w539=>
 zl4 w539 x68 n195 fun x541 n542 n543 n544 x545=>
 IxOk x180 n540∧
 zl4 w539 x180 n540 fun x546 n547 n548 n549 x550=>
 bS 66 4 #[(0,(.agg #[x188.val,iV n189,iV n190,iV n191,x192.val])),(1,(.agg #[x541.val,iV n542,iV n543,iV n544,x545.val])),(2,(.agg #[x517.val,iV n518,iV n519,iV n520,x521.val])),(3,(.agg #[x546.val,iV n547,iV n548,iV n549,x550.val]))] w539 fun x553 w552=>
 zq5 (Sl.mk none 0 0) (Sl.mk none 0 0) x3 fun _=>
 J182 x553 w552)∧
 zt4 27 #[pt a_0,iV (x180.n:Int)] w425 fun n556 w555=>
 zl4 w555 x68 n195 fun x557 n558 n559 n560 x561=>
 zl4 w555 x134 n426 fun x562 n563 n564 n565 x566=>
 IxOk x180 n556∧
 zl4 w555 x180 n556 fun x567 n568 n569 n570 x571=>
 bS 66 4 #[(0,(.agg #[x188.val,iV n189,iV n190,iV n191,x192.val])),(1,(.agg #[x557.val,iV n558,iV n559,iV n560,x561.val])),(2,(.agg #[x562.val,iV n563,iV n564,iV n565,x566.val])),(3,(.agg #[x567.val,iV n568,iV n569,iV n570,x571.val]))] w555 fun x574 w573=>
 zq5 (Sl.mk none 0 0) (Sl.mk none 0 0) x3 fun _=>
 J182 x574 w573)∧
 zt4 27 #[pt a_0,iV (x180.n:Int)] w425 fun n577 w576=>
 zl4 w576 x68 n195 fun x578 n579 n580 n581 x582=>
 IxOk x134 n426∧
 zl4 w576 x134 n426 fun x583 n584 n585 n586 x587=>
 IxOk x180 n577∧
 zl4 w576 x180 n577 fun x588 n589 n590 n591 x592=>
 bS 66 4 #[(0,(.agg #[x188.val,iV n189,iV n190,iV n191,x192.val])),(1,(.agg #[x578.val,iV n579,iV n580,iV n581,x582.val])),(2,(.agg #[x583.val,iV n584,iV n585,iV n586,x587.val])),(3,(.agg #[x588.val,iV n589,iV n590,iV n591,x592.val]))] w576 fun x595 w594=>
 zq5 (Sl.mk none 0 0) (Sl.mk none 0 0) x3 fun _=>
 J182 x595 w594)∧
 (IxOk x134 n426∧
 (IxOk x68 n195∧
 (zl4 w425 x68 n195 fun x596 n597 n598 n599 x600=>
 (zl4 w425 x134 n426 fun x601 n602 n603 n604 x605=>
 zt4 27 #[pt a_0,iV (x180.n:Int)] w425 fun n608 w607=>
 IxOk x180 n608∧
 zl4 w607 x180 n608 fun x609 n610 n611 n612 x613=>
 bS 66 4 #[(0,(.agg #[x188.val,iV n189,iV n190,iV n191,x192.val])),(1,(.agg #[x596.val,iV n597,iV n598,iV n599,x600.val])),(2,(.agg #[x601.val,iV n602,iV n603,iV n604,x605.val])),(3,(.agg #[x609.val,iV n610,iV n611,iV n612,x613.val]))] w607 fun x616 w615=>
 zq5 (Sl.mk none 0 0) (Sl.mk none 0 0) x3 fun _=>
 J182 x616 w615)∧
 zt4 27 #[pt a_0,iV (x180.n:Int)] w425 fun n619 w618=>
 zl4 w618 x134 n426 fun x620 n621 n622 n623 x624=>
 IxOk x180 n619∧
 zl4 w618 x180 n619 fun x625 n626 n627 n628 x629=>
 bS 66 4 #[(0,(.agg #[x188.val,iV n189,iV n190,iV n191,x192.val])),(1,(.agg #[x596.val,iV n597,iV n598,iV n599,x600.val])),(2,(.agg #[x620.val,iV n621,iV n622,iV n623,x624.val])),(3,(.agg #[x625.val,iV n626,iV n627,iV n628,x629.val]))] w618 fun x632 w631=>
 zq5 (Sl.mk none 0 0) (Sl.mk none 0 0) x3 fun _=>
 J182 x632 w631)∧
 (zl4 w425 x134 n426 fun x633 n634 n635 n636 x637=>
 (zl4 w425 x68 n195 fun x638 n639 n640 n641 x642=>
 zt4 27 #[pt a_0,iV (x180.n:Int)] w425 fun n645 w644=>
 IxOk x180 n645∧
 zl4 w644 x180 n645 fun x646 n647 n648 n649 x650=>
 bS 66 4 #[(0,(.agg #[x188.val,iV n189,iV n190,iV n191,x192.val])),(1,(.agg #[x638.val,iV n639,iV n640,iV n641,x642.val])),(2,(.agg #[x633.val,iV n634,iV n635,iV n636,x637.val])),(3,(.agg #[x646.val,iV n647,iV n648,iV n649,x650.val]))] w644 fun x653 w652=>
 zq5 (Sl.mk none 0 0) (Sl.mk none 0 0) x3 fun _=>
 J182 x653 w652)∧
 zt4 27 #[pt a_0,iV (x180.n:Int)] w425 fun n656 w655=>
 zl4 w655 x68 n195 fun x657 n658 n659 n660 x661=>
 IxOk x180 n656∧
 zl4 w655 x180 n656 fun x662 n663 n664 n665 x666=>
 bS 66 4 #[(0,(.agg #[x188.val,iV n189,iV n190,iV n191,x192.val])),(1,(.agg #[x657.val,iV n658,iV n659,iV n660,x661.val])),(2,(.agg #[x633.val,iV n634,iV n635,iV n636,x637.val])),(3,(.agg #[x662.val,iV n663,iV n664,iV n665,x666.val]))] w655 fun x669 w668=>
 zq5 (Sl.mk none 0 0) (Sl.mk none 0 0) x3 fun _=>
 J182 x669 w668)∧
 zt4 27 #[pt a_0,iV (x180.n:Int)] w425 fun n672 w671=>
 zl4 w671 x68 n195 fun x673 n674 n675 n676 x677=>
 zl4 w671 x134 n426 fun x678 n679 n680 n681 x682=>
 IxOk x180 n672∧
 zl4 w671 x180 n672 fun x683 n684 n685 n686 x687=>
 bS 66 4 #[(0,(.agg #[x188.val,iV n189,iV n190,iV n191,x192.val])),(1,(.agg #[x673.val,iV n674,iV n675,iV n676,x677.val])),(2,(.agg #[x678.val,iV n679,iV n680,iV n681,x682.val])),(3,(.agg #[x683.val,iV n684,iV n685,iV n686,x687.val]))] w671 fun x690 w689=>
 zq5 (Sl.mk none 0 0) (Sl.mk none 0 0) x3 fun _=>
 J182 x690 w689)∧
 (zl4 w425 x134 n426 fun x691 n692 n693 n694 x695=>
 (IxOk x68 n195∧
 (zl4 w425 x68 n195 fun x696 n697 n698 n699 x700=>
 zt4 27 #[pt a_0,iV (x180.n:Int)] w425 fun n703 w702=>
 IxOk x180 n703∧
 zl4 w702 x180 n703 fun x704 n705 n706 n707 x708=>
 bS 66 4 #[(0,(.agg #[x188.val,iV n189,iV n190,iV n191,x192.val])),(1,(.agg #[x696.val,iV n697,iV n698,iV n699,x700.val])),(2,(.agg #[x691.val,iV n692,iV n693,iV n694,x695.val])),(3,(.agg #[x704.val,iV n705,iV n706,iV n707,x708.val]))] w702 fun x711 w710=>
 zq5 (Sl.mk none 0 0) (Sl.mk none 0 0) x3 fun _=>
 J182 x711 w710)∧
 zt4 27 #[pt a_0,iV (x180.n:Int)] w425 fun n714 w713=>
 zl4 w713 x68 n195 fun x715 n716 n717 n718 x719=>
 IxOk x180 n714∧
 zl4 w713 x180 n714 fun x720 n721 n722 n723 x724=>
 bS 66 4 #[(0,(.agg #[x188.val,iV n189,iV n190,iV n191,x192.val])),(1,(.agg #[x715.val,iV n716,iV n717,iV n718,x719.val])),(2,(.agg #[x691.val,iV n692,iV n693,iV n694,x695.val])),(3,(.agg #[x720.val,iV n721,iV n722,iV n723,x724.val]))] w713 fun x727 w726=>
 zq5 (Sl.mk none 0 0) (Sl.mk none 0 0) x3 fun _=>
 J182 x727 w726)∧
 zt4 27 #[pt a_0,iV (x180.n:Int)] w425 fun n730 w729=>
 IxOk x68 n195∧
 zl4 w729 x68 n195 fun x731 n732 n733 n734 x735=>
 IxOk x180 n730∧
 zl4 w729 x180 n730 fun x736 n737 n738 n739 x740=>
 bS 66 4 #[(0,(.agg #[x188.val,iV n189,iV n190,iV n191,x192.val])),(1,(.agg #[x731.val,iV n732,iV n733,iV n734,x735.val])),(2,(.agg #[x691.val,iV n692,iV n693,iV n694,x695.val])),(3,(.agg #[x736.val,iV n737,iV n738,iV n739,x740.val]))] w729 fun x743 w742=>
 zq5 (Sl.mk none 0 0) (Sl.mk none 0 0) x3 fun _=>
 J182 x743 w742)∧
 zt4 27 #[pt a_0,iV (x180.n:Int)] w425 fun n746 w745=>
 IxOk x68 n195∧
 zl4 w745 x68 n195 fun x747 n748 n749 n750 x751=>
 zl4 w745 x134 n426 fun x752 n753 n754 n755 x756=>
 IxOk x180 n746∧
 zl4 w745 x180 n746 fun x757 n758 n759 n760 x761=>
 bS 66 4 #[(0,(.agg #[x188.val,iV n189,iV n190,iV n191,x192.val])),(1,(.agg #[x747.val,iV n748,iV n749,iV n750,x751.val])),(2,(.agg #[x752.val,iV n753,iV n754,iV n755,x756.val])),(3,(.agg #[x757.val,iV n758,iV n759,iV n760,x761.val]))] w745 fun x764 w763=>
 zq5 (Sl.mk none 0 0) (Sl.mk none 0 0) x3 fun _=>
 J182 x764 w763)∧
 zt4 27 #[pt a_0,iV (x180.n:Int)] w425 fun n767 w766=>
 IxOk x68 n195∧
 zl4 w766 x68 n195 fun x768 n769 n770 n771 x772=>
 IxOk x134 n426∧
 zl4 w766 x134 n426 fun x773 n774 n775 n776 x777=>
 IxOk x180 n767∧
 zl4 w766 x180 n767 fun x778 n779 n780 n781 x782=>
 bS 66 4 #[(0,(.agg #[x188.val,iV n189,iV n190,iV n191,x192.val])),(1,(.agg #[x768.val,iV n769,iV n770,iV n771,x772.val])),(2,(.agg #[x773.val,iV n774,iV n775,iV n776,x777.val])),(3,(.agg #[x778.val,iV n779,iV n780,iV n781,x782.val]))] w766 fun x785 w784=>
 zq5 (Sl.mk none 0 0) (Sl.mk none 0 0) x3 fun _=>
 J182 x785 w784)∧
 ∀ x786:Sl,∀ w787:World,J182 x786 w787→
 bS 28 5 #[(0,(iV 4)),(1,(iV 4)),(2,(iV 3)),(3,(iV 2)),(4,(iV 4))] w787 fun x790 w789=>
 zt4 20 #[pt a_0,x790.val] w789 fun n793 w792=>
 CutOk x786 0 n793∧
 ∃ n794,Wr .i64 (n793 - 1) n794∧
 ∃ I795:zI1,∃ m796:zN1,I795 n794 w792∧
 ∀ n797 w798,I795 n797 w798→
 ((decide (n797≥0))=true→
 zt12 61 #[pt a_0,.agg #[x3.val,(x786.cut 0 n793 5).val],iV n797] w798 fun n801 n802 x803 w800=>
 IxOk (x786.cut 0 n793 5) n797∧
 zl9 w800 (x786.cut 0 n793 5) n797 fun x804=>
 IxOk (x786.cut 0 n793 5) n797∧
 zl10 w800 (x786.cut 0 n793 5) n797 fun n805=>
 IxOk (x786.cut 0 n793 5) n797∧
 StoreAt w800 (elA (x786.cut 0 n793 5) n797 5) 0 [x804.val,iV n805,iV n801,iV n802,x803.val] fun w806=>
 ∃ n807,Wr .i64 (n797 - 1) n807∧
 zq4 (Sl.mk none 0 0) (Sl.mk none 0 0) x3 (x786.cut 0 n793 5) fun _=>
 I795 n807 w806∧
 m796 n807 w806 < m796 n797 w798)∧
 ((decide (n797≥0))=false→
 Q (.agg #[x3.val,(x786.cut 0 n793 5).val]) w798)
theorem of42 (a_0:Addr) (v:World) (Q:QT) (h:vc42 a_0 v Q):Tr 42 #[pt a_0] v Q:=
 trip_of_eq (args:=[.pt a_0 0]) (A:=⟨[(9,[(8,.int .i64)],[])],[(3,[(4,.sl)],[]),(4,[(5,.sl)],[]),(5,[(6,.sl)],[]),(6,[],[(1,1,.sl)])],[(5,[0,1]),(12,[])],[],psG⟩) Tryz.func42 (by kernel_rfl) (by kernel_rfl) (by kernel_rfl) h
def vc43 (x0_0 x0_1:Sl) (v:World) (Q:QT):Prop:=
 (zt7 63 #[.agg #[x0_0.val,x0_1.val]] v fun x3 w2=>
 Sub v w2∧
 (zt6 62 #[.agg #[x0_0.val,x0_1.val],x3.val] w2 fun x6 x7 w5=>
 Sub w5 w5∧
 ∃ I8:zI3,∃ m9:zN3,I8 0 x6 x7 w5∧
 ∀ n10 x11 x12 w13,I8 n10 x11 x12 w13→
 ((decide (n10≤12))=true→
 bS 94 0 #[] w13 fun x16 w15=>
 ∃ I17:zI4,∃ m18:zN4,I17 x16 0 w15∧
 ∀ x19 n20 w21,I17 x19 n20 w21→
 ((decide (n20 < (x12.n:Int)))=true→
 zt7 64 #[.agg #[x11.val,x12.val],iV n20] w21 fun x24 w23=>
 bS 94 1 #[(0,(x24.val))] w23 fun x27 w26=>
 aS 94 x19 x27 w26 fun x30 w29=>
 ∃ n31,Wr .i64 (n20+1) n31∧
 zq6 x0_0 x0_1 (Sl.mk none 0 0) (Sl.mk none 0 0) x11 x12 fun _=>
 I17 x30 n31 w29∧
 m18 x30 n31 w29 < m18 x19 n20 w21)∧
 ((decide (n20 < (x12.n:Int)))=false→
 zt6 62 #[.agg #[x11.val,x12.val],x19.val] w21 fun x34 x35 w33=>
 ∃ n36,Wr .i64 (n10+1) n36∧
 zq4 x0_0 x0_1 (Sl.mk none 0 0) (Sl.mk none 0 0) fun _=>
 I8 n36 x34 x35 w33∧
 m9 n36 x34 x35 w33 < m9 n10 x11 x12 w13))∧
 ((decide (n10≤12))=false→
 Q (.agg #[x11.val,x12.val]) w13))∧
 Sub w2 w2∧
 zt6 62 #[.agg #[x0_0.val,x0_1.val],x3.val] w2 fun x39 x40 w38=>
 ∃ I41:zI3,∃ m42:zN3,I41 0 x39 x40 w38∧
 ∀ n43 x44 x45 w46,I41 n43 x44 x45 w46→
 ((decide (n43≤12))=true→
 bS 94 0 #[] w46 fun x49 w48=>
 ∃ I50:zI4,∃ m51:zN4,I50 x49 0 w48∧
 ∀ x52 n53 w54,I50 x52 n53 w54→
 ((decide (n53 < (x45.n:Int)))=true→
 zt7 64 #[.agg #[x44.val,x45.val],iV n53] w54 fun x57 w56=>
 bS 94 1 #[(0,(x57.val))] w56 fun x60 w59=>
 aS 94 x52 x60 w59 fun x63 w62=>
 ∃ n64,Wr .i64 (n53+1) n64∧
 zq6 x0_0 x0_1 (Sl.mk none 0 0) (Sl.mk none 0 0) x44 x45 fun _=>
 I50 x63 n64 w62∧
 m51 x63 n64 w62 < m51 x52 n53 w54)∧
 ((decide (n53 < (x45.n:Int)))=false→
 zt6 62 #[.agg #[x44.val,x45.val],x52.val] w54 fun x67 x68 w66=>
 ∃ n69,Wr .i64 (n43+1) n69∧
 zq4 x0_0 x0_1 (Sl.mk none 0 0) (Sl.mk none 0 0) fun _=>
 I41 n69 x67 x68 w66∧
 m42 n69 x67 x68 w66 < m42 n43 x44 x45 w46))∧
 ((decide (n43≤12))=false→
 Q (.agg #[x44.val,x45.val]) w46))∧
 Sub v v∧
 zt7 63 #[.agg #[x0_0.val,x0_1.val]] v fun x72 w71=>
 Sub v w71∧
 zt6 62 #[.agg #[x0_0.val,x0_1.val],x72.val] w71 fun x75 x76 w74=>
 ∃ I77:zI3,∃ m78:zN3,I77 0 x75 x76 w74∧
 ∀ n79 x80 x81 w82,I77 n79 x80 x81 w82→
 ((decide (n79≤12))=true→
 bS 94 0 #[] w82 fun x85 w84=>
 ∃ I86:zI4,∃ m87:zN4,I86 x85 0 w84∧
 ∀ x88 n89 w90,I86 x88 n89 w90→
 ((decide (n89 < (x81.n:Int)))=true→
 zt7 64 #[.agg #[x80.val,x81.val],iV n89] w90 fun x93 w92=>
 bS 94 1 #[(0,(x93.val))] w92 fun x96 w95=>
 aS 94 x88 x96 w95 fun x99 w98=>
 ∃ n100,Wr .i64 (n89+1) n100∧
 zq6 x0_0 x0_1 (Sl.mk none 0 0) (Sl.mk none 0 0) x80 x81 fun _=>
 I86 x99 n100 w98∧
 m87 x99 n100 w98 < m87 x88 n89 w90)∧
 ((decide (n89 < (x81.n:Int)))=false→
 zt6 62 #[.agg #[x80.val,x81.val],x88.val] w90 fun x103 x104 w102=>
 ∃ n105,Wr .i64 (n79+1) n105∧
 zq4 x0_0 x0_1 (Sl.mk none 0 0) (Sl.mk none 0 0) fun _=>
 I77 n105 x103 x104 w102∧
 m78 n105 x103 x104 w102 < m78 n79 x80 x81 w82))∧
 ((decide (n79≤12))=false→
 Q (.agg #[x80.val,x81.val]) w82)
theorem of43 (x0_0 x0_1:Sl) (v:World) (Q:QT) (h:vc43 x0_0 x0_1 v Q):Tr 43 #[.agg #[x0_0.val,x0_1.val]] v Q:=
 trip_of_eq (args:=[.ag [.sl x0_0,.sl x0_1]]) (A:=⟨[(3,[(4,.int .i64)],[(2,0,.sl),(2,1,.sl)]),(7,[(5,.sl),(6,.int .i64)],[])],[],[(1,[2,4])],[],psG⟩) Tryz.func43 (by kernel_rfl) (by kernel_rfl) (by kernel_rfl) h
def vc44 (a_0:Addr) (v:World) (Q:QT):Prop:=
 zt6 33 #[pt a_0] v fun x3 x4 w2=>
 zt6 65 #[.agg #[x3.val,x4.val]] w2 fun x7 x8 w6=>
 zt4 27 #[pt a_0,iV 4] w6 fun n11 w10=>
 ((decide (n11=0))=true→
 zt6 66 #[.agg #[x3.val,x4.val]] w10 fun x14 x15 w13=>
 Q (.agg #[x14.val,x15.val]) w13)∧
 ((decide (n11=0))=false→
 Q (.agg #[x7.val,x8.val]) w10)
theorem of44 (a_0:Addr) (v:World) (Q:QT) (h:vc44 a_0 v Q):Tr 44 #[pt a_0] v Q:=
 trip_of_eq (args:=[.pt a_0 0]) (A:=aG) Tryz.func44 (by kernel_rfl) (by kernel_rfl) (by kernel_rfl) h
def vc45 (a_0:Addr) (x1_0 x1_1:Sl) (v:World) (Q:QT):Prop:=
 zt4 27 #[pt a_0,iV (x1_1.n:Int)] v fun n3 w2=>
 IxOk x1_1 n3∧
 zl2 w2 x1_1 n3 fun x4 n5=>
 ∃ n6,Wr .i64 ((x4.n:Int)+1) n6∧
 zt4 27 #[pt a_0,iV n6] w2 fun n9 w8=>
 zt13 67 #[.agg #[x1_0.val,x1_1.val],iV n3,iV n9] w8 fun a12 q13 w11=>
 ((!q13)=true→
 Q (.agg #[x1_0.val,x1_1.val]) w11)∧
 ((!q13)=false→
 bS 28 0 #[] w11 fun x16 w15=>
 ∃ I17:zI4,∃ m18:zN4,I17 x16 0 w15∧
 ∀ x19 n20 w21,I17 x19 n20 w21→
 ∃ x22:Sl,w21.cell? (a12.add 0)=some (x22.val)∧
 ((decide (n20 < (x22.n:Int)))=true→
 ∃ x23:Sl,w21.cell? (a12.add 0)=some (x23.val)∧
 IxOk x23 n20∧
 zl6 w21 x23 n20 fun n24=>
 ∃ q25:Bool,((!decide (n24=0))=true→
 (pF 68 #[pt a12,iV n20] w21 (.bool q25)))∧
 (((!decide (n24=0)) && q25)=true→
 bS 28 1 #[(0,(iV n20))] w21 fun x30 w29=>
 aS 28 x19 x30 w29 fun x33 w32=>
 ∃ n34,Wr .i64 (n20+1) n34∧
 zq7 x1_0 x1_1 (Sl.mk none 0 0) (Sl.mk none 0 0) x4 n5 fun _=>
 I17 x33 n34 w32∧
 m18 x33 n34 w32 < m18 x19 n20 w21)∧
 (((!decide (n24=0)) && q25)=false→
 ∃ n35,Wr .i64 (n20+1) n35∧
 zq7 x1_0 x1_1 (Sl.mk none 0 0) (Sl.mk none 0 0) x4 n5 fun _=>
 I17 x19 n35 w21∧
 m18 x19 n35 w21 < m18 x19 n20 w21))∧
 ((decide (n20 < (x22.n:Int)))=false→
 ((decide ((x19.n:Int)=0))=true→
 Q (.agg #[x1_0.val,x1_1.val]) w21)∧
 ((decide ((x19.n:Int)=0))=false→
 zt4 27 #[pt a_0,iV (x19.n:Int)] w21 fun n38 w37=>
 IxOk x19 n38∧
 zl6 w37 x19 n38 fun n39=>
 ∃ n40,Wr .i64 ((x4.n:Int) - n9) n40∧
 ∃ n41,Wr .i64 (n40+1) n41∧
 zt4 27 #[pt a_0,iV n41] w37 fun n44 w43=>
 ∃ n45,Wr .i64 (n9+n44) n45∧
 zt10 55 #[iV 15,iV n39] w43 fun n48 n49 n50 x51 x52 w47=>
 Sub w43 w47∧
 zt3 54 #[.agg #[x4.val,iV n5],iV n45,.agg #[iV n48,iV n49,iV n50,x51.val,x52.val]] w47 fun x55 n56 w54=>
 zt10 55 #[iV 14,iV n39] w54 fun n59 n60 n61 x62 x63 w58=>
 Sub w54 w58∧
 zt3 54 #[.agg #[x55.val,iV n56],iV n9,.agg #[iV n59,iV n60,iV n61,x62.val,x63.val]] w58 fun x66 n67 w65=>
 Sub w58 w65∧
 zt6 37 #[.agg #[x1_0.val,x1_1.val],iV n3,.agg #[x66.val,iV n67]] w65 fun x70 x71 w69=>
 Q (.agg #[x70.val,x71.val]) w69)))
theorem of45 (a_0:Addr) (x1_0 x1_1:Sl) (v:World) (Q:QT) (h:vc45 a_0 x1_0 x1_1 v Q):Tr 45 #[pt a_0,.agg #[x1_0.val,x1_1.val]] v Q:=
 trip_of_eq (args:=[.pt a_0 0,.ag [.sl x1_0,.sl x1_1]]) (A:=⟨[(9,[(10,.sl),(11,.int .i64)],[])],[],[(17,[3]),(18,[5,6])],[],psG⟩) Tryz.func45 (by kernel_rfl) (by kernel_rfl) (by kernel_rfl) h
def vc46 (x0_0 x0_1:Sl) (v:World) (Q:QT):Prop:=
 zt7 57 #[x0_0.val] v fun x3 w2=>
 bS 48 0 #[] w2 fun x6 w5=>
 ∃ I7:zI2,∃ m8:zN2,I7 0 x6 w5∧
 ∀ n9 x10 w11,I7 n9 x10 w11→
 ((decide (n9 < (x0_1.n:Int)))=true→
 IxOk x0_1 n9∧
 zl3 w11 x0_1 n9 fun x12 x13 n14 x15 n16=>
 IxOk x0_1 n9∧
 zl2 w11 x0_1 n9 fun x17 n18=>
 zt3 69 #[.agg #[x17.val,iV n18]] w11 fun x21 n22 w20=>
 Sub w11 w20∧
 zt8 49 #[.agg #[x12.val,x13.val,iV n14,x15.val,iV n16],.agg #[x21.val,iV n22]] w20 fun x25 x26 n27 x28 n29 w24=>
 Sub w20 w24∧
 bS 48 1 #[(0,(.agg #[x25.val,x26.val,iV n27,x28.val,iV n29]))] w24 fun x32 w31=>
 Sub w24 w31∧
 aS 48 x10 x32 w31 fun x35 w34=>
 ∃ n36,Wr .i64 (n9+1) n36∧
 zq3 x0_0 x0_1 (Sl.mk none 0 0) (Sl.mk none 0 0) x3 fun _=>
 I7 n36 x35 w34∧
 m8 n36 x35 w34 < m8 n9 x10 w11)∧
 ((decide (n9 < (x0_1.n:Int)))=false→
 Q (.agg #[x3.val,x10.val]) w11)
theorem of46 (x0_0 x0_1:Sl) (v:World) (Q:QT) (h:vc46 x0_0 x0_1 v Q):Tr 46 #[.agg #[x0_0.val,x0_1.val]] v Q:=
 trip_of_eq (args:=[.ag [.sl x0_0,.sl x0_1]]) (A:=⟨[(3,[(4,.int .i64)],[(2,1,.sl)])],[],[(5,[13,14,15])],[],psG⟩) Tryz.func46 (by kernel_rfl) (by kernel_rfl) (by kernel_rfl) h
def vc47 (x0_0 x0_1:Sl) (v:World) (Q:QT):Prop:=
 zt7 57 #[x0_0.val] v fun x3 w2=>
 bS 48 0 #[] w2 fun x6 w5=>
 ∃ I7:zI2,∃ m8:zN2,I7 0 x6 w5∧
 ∀ n9 x10 w11,I7 n9 x10 w11→
 ((decide (n9 < (x0_1.n:Int)))=true→
 IxOk x0_1 n9∧
 zl3 w11 x0_1 n9 fun x12 x13 n14 x15 n16=>
 zt3 70 #[.agg #[x0_0.val,x0_1.val],.agg #[x15.val,iV n16],iV (x12.n:Int)] w11 fun x19 n20 w18=>
 Sub w11 w18∧
 zt8 49 #[.agg #[x12.val,x13.val,iV n14,x15.val,iV n16],.agg #[x19.val,iV n20]] w18 fun x23 x24 n25 x26 n27 w22=>
 Sub w18 w22∧
 bS 48 1 #[(0,(.agg #[x23.val,x24.val,iV n25,x26.val,iV n27]))] w22 fun x30 w29=>
 Sub w22 w29∧
 aS 48 x10 x30 w29 fun x33 w32=>
 ∃ n34,Wr .i64 (n9+1) n34∧
 zq3 x0_0 x0_1 (Sl.mk none 0 0) (Sl.mk none 0 0) x3 fun _=>
 I7 n34 x33 w32∧
 m8 n34 x33 w32 < m8 n9 x10 w11)∧
 ((decide (n9 < (x0_1.n:Int)))=false→
 Q (.agg #[x3.val,x10.val]) w11)
theorem of47 (x0_0 x0_1:Sl) (v:World) (Q:QT) (h:vc47 x0_0 x0_1 v Q):Tr 47 #[.agg #[x0_0.val,x0_1.val]] v Q:=
 trip_of_eq (args:=[.ag [.sl x0_0,.sl x0_1]]) (A:=⟨[(3,[(4,.int .i64)],[(2,1,.sl)])],[],[(6,[9,10,11])],[],psG⟩) Tryz.func47 (by kernel_rfl) (by kernel_rfl) (by kernel_rfl) h
def vc48 (x0_0 x0_1:Sl) (v:World) (Q:QT):Prop:=
 zt7 57 #[x0_0.val] v fun x3 w2=>
 bS 48 0 #[] w2 fun x6 w5=>
 ∃ I7:zI2,∃ m8:zN2,I7 0 x6 w5∧
 ∀ n9 x10 w11,I7 n9 x10 w11→
 ((decide (n9 < (x0_1.n:Int)))=true→
 IxOk x0_1 n9∧
 zl3 w11 x0_1 n9 fun x12 x13 n14 x15 n16=>
 IxOk x0_1 n9∧
 zl2 w11 x0_1 n9 fun x17 n18=>
 bS 28 0 #[] w11 fun x21 w20=>
 Sub w11 w20∧
 zt3 71 #[.agg #[x0_0.val,x0_1.val],.agg #[x17.val,iV n18],x21.val] w20 fun x24 n25 w23=>
 Sub w20 w23∧
 zt8 49 #[.agg #[x12.val,x13.val,iV n14,x15.val,iV n16],.agg #[x24.val,iV n25]] w23 fun x28 x29 n30 x31 n32 w27=>
 Sub w23 w27∧
 bS 48 1 #[(0,(.agg #[x28.val,x29.val,iV n30,x31.val,iV n32]))] w27 fun x35 w34=>
 Sub w27 w34∧
 aS 48 x10 x35 w34 fun x38 w37=>
 ∃ n39,Wr .i64 (n9+1) n39∧
 zq3 x0_0 x0_1 (Sl.mk none 0 0) (Sl.mk none 0 0) x3 fun _=>
 I7 n39 x38 w37∧
 m8 n39 x38 w37 < m8 n9 x10 w11)∧
 ((decide (n9 < (x0_1.n:Int)))=false→
 Q (.agg #[x3.val,x10.val]) w11)
theorem of48 (x0_0 x0_1:Sl) (v:World) (Q:QT) (h:vc48 x0_0 x0_1 v Q):Tr 48 #[.agg #[x0_0.val,x0_1.val]] v Q:=
 trip_of_eq (args:=[.ag [.sl x0_0,.sl x0_1]]) (A:=⟨[(3,[(4,.int .i64)],[(2,1,.sl)])],[],[(5,[14,15,16,17])],[],psG⟩) Tryz.func48 (by kernel_rfl) (by kernel_rfl) (by kernel_rfl) h
def vc49 (x0_0 x0_1:Sl) (n0_2:Int) (x0_3:Sl) (n0_4:Int) (x1_0:Sl) (n1_1:Int) (v:World) (Q:QT):Prop:=
 zt7 50 #[x0_0.val] v fun x3 w2=>
 Sub v w2∧
 zt7 50 #[x0_1.val] w2 fun x6 w5=>
 Sub w2 w5∧
 Q (.agg #[x3.val,x6.val,iV n0_2,x1_0.val,iV n1_1]) w5
theorem of49 (x0_0 x0_1:Sl) (n0_2:Int) (x0_3:Sl) (n0_4:Int) (x1_0:Sl) (n1_1:Int) (v:World) (Q:QT) (h:vc49 x0_0 x0_1 n0_2 x0_3 n0_4 x1_0 n1_1 v Q):Tr 49 #[.agg #[x0_0.val,x0_1.val,iV n0_2,x0_3.val,iV n0_4],.agg #[x1_0.val,iV n1_1]] v Q:=
 trip_of_eq (args:=[.ag [.sl x0_0,.sl x0_1,.num .i64 n0_2,.sl x0_3,.num .i64 n0_4],.ag [.sl x1_0,.num .i64 n1_1]]) (A:=⟨[],[],[(1,[2,5])],[],psG⟩) Tryz.func49 (by kernel_rfl) (by kernel_rfl) (by kernel_rfl) h
def vc50 (x_0:Sl) (v:World) (Q:QT):Prop:=
 bS 28 0 #[] v fun x3 w2=>
 aS 28 x3 x_0 w2 fun x6 w5=>
 Q (x6.val) w5
theorem of50 (x_0:Sl) (v:World) (Q:QT) (h:vc50 x_0 v Q):Tr 50 #[x_0.val] v Q:=
 trip_of_eq (args:=[.sl x_0]) (A:=aG) Tryz.func50 (by kernel_rfl) (by kernel_rfl) (by kernel_rfl) h
def vc51 (a_0:Addr) (v:World) (Q:QT):Prop:=
 bS 28 0 #[] v fun x3 w2=>
 zt9 52 #[x3.val] w2 fun x6 w5=>
 bS 28 2 #[(0,(iV 0)),(1,(iV 1))] w5 fun x9 w8=>
 zt9 52 #[x9.val] w8 fun x12 w11=>
 bS 73 2 #[(0,(.agg #[x6.val])),(1,(.agg #[x12.val]))] w11 fun x15 w14=>
 bS 28 0 #[] w14 fun x18 w17=>
 zt9 52 #[x18.val] w17 fun x21 w20=>
 bS 28 3 #[(0,(iV 3)),(1,(iV 0)),(2,(iV 3))] w20 fun x24 w23=>
 zt9 52 #[x24.val] w23 fun x27 w26=>
 bS 73 2 #[(0,(.agg #[x21.val])),(1,(.agg #[x27.val]))] w26 fun x30 w29=>
 bS 28 2 #[(0,(iV 1)),(1,(iV 3))] w29 fun x33 w32=>
 zt9 52 #[x33.val] w32 fun x36 w35=>
 bS 73 1 #[(0,(.agg #[x36.val]))] w35 fun x39 w38=>
 bS 28 3 #[(0,(iV 1)),(1,(iV 1)),(2,(iV 0))] w38 fun x42 w41=>
 zt9 52 #[x42.val] w41 fun x45 w44=>
 bS 28 1 #[(0,(iV 0))] w44 fun x48 w47=>
 zt9 52 #[x48.val] w47 fun x51 w50=>
 bS 28 1 #[(0,(iV 3))] w50 fun x54 w53=>
 zt9 52 #[x54.val] w53 fun x57 w56=>
 bS 73 3 #[(0,(.agg #[x45.val])),(1,(.agg #[x51.val])),(2,(.agg #[x57.val]))] w56 fun x60 w59=>
 bS 47 4 #[(0,(.agg #[iV 0,iV 0,x39.val])),(1,(.agg #[iV 1,iV 0,.slice none 0 0])),(2,(.agg #[iV 0,iV 0,x60.val])),(3,(.agg #[iV 0,iV 1,.slice none 0 0]))] w59 fun x63 w62=>
 bS 47 3 #[(0,(.agg #[iV 0,iV 0,x15.val])),(1,(.agg #[iV 0,iV 0,.slice none 0 0])),(2,(.agg #[iV 0,iV 0,x30.val]))] w62 fun x66 w65=>
 zt4 27 #[pt a_0,iV 5] w65 fun n69 w68=>
 ((decide (n69 < 4))=true→
 IxOk x63 n69∧
 zl5 w68 x63 n69 fun n70 n71 x72=>
 bS 47 1 #[(0,(.agg #[iV n70,iV n71,x72.val]))] w68 fun x75 w74=>
 aS 47 x66 x75 w74 fun x78 w77=>
 Q (x78.val) w77)∧
 ((decide (n69 < 4))=false→
 Q (x66.val) w68)
theorem of51 (a_0:Addr) (v:World) (Q:QT) (h:vc51 a_0 v Q):Tr 51 #[pt a_0] v Q:=
 trip_of_eq (args:=[.pt a_0 0]) (A:=aG) Tryz.func51 (by kernel_rfl) (by kernel_rfl) (by kernel_rfl) h
def vc52 (x_0:Sl) (v:World) (Q:QT):Prop:=
 Q (.agg #[x_0.val]) v
theorem of52 (x_0:Sl) (v:World) (Q:QT) (h:vc52 x_0 v Q):Tr 52 #[x_0.val] v Q:=
 trip_of_eq (args:=[.sl x_0]) (A:=aG) Tryz.func52 (by kernel_rfl) (by kernel_rfl) (by kernel_rfl) h
def vc53 (x0_0:Sl) (n0_1:Int) (v:World) (Q:QT):Prop:=
 bS 23 0 #[] v fun x3 w2=>
 ∃ I4:zI2,∃ m5:zN2,I4 0 x3 w2∧
 ∀ n6 x7 w8,I4 n6 x7 w8→
 ((decide (n6 < (x0_0.n:Int)))=true→
 IxOk x0_0 n6∧
 zl0 w8 x0_0 n6 fun n9 n10 n11 x12 x13=>
 zt10 72 #[.agg #[iV n9,iV n10,iV n11,x12.val,x13.val]] w8 fun n16 n17 n18 x19 x20 w15=>
 Sub w8 w15∧
 bS 23 1 #[(0,(.agg #[iV n16,iV n17,iV n18,x19.val,x20.val]))] w15 fun x23 w22=>
 Sub w15 w22∧
 aS 23 x7 x23 w22 fun x26 w25=>
 ∃ n27,Wr .i64 (n6+1) n27∧
 zq8 x0_0 n0_1 (Sl.mk none 0 0) 0 n0_1 fun _=>
 I4 n27 x26 w25∧
 m5 n27 x26 w25 < m5 n6 x7 w8)∧
 ((decide (n6 < (x0_0.n:Int)))=false→
 Q (.agg #[x7.val,iV n0_1]) w8)
theorem of53 (x0_0:Sl) (n0_1:Int) (v:World) (Q:QT) (h:vc53 x0_0 n0_1 v Q):Tr 53 #[.agg #[x0_0.val,iV n0_1]] v Q:=
 trip_of_eq (args:=[.ag [.sl x0_0,.num .i64 n0_1]]) (A:=⟨[(3,[(4,.int .i64)],[(2,0,.sl)])],[],[(5,[7,8])],[],psG⟩) Tryz.func53 (by kernel_rfl) (by kernel_rfl) (by kernel_rfl) h
def vc54 (x0_0:Sl) (n0_1 n_1 n2_0 n2_1 n2_2:Int) (x2_3 x2_4:Sl) (v:World) (Q:QT):Prop:=
 bS 23 0 #[] v fun x3 w2=>
 CutOk x0_0 0 n_1∧
 aS 23 x3 (x0_0.cut 0 n_1 5) w2 fun x6 w5=>
 (bS 23 1 #[(0,(.agg #[iV n2_0,iV n2_1,iV n2_2,x2_3.val,x2_4.val]))] w5 fun x9 w8=>
 (aS 23 x6 x9 w8 fun x12 w11=>
 ((0:Int)≤n_1∧n_1≤(x0_0.n:Int))∧
 aS 23 x12 (x0_0.cut n_1 (x0_0.n:Int) 5) w11 fun x15 w14=>
 Q (.agg #[x15.val,iV n0_1]) w14)∧
 ((0:Int)≤n_1∧n_1≤(x0_0.n:Int))∧
 aS 23 x6 x9 w8 fun x18 w17=>
 aS 23 x18 (x0_0.cut n_1 (x0_0.n:Int) 5) w17 fun x21 w20=>
 Q (.agg #[x21.val,iV n0_1]) w20)∧
 ((0:Int)≤n_1∧n_1≤(x0_0.n:Int))∧
 bS 23 1 #[(0,(.agg #[iV n2_0,iV n2_1,iV n2_2,x2_3.val,x2_4.val]))] w5 fun x24 w23=>
 aS 23 x6 x24 w23 fun x27 w26=>
 aS 23 x27 (x0_0.cut n_1 (x0_0.n:Int) 5) w26 fun x30 w29=>
 Q (.agg #[x30.val,iV n0_1]) w29
theorem of54 (x0_0:Sl) (n0_1 n_1 n2_0 n2_1 n2_2:Int) (x2_3 x2_4:Sl) (v:World) (Q:QT) (h:vc54 x0_0 n0_1 n_1 n2_0 n2_1 n2_2 x2_3 x2_4 v Q):Tr 54 #[.agg #[x0_0.val,iV n0_1],iV n_1,.agg #[iV n2_0,iV n2_1,iV n2_2,x2_3.val,x2_4.val]] v Q:=
 trip_of_eq (args:=[.ag [.sl x0_0,.num .i64 n0_1],.num .i64 n_1,.ag [.num .i64 n2_0,.num .i64 n2_1,.num .i64 n2_2,.sl x2_3,.sl x2_4]]) (A:=⟨[],[],[(2,[])],[],psG⟩) Tryz.func54 (by kernel_rfl) (by kernel_rfl) (by kernel_rfl) h
def vc55 (n_0 n_1:Int) (v:World) (Q:QT):Prop:=
 bS 28 1 #[(0,(iV n_1))] v fun x3 w2=>
 bS 29 0 #[] w2 fun x6 w5=>
 Q (.agg #[iV n_0,iV 0,iV 0,x3.val,x6.val]) w5
theorem of55 (n_0 n_1:Int) (v:World) (Q:QT) (h:vc55 n_0 n_1 v Q):Tr 55 #[iV n_0,iV n_1] v Q:=
 trip_of_eq (args:=[.num .i64 n_0,.num .i64 n_1]) (A:=aG) Tryz.func55 (by kernel_rfl) (by kernel_rfl) (by kernel_rfl) h
def vc56 (a_0:Addr) (n1_0 n1_1 n1_2:Int) (x1_3 x1_4:Sl) (v:World) (Q:QT):Prop:=
 zt10 72 #[.agg #[iV n1_0,iV n1_1,iV n1_2,x1_3.val,x1_4.val]] v fun n3 n4 n5 x6 x7 w2=>
 zt4 27 #[pt a_0,iV 6] w2 fun n10 w9=>
 ((decide (n10=0))=true→
 bS 28 9 #[(0,(iV 14)),(1,(iV 15)),(2,(iV 16)),(3,(iV 17)),(4,(iV 6)),(5,(iV 9)),(6,(iV 12)),(7,(iV 0)),(8,(iV 1))] w9 fun x13 w12=>
 zt4 20 #[pt a_0,x13.val] w12 fun n16 w15=>
 Q (.agg #[iV n16,iV n4,iV n5,x6.val,x7.val]) w15)∧
 ((decide (n10=0))=false→
 ((decide (n10=1))=true→
 bS 28 6 #[(0,(iV 0)),(1,(iV 1)),(2,(iV 2)),(3,(iV 3)),(4,(iV (-1))),(5,(iV 1000))] w9 fun x19 w18=>
 zt4 20 #[pt a_0,x19.val] w18 fun n22 w21=>
 Q (.agg #[iV n3,iV n22,iV n5,x6.val,x7.val]) w21)∧
 ((decide (n10=1))=false→
 ((decide (n10=2))=true→
 bS 28 5 #[(0,(iV 1)),(1,(iV 2)),(2,(iV 0)),(3,(iV (-1))),(4,(iV 90))] w9 fun x25 w24=>
 zt4 20 #[pt a_0,x25.val] w24 fun n28 w27=>
 Q (.agg #[iV n3,iV n4,iV n28,x6.val,x7.val]) w27)∧
 ((decide (n10=2))=false→
 ((decide (n10=3))=true→
 bS 28 3 #[(0,(iV 0)),(1,(iV 1)),(2,(iV (-1)))] w9 fun x31 w30=>
 zt4 20 #[pt a_0,x31.val] w30 fun n34 w33=>
 bS 28 1 #[(0,(iV n34))] w33 fun x37 w36=>
 aS 28 x6 x37 w36 fun x40 w39=>
 Q (.agg #[iV n3,iV n4,iV n5,x40.val,x7.val]) w39)∧
 ((decide (n10=3))=false→
 ((decide (n10=4))=true→
 ((decide ((x6.n:Int) > 0))=true→
 (zt4 27 #[pt a_0,iV (x6.n:Int)] w9 fun n43 w42=>
 bS 28 6 #[(0,(iV 0)),(1,(iV 1)),(2,(iV 2)),(3,(iV 3)),(4,(iV (-1))),(5,(iV 99))] w42 fun x46 w45=>
 Sub w42 w45∧
 zt4 20 #[pt a_0,x46.val] w45 fun n49 w48=>
 IxOk x6 n43∧
 StoreAt w48 (elA x6 n43 1) 0 [iV n49] fun w50=>
 Q (.agg #[iV n3,iV n4,iV n5,x6.val,x7.val]) w50)∧
 bS 28 6 #[(0,(iV 0)),(1,(iV 1)),(2,(iV 2)),(3,(iV 3)),(4,(iV (-1))),(5,(iV 99))] w9 fun x53 w52=>
 Sub w9 w52∧
 zt4 27 #[pt a_0,iV (x6.n:Int)] w52 fun n56 w55=>
 zt4 20 #[pt a_0,x53.val] w55 fun n59 w58=>
 IxOk x6 n56∧
 StoreAt w58 (elA x6 n56 1) 0 [iV n59] fun w60=>
 Q (.agg #[iV n3,iV n4,iV n5,x6.val,x7.val]) w60)∧
 ((decide ((x6.n:Int) > 0))=false→
 Q (.agg #[iV n3,iV n4,iV n5,x6.val,x7.val]) w9))∧
 ((decide (n10=4))=false→
 ((decide (n10=5))=true→
 ((decide ((x7.n:Int) > 0))=true→
 ((0:Int)≤1∧1≤(x7.n:Int))∧
 Q (.agg #[iV n3,iV n4,iV n5,x6.val,(x7.cut 1 (x7.n:Int) 2).val]) w9)∧
 ((decide ((x7.n:Int) > 0))=false→
 Q (.agg #[iV n3,iV n4,iV n5,x6.val,x7.val]) w9))∧
 ((decide (n10=5))=false→
 Q (.agg #[iV n3,iV n4,iV n5,x6.val,x7.val]) w9))))))
theorem of56 (a_0:Addr) (n1_0 n1_1 n1_2:Int) (x1_3 x1_4:Sl) (v:World) (Q:QT) (h:vc56 a_0 n1_0 n1_1 n1_2 x1_3 x1_4 v Q):Tr 56 #[pt a_0,.agg #[iV n1_0,iV n1_1,iV n1_2,x1_3.val,x1_4.val]] v Q:=
 trip_of_eq (args:=[.pt a_0 0,.ag [.num .i64 n1_0,.num .i64 n1_1,.num .i64 n1_2,.sl x1_3,.sl x1_4]]) (A:=⟨[],[],[(10,[]),(13,[8])],[],psG⟩) Tryz.func56 (by kernel_rfl) (by kernel_rfl) (by kernel_rfl) h
def vc57 (x_0:Sl) (v:World) (Q:QT):Prop:=
 bS 47 0 #[] v fun x3 w2=>
 ∃ I4:zI4,∃ m5:zN4,I4 x3 0 w2∧
 ∀ x6 n7 w8,I4 x6 n7 w8→
 ((decide (n7 < (x_0.n:Int)))=true→
 bS 73 0 #[] w8 fun x11 w10=>
 ∃ I12:zI4,∃ m13:zN4,I12 x11 0 w10∧
 ∀ x14 n15 w16,I12 x14 n15 w16→
 IxOk x_0 n7∧
 zl11 w16 x_0 n7 fun x17=>
 ((decide (n15 < (x17.n:Int)))=true→
 IxOk x_0 n7∧
 zl11 w16 x_0 n7 fun x18=>
 IxOk x18 n15∧
 zl12 w16 x18 n15 fun x19=>
 zt7 50 #[x19.val] w16 fun x22 w21=>
 bS 73 1 #[(0,(.agg #[x22.val]))] w21 fun x25 w24=>
 aS 73 x14 x25 w24 fun x28 w27=>
 ∃ n29,Wr .i64 (n15+1) n29∧
 I12 x28 n29 w27∧
 m13 x28 n29 w27 < m13 x14 n15 w16)∧
 ((decide (n15 < (x17.n:Int)))=false→
 IxOk x_0 n7∧
 zl13 w16 x_0 n7 fun n30=>
 IxOk x_0 n7∧
 zl14 w16 x_0 n7 fun n31=>
 bS 47 1 #[(0,(.agg #[iV n30,iV n31,x14.val]))] w16 fun x34 w33=>
 aS 47 x6 x34 w33 fun x37 w36=>
 ∃ n38,Wr .i64 (n7+1) n38∧
 I4 x37 n38 w36∧
 m5 x37 n38 w36 < m5 x6 n7 w8))∧
 ((decide (n7 < (x_0.n:Int)))=false→
 Q (x6.val) w8)
theorem of57 (x_0:Sl) (v:World) (Q:QT) (h:vc57 x_0 v Q):Tr 57 #[x_0.val] v Q:=
 trip_of_eq (args:=[.sl x_0]) (A:=⟨[(3,[(3,.sl),(4,.int .i64)],[]),(7,[(5,.sl),(6,.int .i64)],[])],[],[(10,[])],[],psG⟩) Tryz.func57 (by kernel_rfl) (by kernel_rfl) (by kernel_rfl) h
def vc58 (x0_0 x0_1:Sl) (n1_0 n1_1:Int) (x1_2 x_2:Sl) (n_3:Int) (v:World) (Q:QT):Prop:=
 bS 23 0 #[] v fun x3 w2=>
 NewAt w2 (.cells #[x3.val,iV n_3] 107 (0,0)) fun a4 w5=>
 zt4 73 #[pt a4,.agg #[x0_0.val,x0_1.val],.agg #[iV n1_0,iV n1_1,x1_2.val],x_2.val] w5 fun n8 w7=>
 ∃ x9:Sl,w7.cell? (a4.add 0)=some (x9.val)∧
 Q (.agg #[x9.val,iV n8]) w7
theorem of58 (x0_0 x0_1:Sl) (n1_0 n1_1:Int) (x1_2 x_2:Sl) (n_3:Int) (v:World) (Q:QT) (h:vc58 x0_0 x0_1 n1_0 n1_1 x1_2 x_2 n_3 v Q):Tr 58 #[.agg #[x0_0.val,x0_1.val],.agg #[iV n1_0,iV n1_1,x1_2.val],x_2.val,iV n_3] v Q:=
 trip_of_eq (args:=[.ag [.sl x0_0,.sl x0_1],.ag [.num .i64 n1_0,.num .i64 n1_1,.sl x1_2],.sl x_2,.num .i64 n_3]) (A:=⟨[],[],[],[14],psG⟩) Tryz.func58 (by kernel_rfl) (by kernel_rfl) (by kernel_rfl) h
def vc59 (n_0 n_1:Int) (v:World) (Q:QT):Prop:=
 bS 28 0 #[] v fun x3 w2=>
 ∃ I4:zI4,∃ m5:zN4,I4 x3 0 w2∧
 ∀ x6 n7 w8,I4 x6 n7 w8→
 ((decide (n7 < n_1))=true→
 ∃ n9,Wr .i64 (n_0+n7) n9∧
 bS 28 1 #[(0,(iV n9))] w8 fun x12 w11=>
 aS 28 x6 x12 w11 fun x15 w14=>
 ∃ n16,Wr .i64 (n7+1) n16∧
 I4 x15 n16 w14∧
 m5 x15 n16 w14 < m5 x6 n7 w8)∧
 ((decide (n7 < n_1))=false→
 Q (x6.val) w8)
theorem of59 (n_0 n_1:Int) (v:World) (Q:QT) (h:vc59 n_0 n_1 v Q):Tr 59 #[iV n_0,iV n_1] v Q:=
 trip_of_eq (args:=[.num .i64 n_0,.num .i64 n_1]) (A:=⟨[(3,[(5,.sl),(6,.int .i64)],[])],[],[],[],psG⟩) Tryz.func59 (by kernel_rfl) (by kernel_rfl) (by kernel_rfl) h
def vc60 (x_0:Sl) (n_1:Int) (v:World) (Q:QT):Prop:=
 Q (.agg #[x_0.val,iV n_1,iV 0,iV 0,.slice none 0 0]) v
theorem of60 (x_0:Sl) (n_1:Int) (v:World) (Q:QT) (h:vc60 x_0 n_1 v Q):Tr 60 #[x_0.val,iV n_1] v Q:=
 trip_of_eq (args:=[.sl x_0,.num .i64 n_1]) (A:=aG) Tryz.func60 (by kernel_rfl) (by kernel_rfl) (by kernel_rfl) h
def vc61 (a_0:Addr) (x1_0 x1_1:Sl) (n_2:Int) (v:World) (Q:QT):Prop:=
 IxOk x1_1 n_2∧
 zl9 v x1_1 n_2 fun x1=>
 IxOk x1_1 n_2∧
 zl10 v x1_1 n_2 fun n2=>
 ∃ n3,(pF 74 #[x1.val,iV 1] v (iV n3))∧
 zt12 75 #[iV 0] v fun n8 n9 x10 w7=>
 zt4 27 #[pt a_0,iV 4] w7 fun n13 w12=>
 ∃ J14:Int→Int→Sl→World→Prop,((((decide (n13 < 3)) && (decide (n_2=0)))=true→
 zt12 76 #[pt a_0,.agg #[x1_0.val,x1_1.val]] w12 fun n17 n18 x19 w16=>
 zq9 x1_0 x1_1 0 0 (Sl.mk none 0 0) fun _=>
 J14 n17 n18 x19 w16)∧
 (((decide (n13 < 3)) && (decide (n_2=0)))=false→
 ((((decide (n13 < 3)) && (decide (n3≥0))) && ((decide (n2=0)) || (decide (n2=1))))=true→
 zt12 77 #[pt a_0,.agg #[x1_0.val,x1_1.val],iV n_2,iV n3] w12 fun n22 n23 x24 w21=>
 zq9 x1_0 x1_1 0 0 (Sl.mk none 0 0) fun _=>
 J14 n22 n23 x24 w21)∧
 ((((decide (n13 < 3)) && (decide (n3≥0))) && ((decide (n2=0)) || (decide (n2=1))))=false→
 (((decide (n13 < 3)) && (decide ((x1.n:Int) > 0)))=true→
 IxOk x1 0)∧
 ∃ n25:Int,(((decide (n13 < 3)) && (decide ((x1.n:Int) > 0)))=true→
 w12.cell? ((elA x1 0 1).add 0)=some (iV n25))∧
 (((((decide (n13 < 3)) && (decide ((x1.n:Int) > 0))) && (decide (n25=3))) && ((decide (n2=0)) || (decide (n2=3))))=true→
 zt12 78 #[pt a_0,.agg #[x1_0.val,x1_1.val],iV n_2] w12 fun n28 n29 x30 w27=>
 zq9 x1_0 x1_1 0 0 (Sl.mk none 0 0) fun _=>
 J14 n28 n29 x30 w27)∧
 (((((decide (n13 < 3)) && (decide ((x1.n:Int) > 0))) && (decide (n25=3))) && ((decide (n2=0)) || (decide (n2=3))))=false→
 (((decide (n13 < 3)) && (decide ((x1.n:Int) > 0)))=true→
 IxOk x1 0)∧
 ∃ n31:Int,(((decide (n13 < 3)) && (decide ((x1.n:Int) > 0)))=true→
 w12.cell? ((elA x1 0 1).add 0)=some (iV n31))∧
 (((((decide (n13 < 3)) && (decide ((x1.n:Int) > 0))) && (decide (n31=0))) && ((decide (n2=0)) || (decide (n2=1))))=true→
 zt12 79 #[pt a_0,.agg #[x1_0.val,x1_1.val],iV n_2] w12 fun n34 n35 x36 w33=>
 zq9 x1_0 x1_1 0 0 (Sl.mk none 0 0) fun _=>
 J14 n34 n35 x36 w33)∧
 (((((decide (n13 < 3)) && (decide ((x1.n:Int) > 0))) && (decide (n31=0))) && ((decide (n2=0)) || (decide (n2=1))))=false→
 zt12 80 #[pt a_0,.agg #[x1_0.val,x1_1.val],x1.val,iV n2,iV 18] w12 fun n39 n40 x41 w38=>
 zq9 x1_0 x1_1 0 0 (Sl.mk none 0 0) fun _=>
 J14 n39 n40 x41 w38)))))∧
 ∀ n42:Int,∀ n43:Int,∀ x44:Sl,∀ w45:World,J14 n42 n43 x44 w45→
 ∃ n46,(pF 81 #[.agg #[iV n42,iV n43,x44.val]] w45 (iV n46))∧
 ((decide (n46 < 0))=true→
 zt12 80 #[pt a_0,.agg #[x1_0.val,x1_1.val],x1.val,iV n2,iV 12] w45 fun n51 n52 x53 w50=>
 Q (.agg #[iV n51,iV n52,x53.val]) w50)∧
 ((decide (n46 < 0))=false→
 Q (.agg #[iV n42,iV n43,x44.val]) w45)
theorem of61 (a_0:Addr) (x1_0 x1_1:Sl) (n_2:Int) (v:World) (Q:QT) (h:vc61 a_0 x1_0 x1_1 n_2 v Q):Tr 61 #[pt a_0,.agg #[x1_0.val,x1_1.val],iV n_2] v Q:=
 trip_of_eq (args:=[.pt a_0 0,.ag [.sl x1_0,.sl x1_1],.num .i64 n_2]) (A:=⟨[],[(15,[],[(2,0,.int .i64),(2,1,.int .i64),(2,2,.sl)])],[],[],psG⟩) Tryz.func61 (by kernel_rfl) (by kernel_rfl) (by kernel_rfl) h
def vc62 (x0_0 x0_1 x_1:Sl) (v:World) (Q:QT):Prop:=
 zt7 57 #[x0_0.val] v fun x3 w2=>
 bS 48 0 #[] w2 fun x6 w5=>
 ∃ I7:zI2,∃ m8:zN2,I7 0 x6 w5∧
 ∀ n9 x10 w11,I7 n9 x10 w11→
 ((decide (n9 < (x0_1.n:Int)))=true→
 IxOk x0_1 n9∧
 zl3 w11 x0_1 n9 fun x12 x13 n14 x15 n16=>
 IxOk x_1 n9∧
 zl12 w11 x_1 n9 fun x17=>
 zt7 50 #[x12.val] w11 fun x20 w19=>
 Sub w11 w19∧
 zt7 50 #[x17.val] w19 fun x23 w22=>
 Sub w19 w22∧
 zt3 53 #[.agg #[x15.val,iV n16]] w22 fun x26 n27 w25=>
 Sub w22 w25∧
 bS 48 1 #[(0,(.agg #[x20.val,x23.val,iV n14,x26.val,iV n27]))] w25 fun x30 w29=>
 Sub w25 w29∧
 aS 48 x10 x30 w29 fun x33 w32=>
 ∃ n34,Wr .i64 (n9+1) n34∧
 zq3 x0_0 x0_1 (Sl.mk none 0 0) (Sl.mk none 0 0) x3 fun _=>
 I7 n34 x33 w32∧
 m8 n34 x33 w32 < m8 n9 x10 w11)∧
 ((decide (n9 < (x0_1.n:Int)))=false→
 Q (.agg #[x3.val,x10.val]) w11)
theorem of62 (x0_0 x0_1 x_1:Sl) (v:World) (Q:QT) (h:vc62 x0_0 x0_1 x_1 v Q):Tr 62 #[.agg #[x0_0.val,x0_1.val],x_1.val] v Q:=
 trip_of_eq (args:=[.ag [.sl x0_0,.sl x0_1],.sl x_1]) (A:=⟨[(3,[(6,.int .i64)],[(2,1,.sl)])],[],[(6,[4,9,14,16])],[],psG⟩) Tryz.func62 (by kernel_rfl) (by kernel_rfl) (by kernel_rfl) h
def vc65 (x0_0 x0_1:Sl) (v:World) (Q:QT):Prop:=
 zt7 57 #[x0_0.val] v fun x3 w2=>
 bS 48 0 #[] w2 fun x6 w5=>
 ∃ I7:zI2,∃ m8:zN2,I7 0 x6 w5∧
 ∀ n9 x10 w11,I7 n9 x10 w11→
 ((decide (n9 < (x0_1.n:Int)))=true→
 IxOk x0_1 n9∧
 zl3 w11 x0_1 n9 fun x12 x13 n14 x15 n16=>
 IxOk x0_1 n9∧
 zl3 w11 x0_1 n9 fun x17 x18 n19 x20 n21=>
 zt3 85 #[.agg #[x0_0.val,x0_1.val],.agg #[x17.val,x18.val,iV n19,x20.val,iV n21]] w11 fun x24 n25 w23=>
 Sub w11 w23∧
 zt8 49 #[.agg #[x12.val,x13.val,iV n14,x15.val,iV n16],.agg #[x24.val,iV n25]] w23 fun x28 x29 n30 x31 n32 w27=>
 Sub w23 w27∧
 bS 48 1 #[(0,(.agg #[x28.val,x29.val,iV n30,x31.val,iV n32]))] w27 fun x35 w34=>
 Sub w27 w34∧
 aS 48 x10 x35 w34 fun x38 w37=>
 ∃ n39,Wr .i64 (n9+1) n39∧
 zq3 x0_0 x0_1 (Sl.mk none 0 0) (Sl.mk none 0 0) x3 fun _=>
 I7 n39 x38 w37∧
 m8 n39 x38 w37 < m8 n9 x10 w11)∧
 ((decide (n9 < (x0_1.n:Int)))=false→
 Q (.agg #[x3.val,x10.val]) w11)
theorem of65 (x0_0 x0_1:Sl) (v:World) (Q:QT) (h:vc65 x0_0 x0_1 v Q):Tr 65 #[.agg #[x0_0.val,x0_1.val]] v Q:=
 trip_of_eq (args:=[.ag [.sl x0_0,.sl x0_1]]) (A:=⟨[(3,[(4,.int .i64)],[(2,1,.sl)])],[],[(5,[13,14,15])],[],psG⟩) Tryz.func65 (by kernel_rfl) (by kernel_rfl) (by kernel_rfl) h
def vc66 (x0_0 x0_1:Sl) (v:World) (Q:QT):Prop:=
 zt7 57 #[x0_0.val] v fun x3 w2=>
 bS 48 0 #[] w2 fun x6 w5=>
 ∃ I7:zI2,∃ m8:zN2,I7 0 x6 w5∧
 ∀ n9 x10 w11,I7 n9 x10 w11→
 ((decide (n9 < (x0_1.n:Int)))=true→
 IxOk x0_1 n9∧
 zl3 w11 x0_1 n9 fun x12 x13 n14 x15 n16=>
 zt7 87 #[.agg #[x12.val,x13.val,iV n14,x15.val,iV n16]] w11 fun x19 w18=>
 Sub w11 w18∧
 zt3 86 #[.agg #[x0_0.val,x0_1.val],x12.val,.agg #[x15.val,iV n16],x19.val] w18 fun x22 n23 w21=>
 Sub w18 w21∧
 zt8 49 #[.agg #[x12.val,x13.val,iV n14,x15.val,iV n16],.agg #[x22.val,iV n23]] w21 fun x26 x27 n28 x29 n30 w25=>
 Sub w21 w25∧
 bS 48 1 #[(0,(.agg #[x26.val,x27.val,iV n28,x29.val,iV n30]))] w25 fun x33 w32=>
 Sub w25 w32∧
 aS 48 x10 x33 w32 fun x36 w35=>
 ∃ n37,Wr .i64 (n9+1) n37∧
 zq3 x0_0 x0_1 (Sl.mk none 0 0) (Sl.mk none 0 0) x3 fun _=>
 I7 n37 x36 w35∧
 m8 n37 x36 w35 < m8 n9 x10 w11)∧
 ((decide (n9 < (x0_1.n:Int)))=false→
 Q (.agg #[x3.val,x10.val]) w11)
theorem of66 (x0_0 x0_1:Sl) (v:World) (Q:QT) (h:vc66 x0_0 x0_1 v Q):Tr 66 #[.agg #[x0_0.val,x0_1.val]] v Q:=
 trip_of_eq (args:=[.ag [.sl x0_0,.sl x0_1]]) (A:=⟨[(3,[(4,.int .i64)],[(2,1,.sl)])],[],[(6,[9,10,11,12])],[],psG⟩) Tryz.func66 (by kernel_rfl) (by kernel_rfl) (by kernel_rfl) h
def vc67 (x0_0 x0_1:Sl) (n_1 n_2:Int) (v:World) (Q:QT):Prop:=
 ∃ q1,(pF 88 #[.agg #[x0_0.val,x0_1.val]] v (.bool q1))∧
 ∃ n4:Int,((!q1)=false→
 Wr .i64 ((x0_1.n:Int) - 1) n4)∧
 ∃ q5:Bool,((!q1)=false→
 (pF 36 #[iV n_1,iV 0,iV n4] v (.bool q5)))∧
 (((!q1) || (!q5))=false→
 IxOk x0_1 n_1)∧
 ∃ x8:Sl,(((!q1) || (!q5))=false→
 v.cell? ((elA x0_1 n_1 5).add 3)=some (x8.val))∧
 ∃ q9:Bool,(((!q1) || (!q5))=false→
 (pF 36 #[iV n_2,iV 0,iV (x8.n:Int)] v (.bool q9)))∧
 ((((!q1) || (!q5)) || (!q9))=true→
 NewAt v (.cells #[.slice none 0 0,.slice none 0 0,.slice none 0 0,.slice none 0 0,.slice none 0 0,.slice none 0 0,.slice none 0 0] 101 (0,0)) fun a12 w13=>
 Q (.tuple #[pt a12,.bool false]) w13)∧
 ((((!q1) || (!q5)) || (!q9))=false→
 IxOk x0_1 n_1∧
 zl3 v x0_1 n_1 fun x14 x15 n16 x17 n18=>
 zt2 89 #[.agg #[x14.val,x15.val,iV n16,x17.val,iV n18]] v fun a21 w20=>
 ∃ I22:zI1,∃ m23:zN1,I22 0 w20∧
 ∀ n24 w25,I22 n24 w25→
 ((decide (n24 < n_2))=true→
 IxOk x0_1 n_1∧
 zl15 w25 x0_1 n_1 fun x26=>
 IxOk x26 n24∧
 zl0 w25 x26 n24 fun n27 n28 n29 x30 x31=>
 zt1 90 #[pt a21,.agg #[x0_0.val,x0_1.val],.agg #[iV n27,iV n28,iV n29,x30.val,x31.val]] w25 fun q34 w33=>
 ((!q34)=true→
 Q (.tuple #[pt a21,.bool false]) w33)∧
 ((!q34)=false→
 ∃ n35,Wr .i64 (n24+1) n35∧
 zq10 x0_0 x0_1 fun _=>
 I22 n35 w33∧
 m23 n35 w33 < m23 n24 w25))∧
 ((decide (n24 < n_2))=false→
 Q (.tuple #[pt a21,.bool true]) w25))
theorem of67 (x0_0 x0_1:Sl) (n_1 n_2:Int) (v:World) (Q:QT) (h:vc67 x0_0 x0_1 n_1 n_2 v Q):Tr 67 #[.agg #[x0_0.val,x0_1.val],iV n_1,iV n_2] v Q:=
 trip_of_eq (args:=[.ag [.sl x0_0,.sl x0_1],.num .i64 n_1,.num .i64 n_2]) (A:=⟨[(5,[(9,.int .i64)],[])],[],[(7,[])],[36],psG⟩) Tryz.func67 (by kernel_rfl) (by kernel_rfl) (by kernel_rfl) h
def vc68 (a_0:Addr) (n_1:Int) (v:World) (Q:QT):Prop:=
 ∃ I1:zI1,∃ m2:zN1,I1 n_1 v∧
 ∀ n3 w4,I1 n3 w4→
 ∃ x5:Sl,w4.cell? (a_0.add 1)=some (x5.val)∧
 IxOk x5 n3∧
 zl6 w4 x5 n3 fun n6=>
 ∃ x7:Sl,((decide (n6 < 1))=true→
 w4.cell? (a_0.add 6)=some (x7.val))∧
 ∃ q8:Bool,((decide (n6 < 1))=true→
 (pF 91 #[x7.val,iV n3] w4 (.bool q8)))∧
 (((decide (n6 < 1)) && (!q8))=true→
 ∃ x11:Sl,w4.cell? (a_0.add 2)=some (x11.val)∧
 IxOk x11 n3∧
 zl6 w4 x11 n3 fun n12=>
 ((decide (n12 < 0))=true→
 Q (.bool false) w4)∧
 ((decide (n12 < 0))=false→
 I1 n12 w4∧
 m2 n12 w4 < m2 n3 w4))∧
 (((decide (n6 < 1)) && (!q8))=false→
 Q (.bool true) w4)
theorem of68 (a_0:Addr) (n_1:Int) (v:World) (Q:QT) (h:vc68 a_0 n_1 v Q):Tr 68 #[pt a_0,iV n_1] v Q:=
 trip_of_eq (args:=[.pt a_0 0,.num .i64 n_1]) (A:=⟨[(1,[(1,.int .i64)],[])],[],[],[],psG⟩) Tryz.func68 (by kernel_rfl) (by kernel_rfl) (by kernel_rfl) h
def vc69 (x0_0:Sl) (n0_1:Int) (v:World) (Q:QT):Prop:=
 bS 23 0 #[] v fun x3 w2=>
 bS 23 0 #[] w2 fun x6 w5=>
 ∃ I7:zI5,∃ m8:zN5,I7 x3 x6 0 w5∧
 ∀ x9 x10 n11 w12,I7 x9 x10 n11 w12→
 ((decide (n11 < (x0_0.n:Int)))=true→
 IxOk x0_0 n11∧
 zl0 w12 x0_0 n11 fun n13 n14 n15 x16 x17=>
 ∃ q18,(pF 92 #[.agg #[iV n13,iV n14,iV n15,x16.val,x17.val]] w12 (.bool q18))∧
 (q18=true→
 bS 23 1 #[(0,(.agg #[iV n13,iV n14,iV n15,x16.val,x17.val]))] w12 fun x23 w22=>
 aS 23 x10 x23 w22 fun x26 w25=>
 ∃ n27,Wr .i64 (n11+1) n27∧
 zq11 x0_0 n0_1 (Sl.mk none 0 0) 0 fun _=>
 I7 x9 x26 n27 w25∧
 m8 x9 x26 n27 w25 < m8 x9 x10 n11 w12)∧
 (q18=false→
 zt7 93 #[x10.val] w12 fun x30 w29=>
 aS 23 x9 x30 w29 fun x33 w32=>
 bS 23 0 #[] w32 fun x36 w35=>
 bS 29 0 #[] w35 fun x39 w38=>
 ∃ I40:zI4,∃ m41:zN4,I40 x39 0 w38∧
 ∀ x42 n43 w44,I40 x42 n43 w44→
 ((decide (n43 < (x17.n:Int)))=true→
 IxOk x17 n43∧
 zl1 w44 x17 n43 fun x45 n46=>
 zt3 69 #[.agg #[x45.val,iV n46]] w44 fun x49 n50 w48=>
 bS 29 1 #[(0,(.agg #[x49.val,iV n50]))] w48 fun x53 w52=>
 aS 29 x42 x53 w52 fun x56 w55=>
 ∃ n57,Wr .i64 (n43+1) n57∧
 zq12 x0_0 n0_1 (Sl.mk none 0 0) 0 n13 n14 n15 x16 x17 fun _=>
 I40 x56 n57 w55∧
 m41 x56 n57 w55 < m41 x42 n43 w44)∧
 ((decide (n43 < (x17.n:Int)))=false→
 zt7 50 #[x16.val] w44 fun x60 w59=>
 Sub w44 w59∧
 bS 23 1 #[(0,(.agg #[iV n13,iV n14,iV n15,x60.val,x42.val]))] w59 fun x63 w62=>
 aS 23 x33 x63 w62 fun x66 w65=>
 ∃ n67,Wr .i64 (n11+1) n67∧
 zq11 x0_0 n0_1 (Sl.mk none 0 0) 0 fun _=>
 I7 x66 x36 n67 w65∧
 m8 x66 x36 n67 w65 < m8 x9 x10 n11 w12)))∧
 ((decide (n11 < (x0_0.n:Int)))=false→
 zt7 93 #[x10.val] w12 fun x70 w69=>
 aS 23 x9 x70 w69 fun x73 w72=>
 Q (.agg #[x73.val,iV n0_1]) w72)
theorem of69 (x0_0:Sl) (n0_1:Int) (v:World) (Q:QT) (h:vc69 x0_0 n0_1 v Q):Tr 69 #[.agg #[x0_0.val,iV n0_1]] v Q:=
 trip_of_eq (args:=[.ag [.sl x0_0,.num .i64 n0_1]]) (A:=⟨[(4,[(3,.sl),(4,.sl),(5,.int .i64)],[]),(13,[(7,.sl),(8,.int .i64)],[])],[],[(16,[9]),(17,[])],[],psG⟩) Tryz.func69 (by kernel_rfl) (by kernel_rfl) (by kernel_rfl) h
def vc70 (x0_0 x0_1 x1_0:Sl) (n1_1 n_2:Int) (v:World) (Q:QT):Prop:=
 bS 23 0 #[] v fun x3 w2=>
 ∃ I4:zI6,∃ m5:zN6,I4 n_2 0 x3 w2∧
 ∀ n6 n7 x8 w9,I4 n6 n7 x8 w9→
 ((decide (n7 < (x1_0.n:Int)))=true→
 IxOk x1_0 n7∧
 zl0 w9 x1_0 n7 fun n10 n11 n12 x13 x14=>
 bS 29 0 #[] w9 fun x17 w16=>
 zt7 94 #[x0_0.val,iV n11] w16 fun x20 w19=>
 ∃ I21:zI4,∃ m22:zN4,I21 x17 0 w19∧
 ∀ x23 n24 w25,I21 x23 n24 w25→
 ((decide (n24 < (x14.n:Int)))=true→
 ((decide (n10=8))=true→
 IxOk x20 n24∧
 zl6 w25 x20 n24 fun n26=>
 zt7 95 #[x0_0.val,iV n26] w25 fun x29 w28=>
 IxOk x14 n24∧
 zl1 w28 x14 n24 fun x30 n31=>
 ∃ n32,Wr .i64 (n6+(x29.n:Int)) n32∧
 IxOk x13 0∧
 zl6 w28 x13 0 fun n33=>
 zt3 70 #[.agg #[x0_0.val,x0_1.val],.agg #[x30.val,iV n31],iV n32] w28 fun x36 n37 w35=>
 Sub w28 w35∧
 zt3 96 #[.agg #[x36.val,iV n37],iV n33,x29.val,iV n6] w35 fun x40 n41 w39=>
 bS 29 1 #[(0,(.agg #[x40.val,iV n41]))] w39 fun x44 w43=>
 aS 29 x23 x44 w43 fun x47 w46=>
 ∃ n48,Wr .i64 (n24+1) n48∧
 zq13 x0_0 x0_1 x1_0 n1_1 (Sl.mk none 0 0) 0 x8 n1_1 n10 n11 n12 x13 x14 fun _=>
 I21 x47 n48 w46∧
 m22 x47 n48 w46 < m22 x23 n24 w25)∧
 ((decide (n10=8))=false→
 IxOk x14 n24∧
 zl1 w25 x14 n24 fun x49 n50=>
 zt3 70 #[.agg #[x0_0.val,x0_1.val],.agg #[x49.val,iV n50],iV n6] w25 fun x53 n54 w52=>
 bS 29 1 #[(0,(.agg #[x53.val,iV n54]))] w52 fun x57 w56=>
 aS 29 x23 x57 w56 fun x60 w59=>
 ∃ n61,Wr .i64 (n24+1) n61∧
 zq13 x0_0 x0_1 x1_0 n1_1 (Sl.mk none 0 0) 0 x8 n1_1 n10 n11 n12 x13 x14 fun _=>
 I21 x60 n61 w59∧
 m22 x60 n61 w59 < m22 x23 n24 w25))∧
 ((decide (n24 < (x14.n:Int)))=false→
 zt7 50 #[x13.val] w25 fun x64 w63=>
 Sub w25 w63∧
 bS 23 1 #[(0,(.agg #[iV n10,iV n11,iV n12,x64.val,x23.val]))] w63 fun x67 w66=>
 Sub w63 w66∧
 aS 23 x8 x67 w66 fun x70 w69=>
 ∃ q71,(pF 97 #[iV n10] w69 (.bool q71))∧
 (q71=true→
 ∃ n74,Wr .i64 (n6+1) n74∧
 ∃ n75,Wr .i64 (n7+1) n75∧
 zq14 x0_0 x0_1 x1_0 n1_1 (Sl.mk none 0 0) 0 n1_1 fun _=>
 I4 n74 n75 x70 w69∧
 m5 n74 n75 x70 w69 < m5 n6 n7 x8 w9)∧
 (q71=false→
 ∃ n76,Wr .i64 (n7+1) n76∧
 zq14 x0_0 x0_1 x1_0 n1_1 (Sl.mk none 0 0) 0 n1_1 fun _=>
 I4 n6 n76 x70 w69∧
 m5 n6 n76 x70 w69 < m5 n6 n7 x8 w9)))∧
 ((decide (n7 < (x1_0.n:Int)))=false→
 Q (.agg #[x8.val,iV n1_1]) w9)
theorem of70 (x0_0 x0_1 x1_0:Sl) (n1_1 n_2:Int) (v:World) (Q:QT) (h:vc70 x0_0 x0_1 x1_0 n1_1 n_2 v Q):Tr 70 #[.agg #[x0_0.val,x0_1.val],.agg #[x1_0.val,iV n1_1],iV n_2] v Q:=
 trip_of_eq (args:=[.ag [.sl x0_0,.sl x0_1],.ag [.sl x1_0,.num .i64 n1_1],.num .i64 n_2]) (A:=⟨[(3,[(2,.int .i64),(8,.int .i64)],[(3,0,.sl)]),(9,[(10,.sl),(12,.int .i64)],[])],[],[(12,[]),(13,[11]),(14,[]),(15,[10,13])],[],psG⟩) Tryz.func70 (by kernel_rfl) (by kernel_rfl) (by kernel_rfl) h
def vc71 (x0_0 x0_1 x1_0:Sl) (n1_1:Int) (x_2:Sl) (v:World) (Q:QT):Prop:=
 bS 23 0 #[] v fun x3 w2=>
 ∃ I4:zI2,∃ m5:zN2,I4 0 x3 w2∧
 ∀ n6 x7 w8,I4 n6 x7 w8→
 ((decide (n6 < (x1_0.n:Int)))=true→
 IxOk x1_0 n6∧
 zl0 w8 x1_0 n6 fun n9 n10 n11 x12 x13=>
 bS 29 0 #[] w8 fun x16 w15=>
 ∃ I17:zI4,∃ m18:zN4,I17 x16 0 w15∧
 ∀ x19 n20 w21,I17 x19 n20 w21→
 ((decide (n20 < (x13.n:Int)))=true→
 zt3 98 #[.agg #[x0_0.val,x0_1.val],.agg #[iV n9,iV n10,iV n11,x12.val,x13.val],iV n20,x_2.val] w21 fun x24 n25 w23=>
 bS 29 1 #[(0,(.agg #[x24.val,iV n25]))] w23 fun x28 w27=>
 aS 29 x19 x28 w27 fun x31 w30=>
 ∃ n32,Wr .i64 (n20+1) n32∧
 zq13 x0_0 x0_1 x1_0 n1_1 (Sl.mk none 0 0) 0 x7 n1_1 n9 n10 n11 x12 x13 fun _=>
 I17 x31 n32 w30∧
 m18 x31 n32 w30 < m18 x19 n20 w21)∧
 ((decide (n20 < (x13.n:Int)))=false→
 zt7 50 #[x12.val] w21 fun x35 w34=>
 Sub w21 w34∧
 bS 23 1 #[(0,(.agg #[iV n9,iV n10,iV n11,x35.val,x19.val]))] w34 fun x38 w37=>
 Sub w34 w37∧
 aS 23 x7 x38 w37 fun x41 w40=>
 ∃ n42,Wr .i64 (n6+1) n42∧
 zq14 x0_0 x0_1 x1_0 n1_1 (Sl.mk none 0 0) 0 n1_1 fun _=>
 I4 n42 x41 w40∧
 m5 n42 x41 w40 < m5 n6 x7 w8))∧
 ((decide (n6 < (x1_0.n:Int)))=false→
 Q (.agg #[x7.val,iV n1_1]) w8)
theorem of71 (x0_0 x0_1 x1_0:Sl) (n1_1:Int) (x_2:Sl) (v:World) (Q:QT) (h:vc71 x0_0 x0_1 x1_0 n1_1 x_2 v Q):Tr 71 #[.agg #[x0_0.val,x0_1.val],.agg #[x1_0.val,iV n1_1],x_2.val] v Q:=
 trip_of_eq (args:=[.ag [.sl x0_0,.sl x0_1],.ag [.sl x1_0,.num .i64 n1_1],.sl x_2]) (A:=⟨[(3,[(8,.int .i64)],[(3,0,.sl)]),(8,[(10,.sl),(11,.int .i64)],[])],[],[(11,[10,13])],[],psG⟩) Tryz.func71 (by kernel_rfl) (by kernel_rfl) (by kernel_rfl) h
def vc72 (n0_0 n0_1 n0_2:Int) (x0_3 x0_4:Sl) (v:World) (Q:QT):Prop:=
 bS 29 0 #[] v fun x3 w2=>
 ∃ I4:zI4,∃ m5:zN4,I4 x3 0 w2∧
 ∀ x6 n7 w8,I4 x6 n7 w8→
 ((decide (n7 < (x0_4.n:Int)))=true→
 IxOk x0_4 n7∧
 zl1 w8 x0_4 n7 fun x9 n10=>
 zt3 53 #[.agg #[x9.val,iV n10]] w8 fun x13 n14 w12=>
 bS 29 1 #[(0,(.agg #[x13.val,iV n14]))] w12 fun x17 w16=>
 aS 29 x6 x17 w16 fun x20 w19=>
 ∃ n21,Wr .i64 (n7+1) n21∧
 zq15 n0_0 n0_1 n0_2 x0_3 x0_4 0 0 0 (Sl.mk none 0 0) (Sl.mk none 0 0) fun _=>
 I4 x20 n21 w19∧
 m5 x20 n21 w19 < m5 x6 n7 w8)∧
 ((decide (n7 < (x0_4.n:Int)))=false→
 zt7 50 #[x0_3.val] w8 fun x24 w23=>
 Sub w8 w23∧
 Q (.agg #[iV n0_0,iV n0_1,iV n0_2,x24.val,x6.val]) w23)
theorem of72 (n0_0 n0_1 n0_2:Int) (x0_3 x0_4:Sl) (v:World) (Q:QT) (h:vc72 n0_0 n0_1 n0_2 x0_3 x0_4 v Q):Tr 72 #[.agg #[iV n0_0,iV n0_1,iV n0_2,x0_3.val,x0_4.val]] v Q:=
 trip_of_eq (args:=[.ag [.num .i64 n0_0,.num .i64 n0_1,.num .i64 n0_2,.sl x0_3,.sl x0_4]]) (A:=⟨[(3,[(3,.sl),(4,.int .i64)],[])],[],[(6,[8])],[],psG⟩) Tryz.func72 (by kernel_rfl) (by kernel_rfl) (by kernel_rfl) h
def vc73 (a_0:Addr) (x1_0 x1_1:Sl) (n2_0 n2_1:Int) (x2_2 x_3:Sl) (v:World) (Q:QT):Prop:=
 ((decide (n2_0=12))=true→
 IxOk x_3 n2_1∧
 zl6 v x_3 n2_1 fun n1=>
 Q (iV n1) v)∧
 ((decide (n2_0=12))=false→
 ((decide (n2_0=13))=true→
 IxOk x2_2 0∧
 zl5 v x2_2 0 fun n2 n3 x4=>
 zt4 73 #[pt a_0,.agg #[x1_0.val,x1_1.val],.agg #[iV n2,iV n3,x4.val],x_3.val] v fun n7 w6=>
 IxOk x2_2 1∧
 zl5 w6 x2_2 1 fun n8 n9 x10=>
 bS 28 1 #[(0,(iV n7))] w6 fun x13 w12=>
 Sub w6 w12∧
 zt7 99 #[x_3.val,x13.val] w12 fun x16 w15=>
 Sub w12 w15∧
 zt4 73 #[pt a_0,.agg #[x1_0.val,x1_1.val],.agg #[iV n8,iV n9,x10.val],x16.val] w15 fun n19 w18=>
 Q (iV n19) w18)∧
 ((decide (n2_0=13))=false→
 ((decide (n2_0=7))=true→
 ((decide (n2_0=7))=true→
 IxOk x2_2 0∧
 zl5 v x2_2 0 fun n20 n21 x22=>
 zt4 73 #[pt a_0,.agg #[x1_0.val,x1_1.val],.agg #[iV n20,iV n21,x22.val],x_3.val] v fun n25 w24=>
 bS 29 0 #[] w24 fun x28 w27=>
 zt7 94 #[x1_0.val,iV n2_1] w27 fun x31 w30=>
 ∃ I32:zI4,∃ m33:zN4,I32 x28 1 w30∧
 ∀ x34 n35 w36,I32 x34 n35 w36→
 ((decide (n35 < (x2_2.n:Int)))=true→
 ((decide (n2_0=8))=true→
 ∃ n37,Wr .i64 (n35 - 1) n37∧
 IxOk x31 n37∧
 zl6 w36 x31 n37 fun n38=>
 zt7 95 #[x1_0.val,iV n38] w36 fun x41 w40=>
 IxOk x2_2 n35∧
 zl5 w40 x2_2 n35 fun n42 n43 x44=>
 ∃ n45:Int,w40.cell? (a_0.add 1)=some (iV n45)∧
 ∃ n46:Int,w40.cell? (a_0.add 1)=some (iV n46)∧
 ∃ n47,Wr .i64 (n46+(x41.n:Int)) n47∧
 zt7 59 #[iV n45,iV (x41.n:Int)] w40 fun x50 w49=>
 Sub w40 w49∧
 zt7 99 #[x_3.val,x50.val] w49 fun x53 w52=>
 Sub w49 w52∧
 zt3 58 #[.agg #[x1_0.val,x1_1.val],.agg #[iV n42,iV n43,x44.val],x53.val,iV n47] w52 fun x56 n57 w55=>
 bS 29 1 #[(0,(.agg #[x56.val,iV n57]))] w55 fun x60 w59=>
 aS 29 x34 x60 w59 fun x63 w62=>
 ∃ n64,Wr .i64 (n35+1) n64∧
 zq9 x1_0 x1_1 n2_0 n2_1 x2_2 fun _=>
 I32 x63 n64 w62∧
 m33 x63 n64 w62 < m33 x34 n35 w36)∧
 ((decide (n2_0=8))=false→
 IxOk x2_2 n35∧
 zl5 w36 x2_2 n35 fun n65 n66 x67=>
 ∃ n68:Int,w36.cell? (a_0.add 1)=some (iV n68)∧
 ∃ n69:Int,w36.cell? (a_0.add 1)=some (iV n69)∧
 ∃ n70,Wr .i64 (n69+0) n70∧
 zt7 59 #[iV n68,iV 0] w36 fun x73 w72=>
 Sub w36 w72∧
 zt7 99 #[x_3.val,x73.val] w72 fun x76 w75=>
 Sub w72 w75∧
 zt3 58 #[.agg #[x1_0.val,x1_1.val],.agg #[iV n65,iV n66,x67.val],x76.val,iV n70] w75 fun x79 n80 w78=>
 bS 29 1 #[(0,(.agg #[x79.val,iV n80]))] w78 fun x83 w82=>
 aS 29 x34 x83 w82 fun x86 w85=>
 ∃ n87,Wr .i64 (n35+1) n87∧
 zq9 x1_0 x1_1 n2_0 n2_1 x2_2 fun _=>
 I32 x86 n87 w85∧
 m33 x86 n87 w85 < m33 x34 n35 w36))∧
 ((decide (n35 < (x2_2.n:Int)))=false→
 bS 28 1 #[(0,(iV n25))] w36 fun x90 w89=>
 zt4 100 #[pt a_0,.agg #[iV n2_0,iV n2_1,iV 0,x90.val,x34.val]] w89 fun n93 w92=>
 Q (iV n93) w92))∧
 ((decide (n2_0=7))=false→
 bS 28 0 #[] v fun x96 w95=>
 ∃ I97:zI4,∃ m98:zN4,I97 x96 0 w95∧
 ∀ x99 n100 w101,I97 x99 n100 w101→
 ((decide (n100 < (x2_2.n:Int)))=true→
 IxOk x2_2 n100∧
 zl5 w101 x2_2 n100 fun n102 n103 x104=>
 zt4 73 #[pt a_0,.agg #[x1_0.val,x1_1.val],.agg #[iV n102,iV n103,x104.val],x_3.val] w101 fun n107 w106=>
 bS 28 1 #[(0,(iV n107))] w106 fun x110 w109=>
 aS 28 x99 x110 w109 fun x113 w112=>
 ∃ n114,Wr .i64 (n100+1) n114∧
 zq9 x1_0 x1_1 n2_0 n2_1 x2_2 fun _=>
 I97 x113 n114 w112∧
 m98 x113 n114 w112 < m98 x99 n100 w101)∧
 ((decide (n100 < (x2_2.n:Int)))=false→
 bS 29 0 #[] w101 fun x117 w116=>
 zt4 100 #[pt a_0,.agg #[iV n2_0,iV n2_1,iV 0,x99.val,x117.val]] w116 fun n120 w119=>
 Q (iV n120) w119)))∧
 ((decide (n2_0=7))=false→
 ((decide (n2_0=8))=true→
 IxOk x2_2 0∧
 zl5 v x2_2 0 fun n121 n122 x123=>
 zt4 73 #[pt a_0,.agg #[x1_0.val,x1_1.val],.agg #[iV n121,iV n122,x123.val],x_3.val] v fun n126 w125=>
 bS 29 0 #[] w125 fun x129 w128=>
 zt7 94 #[x1_0.val,iV n2_1] w128 fun x132 w131=>
 ∃ I133:zI4,∃ m134:zN4,I133 x129 1 w131∧
 ∀ x135 n136 w137,I133 x135 n136 w137→
 ((decide (n136 < (x2_2.n:Int)))=true→
 ((decide (n2_0=8))=true→
 ∃ n138,Wr .i64 (n136 - 1) n138∧
 IxOk x132 n138∧
 zl6 w137 x132 n138 fun n139=>
 zt7 95 #[x1_0.val,iV n139] w137 fun x142 w141=>
 IxOk x2_2 n136∧
 zl5 w141 x2_2 n136 fun n143 n144 x145=>
 ∃ n146:Int,w141.cell? (a_0.add 1)=some (iV n146)∧
 ∃ n147:Int,w141.cell? (a_0.add 1)=some (iV n147)∧
 ∃ n148,Wr .i64 (n147+(x142.n:Int)) n148∧
 zt7 59 #[iV n146,iV (x142.n:Int)] w141 fun x151 w150=>
 Sub w141 w150∧
 zt7 99 #[x_3.val,x151.val] w150 fun x154 w153=>
 Sub w150 w153∧
 zt3 58 #[.agg #[x1_0.val,x1_1.val],.agg #[iV n143,iV n144,x145.val],x154.val,iV n148] w153 fun x157 n158 w156=>
 bS 29 1 #[(0,(.agg #[x157.val,iV n158]))] w156 fun x161 w160=>
 aS 29 x135 x161 w160 fun x164 w163=>
 ∃ n165,Wr .i64 (n136+1) n165∧
 zq9 x1_0 x1_1 n2_0 n2_1 x2_2 fun _=>
 I133 x164 n165 w163∧
 m134 x164 n165 w163 < m134 x135 n136 w137)∧
 ((decide (n2_0=8))=false→
 IxOk x2_2 n136∧
 zl5 w137 x2_2 n136 fun n166 n167 x168=>
 ∃ n169:Int,w137.cell? (a_0.add 1)=some (iV n169)∧
 ∃ n170:Int,w137.cell? (a_0.add 1)=some (iV n170)∧
 ∃ n171,Wr .i64 (n170+0) n171∧
 zt7 59 #[iV n169,iV 0] w137 fun x174 w173=>
 Sub w137 w173∧
 zt7 99 #[x_3.val,x174.val] w173 fun x177 w176=>
 Sub w173 w176∧
 zt3 58 #[.agg #[x1_0.val,x1_1.val],.agg #[iV n166,iV n167,x168.val],x177.val,iV n171] w176 fun x180 n181 w179=>
 bS 29 1 #[(0,(.agg #[x180.val,iV n181]))] w179 fun x184 w183=>
 aS 29 x135 x184 w183 fun x187 w186=>
 ∃ n188,Wr .i64 (n136+1) n188∧
 zq9 x1_0 x1_1 n2_0 n2_1 x2_2 fun _=>
 I133 x187 n188 w186∧
 m134 x187 n188 w186 < m134 x135 n136 w137))∧
 ((decide (n136 < (x2_2.n:Int)))=false→
 bS 28 1 #[(0,(iV n126))] w137 fun x191 w190=>
 zt4 100 #[pt a_0,.agg #[iV n2_0,iV n2_1,iV 0,x191.val,x135.val]] w190 fun n194 w193=>
 Q (iV n194) w193))∧
 ((decide (n2_0=8))=false→
 bS 28 0 #[] v fun x197 w196=>
 ∃ I198:zI4,∃ m199:zN4,I198 x197 0 w196∧
 ∀ x200 n201 w202,I198 x200 n201 w202→
 ((decide (n201 < (x2_2.n:Int)))=true→
 IxOk x2_2 n201∧
 zl5 w202 x2_2 n201 fun n203 n204 x205=>
 zt4 73 #[pt a_0,.agg #[x1_0.val,x1_1.val],.agg #[iV n203,iV n204,x205.val],x_3.val] w202 fun n208 w207=>
 bS 28 1 #[(0,(iV n208))] w207 fun x211 w210=>
 aS 28 x200 x211 w210 fun x214 w213=>
 ∃ n215,Wr .i64 (n201+1) n215∧
 zq9 x1_0 x1_1 n2_0 n2_1 x2_2 fun _=>
 I198 x214 n215 w213∧
 m199 x214 n215 w213 < m199 x200 n201 w202)∧
 ((decide (n201 < (x2_2.n:Int)))=false→
 bS 29 0 #[] w202 fun x218 w217=>
 zt4 100 #[pt a_0,.agg #[iV n2_0,iV n2_1,iV 0,x200.val,x218.val]] w217 fun n221 w220=>
 Q (iV n221) w220)))))
theorem of73 (a_0:Addr) (x1_0 x1_1:Sl) (n2_0 n2_1:Int) (x2_2 x_3:Sl) (v:World) (Q:QT) (h:vc73 a_0 x1_0 x1_1 n2_0 n2_1 x2_2 x_3 v Q):Tr 73 #[pt a_0,.agg #[x1_0.val,x1_1.val],.agg #[iV n2_0,iV n2_1,x2_2.val],x_3.val] v Q:=
 trip_of_eq (args:=[.pt a_0 0,.ag [.sl x1_0,.sl x1_1],.ag [.num .i64 n2_0,.num .i64 n2_1,.sl x2_2],.sl x_3]) (A:=⟨[(13,[(11,.sl),(13,.int .i64)],[]),(22,[(15,.sl),(16,.int .i64)],[])],[],[(5,[]),(6,[8,9]),(9,[]),(17,[]),(18,[13,14]),(24,[])],[],psG⟩) Tryz.func73 (by kernel_rfl) (by kernel_rfl) (by kernel_rfl) h
def vc74 (x_0:Sl) (n_1:Int) (v:World) (Q:QT):Prop:=
 ∃ I1:zI1,∃ m2:zN1,I1 0 v∧
 ∀ n3 w4,I1 n3 w4→
 ((decide (n3 < (x_0.n:Int)))=true→
 IxOk x_0 n3∧
 zl6 w4 x_0 n3 fun n5=>
 ((decide (n5=n_1))=true→
 Q (iV n3) w4)∧
 ((decide (n5=n_1))=false→
 ∃ n6,Wr .i64 (n3+1) n6∧
 I1 n6 w4∧
 m2 n6 w4 < m2 n3 w4))∧
 ((decide (n3 < (x_0.n:Int)))=false→
 Q (iV (-1)) w4)
theorem of74 (x_0:Sl) (n_1:Int) (v:World) (Q:QT) (h:vc74 x_0 n_1 v Q):Tr 74 #[x_0.val,iV n_1] v Q:=
 trip_of_eq (args:=[.sl x_0,.num .i64 n_1]) (A:=⟨[(2,[(5,.int .i64)],[])],[],[],[],psG⟩) Tryz.func74 (by kernel_rfl) (by kernel_rfl) (by kernel_rfl) h
def vc75 (n_0:Int) (v:World) (Q:QT):Prop:=
 bS 84 0 #[] v fun x3 w2=>
 Q (.agg #[iV 0,iV n_0,x3.val]) w2
theorem of75 (n_0:Int) (v:World) (Q:QT) (h:vc75 n_0 v Q):Tr 75 #[iV n_0] v Q:=
 trip_of_eq (args:=[.num .i64 n_0]) (A:=aG) Tryz.func75 (by kernel_rfl) (by kernel_rfl) (by kernel_rfl) h
def vc76 (a_0:Addr) (x1_0 x1_1:Sl) (v:World) (Q:QT):Prop:=
 bS 28 3 #[(0,(iV 1)),(1,(iV 1)),(2,(iV 3))] v fun x3 w2=>
 zt4 20 #[pt a_0,x3.val] w2 fun n6 w5=>
 bS 28 1 #[(0,(iV n6))] w5 fun x9 w8=>
 zt12 101 #[pt a_0,.agg #[x1_0.val,x1_1.val],x9.val,iV 0,iV 16] w8 fun n12 n13 x14 w11=>
 zt4 27 #[pt a_0,iV 3] w11 fun n17 w16=>
 ((decide (n17=0))=true→
 bS 84 1 #[(0,(.agg #[iV n12,iV n13,x14.val]))] w16 fun x20 w19=>
 zt12 102 #[iV 5,iV 0,x20.val] w19 fun n23 n24 x25 w22=>
 zt12 103 #[pt a_0,iV n6] w22 fun n28 n29 x30 w27=>
 bS 84 2 #[(0,(.agg #[iV n28,iV n29,x30.val])),(1,(.agg #[iV n23,iV n24,x25.val]))] w27 fun x33 w32=>
 zt12 102 #[iV 13,iV 0,x33.val] w32 fun n36 n37 x38 w35=>
 Q (.agg #[iV n36,iV n37,x38.val]) w35)∧
 ((decide (n17=0))=false→
 zt12 103 #[pt a_0,iV n6] w16 fun n41 n42 x43 w40=>
 bS 84 2 #[(0,(.agg #[iV n41,iV n42,x43.val])),(1,(.agg #[iV n12,iV n13,x14.val]))] w40 fun x46 w45=>
 zt12 102 #[iV 13,iV 0,x46.val] w45 fun n49 n50 x51 w48=>
 Q (.agg #[iV n49,iV n50,x51.val]) w48)
theorem of76 (a_0:Addr) (x1_0 x1_1:Sl) (v:World) (Q:QT) (h:vc76 a_0 x1_0 x1_1 v Q):Tr 76 #[pt a_0,.agg #[x1_0.val,x1_1.val]] v Q:=
 trip_of_eq (args:=[.pt a_0 0,.ag [.sl x1_0,.sl x1_1]]) (A:=⟨[],[],[(5,[])],[],psG⟩) Tryz.func76 (by kernel_rfl) (by kernel_rfl) (by kernel_rfl) h
def vc77 (a_0:Addr) (x1_0 x1_1:Sl) (n_2 n_3:Int) (v:World) (Q:QT):Prop:=
 IxOk x1_1 n_2∧
 zl9 v x1_1 n_2 fun x1=>
 bS 28 2 #[(0,(iV 0)),(1,(iV 1))] v fun x4 w3=>
 zt7 99 #[x1.val,x4.val] w3 fun x7 w6=>
 bS 84 0 #[] w6 fun x10 w9=>
 ∃ I11:zI4,∃ m12:zN4,I11 x10 0 w9∧
 ∀ x13 n14 w15,I11 x13 n14 w15→
 ((decide (n14 < (x1.n:Int)))=true→
 ((decide (n14=n_3))=true→
 ∃ n16,Wr .i64 ((x1.n:Int)+1) n16∧
 zt12 104 #[iV n16] w15 fun n19 n20 x21 w18=>
 bS 84 1 #[(0,(.agg #[iV n19,iV n20,x21.val]))] w18 fun x24 w23=>
 aS 84 x13 x24 w23 fun x27 w26=>
 ∃ n28,Wr .i64 (n14+1) n28∧
 zq9 x1_0 x1_1 0 0 (Sl.mk none 0 0) fun _=>
 I11 x27 n28 w26∧
 m12 x27 n28 w26 < m12 x13 n14 w15)∧
 ((decide (n14=n_3))=false→
 IxOk x1 n14∧
 zl6 w15 x1 n14 fun n29=>
 ((decide (n29=0))=true→
 zt4 27 #[pt a_0,iV 2] w15 fun n32 w31=>
 ((decide (n32=0))=true→
 zt12 104 #[iV n14] w31 fun n35 n36 x37 w34=>
 zt12 104 #[iV (x1.n:Int)] w34 fun n40 n41 x42 w39=>
 bS 84 2 #[(0,(.agg #[iV n35,iV n36,x37.val])),(1,(.agg #[iV n40,iV n41,x42.val]))] w39 fun x45 w44=>
 zt12 102 #[iV 1,iV 0,x45.val] w44 fun n48 n49 x50 w47=>
 bS 84 1 #[(0,(.agg #[iV n48,iV n49,x50.val]))] w47 fun x53 w52=>
 aS 84 x13 x53 w52 fun x56 w55=>
 ∃ n57,Wr .i64 (n14+1) n57∧
 zq9 x1_0 x1_1 0 0 (Sl.mk none 0 0) fun _=>
 I11 x56 n57 w55∧
 m12 x56 n57 w55 < m12 x13 n14 w15)∧
 ((decide (n32=0))=false→
 zt12 104 #[iV n14] w31 fun n60 n61 x62 w59=>
 bS 84 1 #[(0,(.agg #[iV n60,iV n61,x62.val]))] w59 fun x65 w64=>
 aS 84 x13 x65 w64 fun x68 w67=>
 ∃ n69,Wr .i64 (n14+1) n69∧
 zq9 x1_0 x1_1 0 0 (Sl.mk none 0 0) fun _=>
 I11 x68 n69 w67∧
 m12 x68 n69 w67 < m12 x13 n14 w15))∧
 ((decide (n29=0))=false→
 zt12 104 #[iV n14] w15 fun n72 n73 x74 w71=>
 bS 84 1 #[(0,(.agg #[iV n72,iV n73,x74.val]))] w71 fun x77 w76=>
 aS 84 x13 x77 w76 fun x80 w79=>
 ∃ n81,Wr .i64 (n14+1) n81∧
 zq9 x1_0 x1_1 0 0 (Sl.mk none 0 0) fun _=>
 I11 x80 n81 w79∧
 m12 x80 n81 w79 < m12 x13 n14 w15)))∧
 ((decide (n14 < (x1.n:Int)))=false→
 zt12 102 #[iV 9,iV n_2,x13.val] w15 fun n84 n85 x86 w83=>
 ∃ J87:Int→Int→Sl→World→Prop,(∃ J88:Bool→World→Prop,(IxOk x1_1 n_2∧
 zl10 w83 x1_1 n_2 fun n89=>
 ((decide (n89=1))=true→
 zt4 27 #[pt a_0,iV 5] w83 fun n92 w91=>
 zq16 x1_0 x1_1 0 0 (Sl.mk none 0 0) n84 n85 x86 n84 n85 x86 fun _=>
 J88 (decide (n92 > 0)) w91)∧
 ((decide (n89=1))=false→
 zq16 x1_0 x1_1 0 0 (Sl.mk none 0 0) n84 n85 x86 n84 n85 x86 fun _=>
 J88 false w83))∧
 ∀ q93:Bool,∀ w94:World,J88 q93 w94→
 (q93=true→
 zt12 101 #[pt a_0,.agg #[x1_0.val,x1_1.val],x7.val,iV 0,iV 4] w94 fun n97 n98 x99 w96=>
 ((decide ((x1.n:Int) > 1))=true→
 IxOk x1 0)∧
 ∃ n100:Int,((decide ((x1.n:Int) > 1))=true→
 w96.cell? ((elA x1 0 1).add 0)=some (iV n100))∧
 (((decide ((x1.n:Int) > 1)) && (decide (n100=2)))=true→
 zt12 104 #[iV 0] w96 fun n103 n104 x105 w102=>
 zt12 104 #[iV (x1.n:Int)] w102 fun n108 n109 x110 w107=>
 bS 84 2 #[(0,(.agg #[iV n103,iV n104,x105.val])),(1,(.agg #[iV n108,iV n109,x110.val]))] w107 fun x113 w112=>
 zt12 102 #[iV 11,iV 0,x113.val] w112 fun n116 n117 x118 w115=>
 bS 84 2 #[(0,(.agg #[iV n116,iV n117,x118.val])),(1,(.agg #[iV n84,iV n85,x86.val]))] w115 fun x121 w120=>
 zt12 102 #[iV 6,iV 1,x121.val] w120 fun n124 n125 x126 w123=>
 zq17 x1_0 x1_1 0 0 (Sl.mk none 0 0) n84 n85 x86 fun _=>
 J87 n124 n125 x126 w123)∧
 (((decide ((x1.n:Int) > 1)) && (decide (n100=2)))=false→
 bS 84 2 #[(0,(.agg #[iV n97,iV n98,x99.val])),(1,(.agg #[iV n84,iV n85,x86.val]))] w96 fun x129 w128=>
 zt12 102 #[iV 6,iV 1,x129.val] w128 fun n132 n133 x134 w131=>
 zq17 x1_0 x1_1 0 0 (Sl.mk none 0 0) n84 n85 x86 fun _=>
 J87 n132 n133 x134 w131))∧
 (q93=false→
 IxOk x1_1 n_2∧
 zl10 w94 x1_1 n_2 fun n135=>
 ((decide (n135=0))=true→
 bS 28 2 #[(0,(iV 1)),(1,(iV 2))] w94 fun x138 w137=>
 zt4 20 #[pt a_0,x138.val] w137 fun n141 w140=>
 zt12 101 #[pt a_0,.agg #[x1_0.val,x1_1.val],x7.val,iV 0,iV 4] w140 fun n144 n145 x146 w143=>
 bS 84 2 #[(0,(.agg #[iV n144,iV n145,x146.val])),(1,(.agg #[iV n84,iV n85,x86.val]))] w143 fun x149 w148=>
 zt12 102 #[iV n141,iV 0,x149.val] w148 fun n152 n153 x154 w151=>
 zq17 x1_0 x1_1 0 0 (Sl.mk none 0 0) n84 n85 x86 fun _=>
 J87 n152 n153 x154 w151)∧
 ((decide (n135=0))=false→
 zq17 x1_0 x1_1 0 0 (Sl.mk none 0 0) n84 n85 x86 fun _=>
 J87 n84 n85 x86 w94)))∧
 ∀ n155:Int,∀ n156:Int,∀ x157:Sl,∀ w158:World,J87 n155 n156 x157 w158→
 IxOk x1_1 n_2∧
 zl10 w158 x1_1 n_2 fun n159=>
 zt12 104 #[iV n_3] w158 fun n162 n163 x164 w161=>
 Sub w158 w161∧
 zt12 101 #[pt a_0,.agg #[x1_0.val,x1_1.val],x1.val,iV n159,iV 4] w161 fun n167 n168 x169 w166=>
 bS 84 3 #[(0,(.agg #[iV n162,iV n163,x164.val])),(1,(.agg #[iV n167,iV n168,x169.val])),(2,(.agg #[iV n155,iV n156,x157.val]))] w166 fun x172 w171=>
 zt12 102 #[iV 8,iV 1,x172.val] w171 fun n175 n176 x177 w174=>
 Q (.agg #[iV n175,iV n176,x177.val]) w174)
theorem of77 (a_0:Addr) (x1_0 x1_1:Sl) (n_2 n_3:Int) (v:World) (Q:QT) (h:vc77 a_0 x1_0 x1_1 n_2 n_3 v Q):Tr 77 #[pt a_0,.agg #[x1_0.val,x1_1.val],iV n_2,iV n_3] v Q:=
 trip_of_eq (args:=[.pt a_0 0,.ag [.sl x1_0,.sl x1_1],.num .i64 n_2,.num .i64 n_3]) (A:=⟨[(6,[(12,.sl),(13,.int .i64)],[])],[(16,[(82,.bool)],[]),(22,[],[(3,0,.int .i64),(3,1,.int .i64),(3,2,.sl)])],[(21,[]),(22,[1])],[],psG⟩) Tryz.func77 (by kernel_rfl) (by kernel_rfl) (by kernel_rfl) h
def vc78 (a_0:Addr) (x1_0 x1_1:Sl) (n_2:Int) (v:World) (Q:QT):Prop:=
 IxOk x1_1 n_2∧
 zl9 v x1_1 n_2 fun x1=>
 zt12 104 #[iV (x1.n:Int)] v fun n4 n5 x6 w3=>
 bS 84 1 #[(0,(.agg #[iV n4,iV n5,x6.val]))] w3 fun x9 w8=>
 ∃ n10,Wr .i64 ((x1.n:Int)+2) n10∧
 zt12 104 #[iV n10] w8 fun n13 n14 x15 w12=>
 bS 84 1 #[(0,(.agg #[iV n13,iV n14,x15.val]))] w12 fun x18 w17=>
 ∃ I19:zI5,∃ m20:zN5,I19 x9 x18 1 w17∧
 ∀ x21 x22 n23 w24,I19 x21 x22 n23 w24→
 ((decide (n23 < (x1.n:Int)))=true→
 zt12 104 #[iV n23] w24 fun n27 n28 x29 w26=>
 bS 84 1 #[(0,(.agg #[iV n27,iV n28,x29.val]))] w26 fun x32 w31=>
 aS 84 x21 x32 w31 fun x35 w34=>
 zt12 104 #[iV n23] w34 fun n38 n39 x40 w37=>
 bS 84 1 #[(0,(.agg #[iV n38,iV n39,x40.val]))] w37 fun x43 w42=>
 aS 84 x22 x43 w42 fun x46 w45=>
 ∃ n47,Wr .i64 (n23+1) n47∧
 zq9 x1_0 x1_1 0 0 (Sl.mk none 0 0) fun _=>
 I19 x35 x46 n47 w45∧
 m20 x35 x46 n47 w45 < m20 x21 x22 n23 w24)∧
 ((decide (n23 < (x1.n:Int)))=false→
 zt12 102 #[iV 9,iV n_2,x21.val] w24 fun n50 n51 x52 w49=>
 zt12 102 #[iV 9,iV n_2,x22.val] w49 fun n55 n56 x57 w54=>
 (bS 28 3 #[(0,(iV 3)),(1,(iV 0)),(2,(iV 3))] w54 fun x60 w59=>
 Sub w54 w59∧
 (zt7 99 #[x1.val,x60.val] w59 fun x63 w62=>
 Sub w59 w62∧
 (zt12 101 #[pt a_0,.agg #[x1_0.val,x1_1.val],x63.val,iV 0,iV 4] w62 fun n66 n67 x68 w65=>
 (bS 84 2 #[(0,(.agg #[iV n66,iV n67,x68.val])),(1,(.agg #[iV n55,iV n56,x57.val]))] w65 fun x71 w70=>
 (zt12 102 #[iV 1,iV 0,x71.val] w70 fun n74 n75 x76 w73=>
 (bS 84 2 #[(0,(.agg #[iV n50,iV n51,x52.val])),(1,(.agg #[iV n74,iV n75,x76.val]))] w73 fun x79 w78=>
 (zt12 102 #[iV 1,iV 0,x79.val] w78 fun n82 n83 x84 w81=>
 Sub w81 w81∧
 IxOk x1_1 n_2∧
 zl10 w81 x1_1 n_2 fun n85=>
 ((decide (n85=3))=true→
 ∃ n86,Wr .i64 ((x1.n:Int)+2) n86∧
 bS 28 3 #[(0,(iV 3)),(1,(iV 0)),(2,(iV 3))] w81 fun x89 w88=>
 Sub w81 w88∧
 zt7 99 #[x1.val,x89.val] w88 fun x92 w91=>
 Sub w88 w91∧
 zt12 101 #[pt a_0,.agg #[x1_0.val,x1_1.val],x92.val,iV 0,iV 4] w91 fun n95 n96 x97 w94=>
 zt12 104 #[iV n86] w94 fun n100 n101 x102 w99=>
 bS 84 3 #[(0,(.agg #[iV n50,iV n51,x52.val])),(1,(.agg #[iV n95,iV n96,x97.val])),(2,(.agg #[iV n100,iV n101,x102.val]))] w99 fun x105 w104=>
 zt12 102 #[iV 6,iV 3,x105.val] w104 fun n108 n109 x110 w107=>
 IxOk x1_1 n_2∧
 zl10 w107 x1_1 n_2 fun n111=>
 zt12 104 #[iV 0] w107 fun n114 n115 x116 w113=>
 Sub w107 w113∧
 zt12 101 #[pt a_0,.agg #[x1_0.val,x1_1.val],x1.val,iV n111,iV 4] w113 fun n119 n120 x121 w118=>
 bS 84 3 #[(0,(.agg #[iV n114,iV n115,x116.val])),(1,(.agg #[iV n119,iV n120,x121.val])),(2,(.agg #[iV n108,iV n109,x110.val]))] w118 fun x124 w123=>
 zt12 102 #[iV 8,iV 3,x124.val] w123 fun n127 n128 x129 w126=>
 Q (.agg #[iV n127,iV n128,x129.val]) w126)∧
 ((decide (n85=3))=false→
 IxOk x1_1 n_2∧
 zl10 w81 x1_1 n_2 fun n130=>
 zt12 104 #[iV 0] w81 fun n133 n134 x135 w132=>
 Sub w81 w132∧
 zt12 101 #[pt a_0,.agg #[x1_0.val,x1_1.val],x1.val,iV n130,iV 4] w132 fun n138 n139 x140 w137=>
 bS 84 3 #[(0,(.agg #[iV n133,iV n134,x135.val])),(1,(.agg #[iV n138,iV n139,x140.val])),(2,(.agg #[iV n82,iV n83,x84.val]))] w137 fun x143 w142=>
 zt12 102 #[iV 8,iV 3,x143.val] w142 fun n146 n147 x148 w145=>
 Q (.agg #[iV n146,iV n147,x148.val]) w145))∧
 Sub w78 w78∧
 zt12 102 #[iV 1,iV 0,x79.val] w78 fun n151 n152 x153 w150=>
 IxOk x1_1 n_2∧
 zl10 w150 x1_1 n_2 fun n154=>
 ((decide (n154=3))=true→
 ∃ n155,Wr .i64 ((x1.n:Int)+2) n155∧
 bS 28 3 #[(0,(iV 3)),(1,(iV 0)),(2,(iV 3))] w150 fun x158 w157=>
 Sub w150 w157∧
 zt7 99 #[x1.val,x158.val] w157 fun x161 w160=>
 Sub w157 w160∧
 zt12 101 #[pt a_0,.agg #[x1_0.val,x1_1.val],x161.val,iV 0,iV 4] w160 fun n164 n165 x166 w163=>
 zt12 104 #[iV n155] w163 fun n169 n170 x171 w168=>
 bS 84 3 #[(0,(.agg #[iV n50,iV n51,x52.val])),(1,(.agg #[iV n164,iV n165,x166.val])),(2,(.agg #[iV n169,iV n170,x171.val]))] w168 fun x174 w173=>
 zt12 102 #[iV 6,iV 3,x174.val] w173 fun n177 n178 x179 w176=>
 IxOk x1_1 n_2∧
 zl10 w176 x1_1 n_2 fun n180=>
 zt12 104 #[iV 0] w176 fun n183 n184 x185 w182=>
 Sub w176 w182∧
 zt12 101 #[pt a_0,.agg #[x1_0.val,x1_1.val],x1.val,iV n180,iV 4] w182 fun n188 n189 x190 w187=>
 bS 84 3 #[(0,(.agg #[iV n183,iV n184,x185.val])),(1,(.agg #[iV n188,iV n189,x190.val])),(2,(.agg #[iV n177,iV n178,x179.val]))] w187 fun x193 w192=>
 zt12 102 #[iV 8,iV 3,x193.val] w192 fun n196 n197 x198 w195=>
 Q (.agg #[iV n196,iV n197,x198.val]) w195)∧
 ((decide (n154=3))=false→
 IxOk x1_1 n_2∧
 zl10 w150 x1_1 n_2 fun n199=>
 zt12 104 #[iV 0] w150 fun n202 n203 x204 w201=>
 Sub w150 w201∧
 zt12 101 #[pt a_0,.agg #[x1_0.val,x1_1.val],x1.val,iV n199,iV 4] w201 fun n207 n208 x209 w206=>
 bS 84 3 #[(0,(.agg #[iV n202,iV n203,x204.val])),(1,(.agg #[iV n207,iV n208,x209.val])),(2,(.agg #[iV n151,iV n152,x153.val]))] w206 fun x212 w211=>
 zt12 102 #[iV 8,iV 3,x212.val] w211 fun n215 n216 x217 w214=>
 Q (.agg #[iV n215,iV n216,x217.val]) w214))∧
 Sub w73 w73∧
 bS 84 2 #[(0,(.agg #[iV n50,iV n51,x52.val])),(1,(.agg #[iV n74,iV n75,x76.val]))] w73 fun x220 w219=>
 zt12 102 #[iV 1,iV 0,x220.val] w219 fun n223 n224 x225 w222=>
 IxOk x1_1 n_2∧
 zl10 w222 x1_1 n_2 fun n226=>
 ((decide (n226=3))=true→
 ∃ n227,Wr .i64 ((x1.n:Int)+2) n227∧
 bS 28 3 #[(0,(iV 3)),(1,(iV 0)),(2,(iV 3))] w222 fun x230 w229=>
 Sub w222 w229∧
 zt7 99 #[x1.val,x230.val] w229 fun x233 w232=>
 Sub w229 w232∧
 zt12 101 #[pt a_0,.agg #[x1_0.val,x1_1.val],x233.val,iV 0,iV 4] w232 fun n236 n237 x238 w235=>
 zt12 104 #[iV n227] w235 fun n241 n242 x243 w240=>
 bS 84 3 #[(0,(.agg #[iV n50,iV n51,x52.val])),(1,(.agg #[iV n236,iV n237,x238.val])),(2,(.agg #[iV n241,iV n242,x243.val]))] w240 fun x246 w245=>
 zt12 102 #[iV 6,iV 3,x246.val] w245 fun n249 n250 x251 w248=>
 IxOk x1_1 n_2∧
 zl10 w248 x1_1 n_2 fun n252=>
 zt12 104 #[iV 0] w248 fun n255 n256 x257 w254=>
 Sub w248 w254∧
 zt12 101 #[pt a_0,.agg #[x1_0.val,x1_1.val],x1.val,iV n252,iV 4] w254 fun n260 n261 x262 w259=>
 bS 84 3 #[(0,(.agg #[iV n255,iV n256,x257.val])),(1,(.agg #[iV n260,iV n261,x262.val])),(2,(.agg #[iV n249,iV n250,x251.val]))] w259 fun x265 w264=>
 zt12 102 #[iV 8,iV 3,x265.val] w264 fun n268 n269 x270 w267=>
 Q (.agg #[iV n268,iV n269,x270.val]) w267)∧
 ((decide (n226=3))=false→
 IxOk x1_1 n_2∧
 zl10 w222 x1_1 n_2 fun n271=>
 zt12 104 #[iV 0] w222 fun n274 n275 x276 w273=>
 Sub w222 w273∧
 zt12 101 #[pt a_0,.agg #[x1_0.val,x1_1.val],x1.val,iV n271,iV 4] w273 fun n279 n280 x281 w278=>
 bS 84 3 #[(0,(.agg #[iV n274,iV n275,x276.val])),(1,(.agg #[iV n279,iV n280,x281.val])),(2,(.agg #[iV n223,iV n224,x225.val]))] w278 fun x284 w283=>
 zt12 102 #[iV 8,iV 3,x284.val] w283 fun n287 n288 x289 w286=>
 Q (.agg #[iV n287,iV n288,x289.val]) w286))∧
 Sub w70 w70∧
 zt12 102 #[iV 1,iV 0,x71.val] w70 fun n292 n293 x294 w291=>
 bS 84 2 #[(0,(.agg #[iV n50,iV n51,x52.val])),(1,(.agg #[iV n292,iV n293,x294.val]))] w291 fun x297 w296=>
 zt12 102 #[iV 1,iV 0,x297.val] w296 fun n300 n301 x302 w299=>
 IxOk x1_1 n_2∧
 zl10 w299 x1_1 n_2 fun n303=>
 ((decide (n303=3))=true→
 ∃ n304,Wr .i64 ((x1.n:Int)+2) n304∧
 bS 28 3 #[(0,(iV 3)),(1,(iV 0)),(2,(iV 3))] w299 fun x307 w306=>
 Sub w299 w306∧
 zt7 99 #[x1.val,x307.val] w306 fun x310 w309=>
 Sub w306 w309∧
 zt12 101 #[pt a_0,.agg #[x1_0.val,x1_1.val],x310.val,iV 0,iV 4] w309 fun n313 n314 x315 w312=>
 zt12 104 #[iV n304] w312 fun n318 n319 x320 w317=>
 bS 84 3 #[(0,(.agg #[iV n50,iV n51,x52.val])),(1,(.agg #[iV n313,iV n314,x315.val])),(2,(.agg #[iV n318,iV n319,x320.val]))] w317 fun x323 w322=>
 zt12 102 #[iV 6,iV 3,x323.val] w322 fun n326 n327 x328 w325=>
 IxOk x1_1 n_2∧
 zl10 w325 x1_1 n_2 fun n329=>
 zt12 104 #[iV 0] w325 fun n332 n333 x334 w331=>
 Sub w325 w331∧
 zt12 101 #[pt a_0,.agg #[x1_0.val,x1_1.val],x1.val,iV n329,iV 4] w331 fun n337 n338 x339 w336=>
 bS 84 3 #[(0,(.agg #[iV n332,iV n333,x334.val])),(1,(.agg #[iV n337,iV n338,x339.val])),(2,(.agg #[iV n326,iV n327,x328.val]))] w336 fun x342 w341=>
 zt12 102 #[iV 8,iV 3,x342.val] w341 fun n345 n346 x347 w344=>
 Q (.agg #[iV n345,iV n346,x347.val]) w344)∧
 ((decide (n303=3))=false→
 IxOk x1_1 n_2∧
 zl10 w299 x1_1 n_2 fun n348=>
 zt12 104 #[iV 0] w299 fun n351 n352 x353 w350=>
 Sub w299 w350∧
 zt12 101 #[pt a_0,.agg #[x1_0.val,x1_1.val],x1.val,iV n348,iV 4] w350 fun n356 n357 x358 w355=>
 bS 84 3 #[(0,(.agg #[iV n351,iV n352,x353.val])),(1,(.agg #[iV n356,iV n357,x358.val])),(2,(.agg #[iV n300,iV n301,x302.val]))] w355 fun x361 w360=>
 zt12 102 #[iV 8,iV 3,x361.val] w360 fun n364 n365 x366 w363=>
 Q (.agg #[iV n364,iV n365,x366.val]) w363))∧
 Sub w65 w65∧
 bS 84 2 #[(0,(.agg #[iV n66,iV n67,x68.val])),(1,(.agg #[iV n55,iV n56,x57.val]))] w65 fun x369 w368=>
 zt12 102 #[iV 1,iV 0,x369.val] w368 fun n372 n373 x374 w371=>
 bS 84 2 #[(0,(.agg #[iV n50,iV n51,x52.val])),(1,(.agg #[iV n372,iV n373,x374.val]))] w371 fun x377 w376=>
 zt12 102 #[iV 1,iV 0,x377.val] w376 fun n380 n381 x382 w379=>
 IxOk x1_1 n_2∧
 zl10 w379 x1_1 n_2 fun n383=>
 ((decide (n383=3))=true→
 ∃ n384,Wr .i64 ((x1.n:Int)+2) n384∧
 bS 28 3 #[(0,(iV 3)),(1,(iV 0)),(2,(iV 3))] w379 fun x387 w386=>
 Sub w379 w386∧
 zt7 99 #[x1.val,x387.val] w386 fun x390 w389=>
 Sub w386 w389∧
 zt12 101 #[pt a_0,.agg #[x1_0.val,x1_1.val],x390.val,iV 0,iV 4] w389 fun n393 n394 x395 w392=>
 zt12 104 #[iV n384] w392 fun n398 n399 x400 w397=>
 bS 84 3 #[(0,(.agg #[iV n50,iV n51,x52.val])),(1,(.agg #[iV n393,iV n394,x395.val])),(2,(.agg #[iV n398,iV n399,x400.val]))] w397 fun x403 w402=>
 zt12 102 #[iV 6,iV 3,x403.val] w402 fun n406 n407 x408 w405=>
 IxOk x1_1 n_2∧
 zl10 w405 x1_1 n_2 fun n409=>
 zt12 104 #[iV 0] w405 fun n412 n413 x414 w411=>
 Sub w405 w411∧
 zt12 101 #[pt a_0,.agg #[x1_0.val,x1_1.val],x1.val,iV n409,iV 4] w411 fun n417 n418 x419 w416=>
 bS 84 3 #[(0,(.agg #[iV n412,iV n413,x414.val])),(1,(.agg #[iV n417,iV n418,x419.val])),(2,(.agg #[iV n406,iV n407,x408.val]))] w416 fun x422 w421=>
 zt12 102 #[iV 8,iV 3,x422.val] w421 fun n425 n426 x427 w424=>
 Q (.agg #[iV n425,iV n426,x427.val]) w424)∧
 ((decide (n383=3))=false→
 IxOk x1_1 n_2∧
 zl10 w379 x1_1 n_2 fun n428=>
 zt12 104 #[iV 0] w379 fun n431 n432 x433 w430=>
 Sub w379 w430∧
 zt12 101 #[pt a_0,.agg #[x1_0.val,x1_1.val],x1.val,iV n428,iV 4] w430 fun n436 n437 x438 w435=>
 bS 84 3 #[(0,(.agg #[iV n431,iV n432,x433.val])),(1,(.agg #[iV n436,iV n437,x438.val])),(2,(.agg #[iV n380,iV n381,x382.val]))] w435 fun x441 w440=>
 zt12 102 #[iV 8,iV 3,x441.val] w440 fun n444 n445 x446 w443=>
 Q (.agg #[iV n444,iV n445,x446.val]) w443))∧
 Sub w62 w62∧
 zt12 101 #[pt a_0,.agg #[x1_0.val,x1_1.val],x63.val,iV 0,iV 4] w62 fun n449 n450 x451 w448=>
 bS 84 2 #[(0,(.agg #[iV n449,iV n450,x451.val])),(1,(.agg #[iV n55,iV n56,x57.val]))] w448 fun x454 w453=>
 zt12 102 #[iV 1,iV 0,x454.val] w453 fun n457 n458 x459 w456=>
 bS 84 2 #[(0,(.agg #[iV n50,iV n51,x52.val])),(1,(.agg #[iV n457,iV n458,x459.val]))] w456 fun x462 w461=>
 zt12 102 #[iV 1,iV 0,x462.val] w461 fun n465 n466 x467 w464=>
 IxOk x1_1 n_2∧
 zl10 w464 x1_1 n_2 fun n468=>
 ((decide (n468=3))=true→
 ∃ n469,Wr .i64 ((x1.n:Int)+2) n469∧
 bS 28 3 #[(0,(iV 3)),(1,(iV 0)),(2,(iV 3))] w464 fun x472 w471=>
 Sub w464 w471∧
 zt7 99 #[x1.val,x472.val] w471 fun x475 w474=>
 Sub w471 w474∧
 zt12 101 #[pt a_0,.agg #[x1_0.val,x1_1.val],x475.val,iV 0,iV 4] w474 fun n478 n479 x480 w477=>
 zt12 104 #[iV n469] w477 fun n483 n484 x485 w482=>
 bS 84 3 #[(0,(.agg #[iV n50,iV n51,x52.val])),(1,(.agg #[iV n478,iV n479,x480.val])),(2,(.agg #[iV n483,iV n484,x485.val]))] w482 fun x488 w487=>
 zt12 102 #[iV 6,iV 3,x488.val] w487 fun n491 n492 x493 w490=>
 IxOk x1_1 n_2∧
 zl10 w490 x1_1 n_2 fun n494=>
 zt12 104 #[iV 0] w490 fun n497 n498 x499 w496=>
 Sub w490 w496∧
 zt12 101 #[pt a_0,.agg #[x1_0.val,x1_1.val],x1.val,iV n494,iV 4] w496 fun n502 n503 x504 w501=>
 bS 84 3 #[(0,(.agg #[iV n497,iV n498,x499.val])),(1,(.agg #[iV n502,iV n503,x504.val])),(2,(.agg #[iV n491,iV n492,x493.val]))] w501 fun x507 w506=>
 zt12 102 #[iV 8,iV 3,x507.val] w506 fun n510 n511 x512 w509=>
 Q (.agg #[iV n510,iV n511,x512.val]) w509)∧
 ((decide (n468=3))=false→
 IxOk x1_1 n_2∧
 zl10 w464 x1_1 n_2 fun n513=>
 zt12 104 #[iV 0] w464 fun n516 n517 x518 w515=>
 Sub w464 w515∧
 zt12 101 #[pt a_0,.agg #[x1_0.val,x1_1.val],x1.val,iV n513,iV 4] w515 fun n521 n522 x523 w520=>
 bS 84 3 #[(0,(.agg #[iV n516,iV n517,x518.val])),(1,(.agg #[iV n521,iV n522,x523.val])),(2,(.agg #[iV n465,iV n466,x467.val]))] w520 fun x526 w525=>
 zt12 102 #[iV 8,iV 3,x526.val] w525 fun n529 n530 x531 w528=>
 Q (.agg #[iV n529,iV n530,x531.val]) w528))∧
 Sub w59 w59∧
 zt7 99 #[x1.val,x60.val] w59 fun x534 w533=>
 Sub w59 w533∧
 zt12 101 #[pt a_0,.agg #[x1_0.val,x1_1.val],x534.val,iV 0,iV 4] w533 fun n537 n538 x539 w536=>
 bS 84 2 #[(0,(.agg #[iV n537,iV n538,x539.val])),(1,(.agg #[iV n55,iV n56,x57.val]))] w536 fun x542 w541=>
 zt12 102 #[iV 1,iV 0,x542.val] w541 fun n545 n546 x547 w544=>
 bS 84 2 #[(0,(.agg #[iV n50,iV n51,x52.val])),(1,(.agg #[iV n545,iV n546,x547.val]))] w544 fun x550 w549=>
 zt12 102 #[iV 1,iV 0,x550.val] w549 fun n553 n554 x555 w552=>
 IxOk x1_1 n_2∧
 zl10 w552 x1_1 n_2 fun n556=>
 ((decide (n556=3))=true→
 ∃ n557,Wr .i64 ((x1.n:Int)+2) n557∧
 bS 28 3 #[(0,(iV 3)),(1,(iV 0)),(2,(iV 3))] w552 fun x560 w559=>
 Sub w552 w559∧
 zt7 99 #[x1.val,x560.val] w559 fun x563 w562=>
 Sub w559 w562∧
 zt12 101 #[pt a_0,.agg #[x1_0.val,x1_1.val],x563.val,iV 0,iV 4] w562 fun n566 n567 x568 w565=>
 zt12 104 #[iV n557] w565 fun n571 n572 x573 w570=>
 bS 84 3 #[(0,(.agg #[iV n50,iV n51,x52.val])),(1,(.agg #[iV n566,iV n567,x568.val])),(2,(.agg #[iV n571,iV n572,x573.val]))] w570 fun x576 w575=>
 zt12 102 #[iV 6,iV 3,x576.val] w575 fun n579 n580 x581 w578=>
 IxOk x1_1 n_2∧
 zl10 w578 x1_1 n_2 fun n582=>
 zt12 104 #[iV 0] w578 fun n585 n586 x587 w584=>
 Sub w578 w584∧
 zt12 101 #[pt a_0,.agg #[x1_0.val,x1_1.val],x1.val,iV n582,iV 4] w584 fun n590 n591 x592 w589=>
 bS 84 3 #[(0,(.agg #[iV n585,iV n586,x587.val])),(1,(.agg #[iV n590,iV n591,x592.val])),(2,(.agg #[iV n579,iV n580,x581.val]))] w589 fun x595 w594=>
 zt12 102 #[iV 8,iV 3,x595.val] w594 fun n598 n599 x600 w597=>
 Q (.agg #[iV n598,iV n599,x600.val]) w597)∧
 ((decide (n556=3))=false→
 IxOk x1_1 n_2∧
 zl10 w552 x1_1 n_2 fun n601=>
 zt12 104 #[iV 0] w552 fun n604 n605 x606 w603=>
 Sub w552 w603∧
 zt12 101 #[pt a_0,.agg #[x1_0.val,x1_1.val],x1.val,iV n601,iV 4] w603 fun n609 n610 x611 w608=>
 bS 84 3 #[(0,(.agg #[iV n604,iV n605,x606.val])),(1,(.agg #[iV n609,iV n610,x611.val])),(2,(.agg #[iV n553,iV n554,x555.val]))] w608 fun x614 w613=>
 zt12 102 #[iV 8,iV 3,x614.val] w613 fun n617 n618 x619 w616=>
 Q (.agg #[iV n617,iV n618,x619.val]) w616))∧
 Sub w54 w54∧
 bS 28 3 #[(0,(iV 3)),(1,(iV 0)),(2,(iV 3))] w54 fun x622 w621=>
 Sub w54 w621∧
 zt7 99 #[x1.val,x622.val] w621 fun x625 w624=>
 Sub w621 w624∧
 zt12 101 #[pt a_0,.agg #[x1_0.val,x1_1.val],x625.val,iV 0,iV 4] w624 fun n628 n629 x630 w627=>
 bS 84 2 #[(0,(.agg #[iV n628,iV n629,x630.val])),(1,(.agg #[iV n55,iV n56,x57.val]))] w627 fun x633 w632=>
 zt12 102 #[iV 1,iV 0,x633.val] w632 fun n636 n637 x638 w635=>
 bS 84 2 #[(0,(.agg #[iV n50,iV n51,x52.val])),(1,(.agg #[iV n636,iV n637,x638.val]))] w635 fun x641 w640=>
 zt12 102 #[iV 1,iV 0,x641.val] w640 fun n644 n645 x646 w643=>
 IxOk x1_1 n_2∧
 zl10 w643 x1_1 n_2 fun n647=>
 ((decide (n647=3))=true→
 ∃ n648,Wr .i64 ((x1.n:Int)+2) n648∧
 bS 28 3 #[(0,(iV 3)),(1,(iV 0)),(2,(iV 3))] w643 fun x651 w650=>
 Sub w643 w650∧
 zt7 99 #[x1.val,x651.val] w650 fun x654 w653=>
 Sub w650 w653∧
 zt12 101 #[pt a_0,.agg #[x1_0.val,x1_1.val],x654.val,iV 0,iV 4] w653 fun n657 n658 x659 w656=>
 zt12 104 #[iV n648] w656 fun n662 n663 x664 w661=>
 bS 84 3 #[(0,(.agg #[iV n50,iV n51,x52.val])),(1,(.agg #[iV n657,iV n658,x659.val])),(2,(.agg #[iV n662,iV n663,x664.val]))] w661 fun x667 w666=>
 zt12 102 #[iV 6,iV 3,x667.val] w666 fun n670 n671 x672 w669=>
 IxOk x1_1 n_2∧
 zl10 w669 x1_1 n_2 fun n673=>
 zt12 104 #[iV 0] w669 fun n676 n677 x678 w675=>
 Sub w669 w675∧
 zt12 101 #[pt a_0,.agg #[x1_0.val,x1_1.val],x1.val,iV n673,iV 4] w675 fun n681 n682 x683 w680=>
 bS 84 3 #[(0,(.agg #[iV n676,iV n677,x678.val])),(1,(.agg #[iV n681,iV n682,x683.val])),(2,(.agg #[iV n670,iV n671,x672.val]))] w680 fun x686 w685=>
 zt12 102 #[iV 8,iV 3,x686.val] w685 fun n689 n690 x691 w688=>
 Q (.agg #[iV n689,iV n690,x691.val]) w688)∧
 ((decide (n647=3))=false→
 IxOk x1_1 n_2∧
 zl10 w643 x1_1 n_2 fun n692=>
 zt12 104 #[iV 0] w643 fun n695 n696 x697 w694=>
 Sub w643 w694∧
 zt12 101 #[pt a_0,.agg #[x1_0.val,x1_1.val],x1.val,iV n692,iV 4] w694 fun n700 n701 x702 w699=>
 bS 84 3 #[(0,(.agg #[iV n695,iV n696,x697.val])),(1,(.agg #[iV n700,iV n701,x702.val])),(2,(.agg #[iV n644,iV n645,x646.val]))] w699 fun x705 w704=>
 zt12 102 #[iV 8,iV 3,x705.val] w704 fun n708 n709 x710 w707=>
 Q (.agg #[iV n708,iV n709,x710.val]) w707))
theorem of78 (a_0:Addr) (x1_0 x1_1:Sl) (n_2:Int) (v:World) (Q:QT) (h:vc78 a_0 x1_0 x1_1 n_2 v Q):Tr 78 #[pt a_0,.agg #[x1_0.val,x1_1.val],iV n_2] v Q:=
 trip_of_eq (args:=[.pt a_0 0,.ag [.sl x1_0,.sl x1_1],.num .i64 n_2]) (A:=⟨[(6,[(9,.sl),(10,.sl),(11,.int .i64)],[])],[],[(12,[4,5,12]),(14,[4,5]),(15,[0])],[],psG⟩) Tryz.func78 (by kernel_rfl) (by kernel_rfl) (by kernel_rfl) h
def vc79 (a_0:Addr) (x1_0 x1_1:Sl) (n_2:Int) (v:World) (Q:QT):Prop:=
 IxOk x1_1 n_2∧
 zl9 v x1_1 n_2 fun x1=>
 zt12 104 #[iV 0] v fun n4 n5 x6 w3=>
 zt12 75 #[iV 1] w3 fun n9 n10 x11 w8=>
 bS 84 2 #[(0,(.agg #[iV n4,iV n5,x6.val])),(1,(.agg #[iV n9,iV n10,x11.val]))] w8 fun x14 w13=>
 zt12 102 #[iV 2,iV 0,x14.val] w13 fun n17 n18 x19 w16=>
 bS 84 1 #[(0,(.agg #[iV n17,iV n18,x19.val]))] w16 fun x22 w21=>
 ∃ I23:zI4,∃ m24:zN4,I23 x22 1 w21∧
 ∀ x25 n26 w27,I23 x25 n26 w27→
 ((decide (n26 < (x1.n:Int)))=true→
 IxOk x1 n26∧
 zl6 w27 x1 n26 fun n28=>
 zt12 105 #[pt a_0,.agg #[x1_0.val,x1_1.val],x1.val,iV n28] w27 fun n31 n32 x33 w30=>
 bS 84 1 #[(0,(.agg #[iV n31,iV n32,x33.val]))] w30 fun x36 w35=>
 aS 84 x25 x36 w35 fun x39 w38=>
 ∃ n40,Wr .i64 (n26+1) n40∧
 zq9 x1_0 x1_1 0 0 (Sl.mk none 0 0) fun _=>
 I23 x39 n40 w38∧
 m24 x39 n40 w38 < m24 x25 n26 w27)∧
 ((decide (n26 < (x1.n:Int)))=false→
 zt12 102 #[iV 9,iV n_2,x25.val] w27 fun n43 n44 x45 w42=>
 IxOk x1_1 n_2∧
 zl10 w42 x1_1 n_2 fun n46=>
 ((decide (n46=1))=true→
 zt12 101 #[pt a_0,.agg #[x1_0.val,x1_1.val],x1.val,iV 0,iV 3] w42 fun n49 n50 x51 w48=>
 bS 84 2 #[(0,(.agg #[iV n49,iV n50,x51.val])),(1,(.agg #[iV n43,iV n44,x45.val]))] w48 fun x54 w53=>
 zt12 102 #[iV 6,iV 1,x54.val] w53 fun n57 n58 x59 w56=>
 zt12 75 #[iV 0] w56 fun n62 n63 x64 w61=>
 zt12 104 #[iV 0] w61 fun n67 n68 x69 w66=>
 bS 84 2 #[(0,(.agg #[iV n62,iV n63,x64.val])),(1,(.agg #[iV n67,iV n68,x69.val]))] w66 fun x72 w71=>
 zt12 102 #[iV 4,iV 0,x72.val] w71 fun n75 n76 x77 w74=>
 IxOk x1_1 n_2∧
 zl10 w74 x1_1 n_2 fun n78=>
 zt12 101 #[pt a_0,.agg #[x1_0.val,x1_1.val],x1.val,iV n78,iV 4] w74 fun n81 n82 x83 w80=>
 bS 84 3 #[(0,(.agg #[iV n75,iV n76,x77.val])),(1,(.agg #[iV n57,iV n58,x59.val])),(2,(.agg #[iV n81,iV n82,x83.val]))] w80 fun x86 w85=>
 zt12 102 #[iV 7,iV 0,x86.val] w85 fun n89 n90 x91 w88=>
 Q (.agg #[iV n89,iV n90,x91.val]) w88)∧
 ((decide (n46=1))=false→
 zt12 75 #[iV 0] w42 fun n94 n95 x96 w93=>
 zt12 104 #[iV 0] w93 fun n99 n100 x101 w98=>
 bS 84 2 #[(0,(.agg #[iV n94,iV n95,x96.val])),(1,(.agg #[iV n99,iV n100,x101.val]))] w98 fun x104 w103=>
 zt12 102 #[iV 4,iV 0,x104.val] w103 fun n107 n108 x109 w106=>
 IxOk x1_1 n_2∧
 zl10 w106 x1_1 n_2 fun n110=>
 zt12 101 #[pt a_0,.agg #[x1_0.val,x1_1.val],x1.val,iV n110,iV 4] w106 fun n113 n114 x115 w112=>
 bS 84 3 #[(0,(.agg #[iV n107,iV n108,x109.val])),(1,(.agg #[iV n43,iV n44,x45.val])),(2,(.agg #[iV n113,iV n114,x115.val]))] w112 fun x118 w117=>
 zt12 102 #[iV 7,iV 0,x118.val] w117 fun n121 n122 x123 w120=>
 Q (.agg #[iV n121,iV n122,x123.val]) w120))
theorem of79 (a_0:Addr) (x1_0 x1_1:Sl) (n_2:Int) (v:World) (Q:QT) (h:vc79 a_0 x1_0 x1_1 n_2 v Q):Tr 79 #[pt a_0,.agg #[x1_0.val,x1_1.val],iV n_2] v Q:=
 trip_of_eq (args:=[.pt a_0 0,.ag [.sl x1_0,.sl x1_1],.num .i64 n_2]) (A:=⟨[(4,[(8,.sl),(9,.int .i64)],[])],[],[(6,[]),(9,[]),(11,[])],[],psG⟩) Tryz.func79 (by kernel_rfl) (by kernel_rfl) (by kernel_rfl) h
end Go.Vc
