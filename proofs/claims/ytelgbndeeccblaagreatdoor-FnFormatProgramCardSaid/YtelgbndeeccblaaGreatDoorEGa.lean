/- Part of the proofs about the heaps and memories: a law is joined in the text whose name ends in W and the law. -/
import Derived.Test.YtelgbndeeccblaaGreatDoorEVcFn
import Derived.Test.YtelgbndeeccblaaGreatDoorProg
import Derived.KernelRfl
set_option linter.all false
namespace Go.Vc
open Go Go.Proofs
abbrev ldF (w:World) (x:Sl) (i:Int) (K:Sl→Int→Int→Int→Sl→Prop):Prop:=∃ f:Sl,∃ a:Int,∃ b:Int,∃ c:Int,∃ k:Sl,(w.cell? ((elA x i 5).add 0)=some (f.val)∧w.cell? ((elA x i 5).add 1)=some (.int .i64 a)∧w.cell? ((elA x i 5).add 2)=some (.int .i64 b)∧w.cell? ((elA x i 5).add 3)=some (.int .i64 c)∧w.cell? ((elA x i 5).add 4)=some (k.val))∧K f a b c k
abbrev ldT (w:World) (x:Sl) (i:Int) (K:Int→Int→Sl→Prop):Prop:=∃ a:Int,∃ b:Int,∃ k:Sl,(w.cell? ((elA x i 3).add 0)=some (.int .i64 a)∧w.cell? ((elA x i 3).add 1)=some (.int .i64 b)∧w.cell? ((elA x i 3).add 2)=some (k.val))∧K a b k
abbrev eqS (x:SV):Prop:=x=x
abbrev QT:=Value→World→Prop
abbrev tE (f:Nat) (l:Array Value) (w:World) (K:Int→Int→Sl→World→Prop):Prop:=Trip Tryz.prog f l w fun r w'=>∃ n:Int,∃ m:Int,∃ x:Sl,r=.agg #[.int .i64 n,.int .i64 m,x.val]∧K n m x w'
abbrev tI (f:Nat) (l:Array Value) (w:World) (K:Int→World→Prop):Prop:=Trip Tryz.prog f l w fun r w'=>∃ n:Int,r=.int .i64 n∧K n w'
abbrev tS (f:Nat) (l:Array Value) (w:World) (K:Sl→World→Prop):Prop:=Trip Tryz.prog f l w fun r w'=>∃ x:Sl,r=x.val∧K x w'
abbrev bS (t n:Nat) (l:Array (Nat×Value)) (w:World) (K:Sl→World→Prop):Prop:=StepT Tryz.prog (Instr.buildSlice t n l) w fun r w'=>∃ x:Sl,r=x.val∧(K x w')
abbrev psG:List Nat:=[10,11,13,14,18,20,21,23,26,28,30,31,32,33,34,38,39,41,42,43,48,51,52,56,57,58,66,67,69,70,71,72,73,74,75,76,77,83,84,85,99,100,100,101,104,105,106,107,108,109,112,113,115,122,123,127,128,129,130,131,132,133,134,137,138,139,146,147,148,158,160,163,169,170,173,174,175,176,177,178,181,189,190,213,214,215,216,217,243,254]
abbrev aG:Ann:=⟨[],[],[],[],psG⟩
def vc8 (x_0:Sl) (v:World) (Q:QT):Prop:=
 ((decide ((x_0.n:Int) > 1048576))=true→
 Q (.bool true) v)∧
 ((decide ((x_0.n:Int) > 1048576))=false→
 Trip Tryz.prog 27 #[x_0.val] v fun r1 w2=>
 ∃ x3:Sl,∃ x4:Sl,r1=.agg #[x3.val,x4.val]∧
 ∃ s5:ByteArray,(Trip Tryz.prog 13 #[.agg #[x3.val,x4.val]] w2 fun r6 w7=>r6=.string s5∧Sub w2 w7)∧
 ∃ s8:ByteArray,(Trip Tryz.prog 11 #[.agg #[x3.val,x4.val]] w2 fun r9 w10=>r9=.string s8∧Sub w2 w10)∧
 (((!(s5.toList == s8.toList)) || (s5.toList == (ByteArray.mk #[]).toList))=true→
 ∃ s11:ByteArray,(Trip Tryz.prog 11 #[.agg #[x3.val,x4.val]] w2 fun r12 w13=>r12=.string s11∧Sub w2 w13)∧
 Q (.bool (s5.toList == s11.toList)) w2)∧
 (((!(s5.toList == s8.toList)) || (s5.toList == (ByteArray.mk #[]).toList))=false→
 Trip Tryz.prog 16 #[.string s5] w2 fun r14 w15=>
 ∃ x16:Sl,∃ x17:Sl,∃ q18:Bool,r14=.tuple #[.agg #[x16.val,x17.val],.bool q18]∧
 ∃ q19:Bool,(q18=true→
 (Trip Tryz.prog 28 #[.agg #[x16.val,x17.val],.agg #[x3.val,x4.val]] w15 fun r20 w21=>r20=.bool q19∧Sub w15 w21))∧
 Q (.bool (q18 && q19)) w15))
theorem of8 (x_0:Sl) (v:World) (Q:QT) (h:vc8 x_0 v Q):Trip Tryz.prog 8 #[x_0.val] v Q:=
 trip_of_eq (args:=[.sl x_0]) (A:=aG) Tryz.func8 (by kernel_rfl) (by kernel_rfl) (by kernel_rfl:vc8 x_0 v Q=_) h
def vc11 (x0_0:Sl) (x0_1:Sl) (v:World) (Q:QT):Prop:=
 ∃ q1:Bool,(Trip Tryz.prog 33 #[.agg #[x0_0.val,x0_1.val]] v fun r2 w3=>r2=.bool q1∧Sub v w3)∧
 ((!q1)=true→
 Q (.string (ByteArray.mk #[])) v)∧
 ((!q1)=false→
 ∃ s4:ByteArray,(Trip Tryz.prog 34 #[.agg #[x0_0.val,x0_1.val]] v fun r5 w6=>r5=.string s4∧Sub v w6)∧
 Q (.string s4) v)
theorem of11 (x0_0:Sl) (x0_1:Sl) (v:World) (Q:QT) (h:vc11 x0_0 x0_1 v Q):Trip Tryz.prog 11 #[.agg #[x0_0.val,x0_1.val]] v Q:=
 trip_of_eq (args:=[.ag [.sl x0_0,.sl x0_1]]) (A:=aG) Tryz.func11 (by kernel_rfl) (by kernel_rfl) (by kernel_rfl:vc11 x0_0 x0_1 v Q=_) h
def vc13 (x0_0:Sl) (x0_1:Sl) (v:World) (Q:QT):Prop:=
 ∃ q1:Bool,(Trip Tryz.prog 30 #[.agg #[x0_0.val,x0_1.val]] v fun r2 w3=>r2=.bool q1∧Sub v w3)∧
 ((!q1)=true→
 Q (.string (ByteArray.mk #[])) v)∧
 ((!q1)=false→
 NewAt v (.cells #[(Vl.mk (Value.pointer none) rfl).x,.slice none 0 0] 59 (0,0)) fun a4 w5=>
 ∃ I6:Int→World→Prop,∃ m7:Int→World→Nat,I6 0 w5∧
 ∀ n8:Int,∀ w9:World,I6 n8 w9→
 ((decide (n8 < (x0_0.n:Int)))=true→
 IxOk x0_0 n8∧
 ldT w9 x0_0 n8 fun n10 n11 x12=>
 ((decide ((x12.n:Int)=0))=true→
 ∃ s13:ByteArray,(Trip Tryz.prog 38 #[.int .i64 n10] w9 fun r14 w15=>r14=.string s13∧Sub w9 w15)∧
 (((ByteArray.mk #[97,114,114,111,119,32]).size+s13.size:Nat):Int)≤9223372036854775807∧
 ((((ByteArray.mk #[97,114,114,111,119,32])++s13).size+(ByteArray.mk #[32]).size:Nat):Int)≤9223372036854775807∧
 ∃ s16:ByteArray,(Trip Tryz.prog 38 #[.int .i64 n11] w9 fun r17 w18=>r17=.string s16∧Sub w9 w18)∧
 (((((ByteArray.mk #[97,114,114,111,119,32])++s13)++(ByteArray.mk #[32])).size+s16.size:Nat):Int)≤9223372036854775807∧
 ((((((ByteArray.mk #[97,114,114,111,119,32])++s13)++(ByteArray.mk #[32]))++s16).size+(ByteArray.mk #[10]).size:Nat):Int)≤9223372036854775807∧
 Trip Tryz.prog 37 #[.pointer (some (a4.add 0)),.string (((((ByteArray.mk #[97,114,114,111,119,32])++s13)++(ByteArray.mk #[32]))++s16)++(ByteArray.mk #[10]))] w9 fun r19 w20=>
 ∃ n21:Int,∃ y22:Vl,r19=.tuple #[.int .i64 n21,y22.x]∧
 ∃ n23:Int,Wr .i64 (n8+1) n23∧
 eqS (.sl x0_0)∧
 eqS (.sl x0_1)∧
 I6 n23 w20∧
 m7 n23 w20 < m7 n8 w9)∧
 ((decide ((x12.n:Int)=0))=false→
 Trip Tryz.prog 37 #[.pointer (some (a4.add 0)),.string (ByteArray.mk #[100,97,116,97])] w9 fun r24 w25=>
 ∃ n26:Int,∃ y27:Vl,r24=.tuple #[.int .i64 n26,y27.x]∧
 ∃ I28:Int→World→Prop,∃ m29:Int→World→Nat,I28 0 w25∧
 ∀ n30:Int,∀ w31:World,I28 n30 w31→
 ((decide (n30 < (x12.n:Int)))=true→
 IxOk x12 n30∧
 ∃ x32:Sl,w31.cell? ((elA x12 n30 1).add 0)=some (x32.val)∧
 ∃ s33:ByteArray,(Trip Tryz.prog 39 #[x32.val] w31 fun r34 w35=>r34=.string s33∧Sub w31 w35)∧
 (((ByteArray.mk #[32]).size+s33.size:Nat):Int)≤9223372036854775807∧
 Trip Tryz.prog 37 #[.pointer (some (a4.add 0)),.string ((ByteArray.mk #[32])++s33)] w31 fun r36 w37=>
 ∃ n38:Int,∃ y39:Vl,r36=.tuple #[.int .i64 n38,y39.x]∧
 ∃ n40:Int,Wr .i64 (n30+1) n40∧
 eqS (.sl x0_0)∧
 eqS (.sl x0_1)∧
 eqS (.num .i64 n10)∧
 eqS (.num .i64 n11)∧
 eqS (.sl x12)∧
 I28 n40 w37∧
 m29 n40 w37 < m29 n30 w31)∧
 ((decide (n30 < (x12.n:Int)))=false→
 Trip Tryz.prog 37 #[.pointer (some (a4.add 0)),.string (ByteArray.mk #[10])] w31 fun r41 w42=>
 ∃ n43:Int,∃ y44:Vl,r41=.tuple #[.int .i64 n43,y44.x]∧
 ∃ n45:Int,Wr .i64 (n8+1) n45∧
 eqS (.sl x0_0)∧
 eqS (.sl x0_1)∧
 I6 n45 w42∧
 m7 n45 w42 < m7 n8 w9)))∧
 ((decide (n8 < (x0_0.n:Int)))=false→
 ∃ I46:Int→World→Prop,∃ m47:Int→World→Nat,I46 0 w9∧
 ∀ n48:Int,∀ w49:World,I46 n48 w49→
 ((decide (n48 < (x0_1.n:Int)))=true→
 IxOk x0_1 n48∧
 ldF w49 x0_1 n48 fun x50 n51 n52 n53 x54=>
 ∃ s55:ByteArray,(Trip Tryz.prog 39 #[x50.val] w49 fun r56 w57=>r56=.string s55∧Sub w49 w57)∧
 (((ByteArray.mk #[102,117,110,32]).size+s55.size:Nat):Int)≤9223372036854775807∧
 ((((ByteArray.mk #[102,117,110,32])++s55).size+(ByteArray.mk #[32]).size:Nat):Int)≤9223372036854775807∧
 ∃ s58:ByteArray,(Trip Tryz.prog 38 #[.int .i64 n51] w49 fun r59 w60=>r59=.string s58∧Sub w49 w60)∧
 (((((ByteArray.mk #[102,117,110,32])++s55)++(ByteArray.mk #[32])).size+s58.size:Nat):Int)≤9223372036854775807∧
 ((((((ByteArray.mk #[102,117,110,32])++s55)++(ByteArray.mk #[32]))++s58).size+(ByteArray.mk #[32]).size:Nat):Int)≤9223372036854775807∧
 ∃ s61:ByteArray,(Trip Tryz.prog 20 #[.agg #[.int .i64 n52,.int .i64 n53,x54.val]] w49 fun r62 w63=>r62=.string s61∧Sub w49 w63)∧
 (((((((ByteArray.mk #[102,117,110,32])++s55)++(ByteArray.mk #[32]))++s58)++(ByteArray.mk #[32])).size+s61.size:Nat):Int)≤9223372036854775807∧
 ((((((((ByteArray.mk #[102,117,110,32])++s55)++(ByteArray.mk #[32]))++s58)++(ByteArray.mk #[32]))++s61).size+(ByteArray.mk #[10]).size:Nat):Int)≤9223372036854775807∧
 Trip Tryz.prog 37 #[.pointer (some (a4.add 0)),.string (((((((ByteArray.mk #[102,117,110,32])++s55)++(ByteArray.mk #[32]))++s58)++(ByteArray.mk #[32]))++s61)++(ByteArray.mk #[10]))] w49 fun r64 w65=>
 ∃ n66:Int,∃ y67:Vl,r64=.tuple #[.int .i64 n66,y67.x]∧
 ∃ n68:Int,Wr .i64 (n48+1) n68∧
 eqS (.sl x0_0)∧
 eqS (.sl x0_1)∧
 I46 n68 w65∧
 m47 n68 w65 < m47 n48 w49)∧
 ((decide (n48 < (x0_1.n:Int)))=false→
 Trip Tryz.prog 40 #[.pointer (some (a4.add 0))] w49 fun r69 w70=>
 ∃ s71:ByteArray,r69=.string s71∧
 Q (.string s71) w70)))
theorem of13 (x0_0:Sl) (x0_1:Sl) (v:World) (Q:QT) (h:vc13 x0_0 x0_1 v Q):Trip Tryz.prog 13 #[.agg #[x0_0.val,x0_1.val]] v Q:=
 trip_of_eq (args:=[.ag [.sl x0_0,.sl x0_1]]) (A:=⟨[(5,[(16,.int .i64)],[]),(11,[(39,.int .i64)],[]),(18,[(54,.int .i64)],[])],[],[(8,[]),(20,[])],[3],psG⟩) Tryz.func13 (by kernel_rfl) (by kernel_rfl) (by kernel_rfl:vc13 x0_0 x0_1 v Q=_) h
def vc16 (s_0:ByteArray) (v:World) (Q:QT):Prop:=
 tS 46 #[.string s_0,.string (ByteArray.mk #[10]),.int .i64 10] v fun x3 w2=>
 NewAt w2 (.cells #[.slice none 0 0,.slice none 0 0] 31 (0,0)) fun a4 w5=>
 ∃ I6:Int→World→Prop,∃ m7:Int→World→Nat,I6 0 w5∧
 ∀ n8:Int,∀ w9:World,I6 n8 w9→
 ((decide (n8 < (x3.n:Int)))=true→
 IxOk x3 n8∧
 ∃ s10:ByteArray,w9.cell? ((elA x3 n8 1).add 0)=some (.string s10)∧
 ∃ s11:ByteArray,((!(s10.toList == (ByteArray.mk #[]).toList))=true→
 (Trip Tryz.prog 48 #[.string s10,.string (ByteArray.mk #[10])] w9 fun r12 w13=>r12=.string s11∧Sub w9 w13))∧
 ((!(s10.toList == (ByteArray.mk #[]).toList))=true→
 Trip Tryz.prog 47 #[.pointer (some (a4.add 0)),.string s11] w9 fun r14 w15=>
 ∃ q16:Bool,r14=.bool q16∧
 ((!q16)=true→
 Q (.tuple #[.agg #[.slice none 0 0,.slice none 0 0],.bool false]) w15)∧
 ((!q16)=false→
 ∃ n17:Int,Wr .i64 (n8+1) n17∧
 eqS (.sl (Sl.mk none 0 0))∧
 eqS (.sl (Sl.mk none 0 0))∧
 I6 n17 w15∧
 m7 n17 w15 < m7 n8 w9))∧
 ((!(s10.toList == (ByteArray.mk #[]).toList))=false→
 ∃ n18:Int,Wr .i64 (n8+1) n18∧
 eqS (.sl (Sl.mk none 0 0))∧
 eqS (.sl (Sl.mk none 0 0))∧
 I6 n18 w9∧
 m7 n18 w9 < m7 n8 w9))∧
 ((decide (n8 < (x3.n:Int)))=false→
 ∃ x19:Sl,∃ x20:Sl,(w9.cell? (a4.add 0)=some (x19.val)∧
 w9.cell? (a4.add 1)=some (x20.val))∧
 ∃ s21:ByteArray,(Trip Tryz.prog 13 #[.agg #[x19.val,x20.val]] w9 fun r22 w23=>r22=.string s21∧Sub w9 w23)∧
 (((s21.toList == (ByteArray.mk #[]).toList) || (!(s21.toList == s_0.toList)))=true→
 Q (.tuple #[.agg #[.slice none 0 0,.slice none 0 0],.bool false]) w9)∧
 (((s21.toList == (ByteArray.mk #[]).toList) || (!(s21.toList == s_0.toList)))=false→
 ∃ x24:Sl,∃ x25:Sl,(w9.cell? (a4.add 0)=some (x24.val)∧
 w9.cell? (a4.add 1)=some (x25.val))∧
 Q (.tuple #[.agg #[x24.val,x25.val],.bool true]) w9))
theorem of16 (s_0:ByteArray) (v:World) (Q:QT) (h:vc16 s_0 v Q):Trip Tryz.prog 16 #[.string s_0] v Q:=
 trip_of_eq (args:=[.st s_0]) (A:=⟨[(4,[(13,.int .i64)],[])],[],[],[5],psG⟩) Tryz.func16 (by kernel_rfl) (by kernel_rfl) (by kernel_rfl:vc16 s_0 v Q=_) h
def vc20 (n0_0:Int) (n0_1:Int) (x0_2:Sl) (v:World) (Q:QT):Prop:=
 ∃ n1:Int,(Trip Tryz.prog 26 #[.agg #[.int .i64 n0_0,.int .i64 n0_1,x0_2.val]] v fun r2 w3=>r2=.int .i64 n1∧Sub v w3)∧
 ((decide (n1 < 0))=true→
 Q (.string (ByteArray.mk #[])) v)∧
 ((decide (n1 < 0))=false→
 NewAt v (.cells #[(Vl.mk (Value.pointer none) rfl).x,.slice none 0 0] 59 (0,0)) fun a4 w5=>
 Trip Tryz.prog 55 #[.pointer (some (a4.add 0)),.agg #[.int .i64 n0_0,.int .i64 n0_1,x0_2.val]] w5 fun r6 w7=>
 ∃ q8:Bool,r6=.bool q8∧
 ((!q8)=true→
 Q (.string (ByteArray.mk #[])) w7)∧
 ((!q8)=false→
 Trip Tryz.prog 40 #[.pointer (some (a4.add 0))] w7 fun r9 w10=>
 ∃ s11:ByteArray,r9=.string s11∧
 Q (.string s11) w10))
theorem of20 (n0_0:Int) (n0_1:Int) (x0_2:Sl) (v:World) (Q:QT) (h:vc20 n0_0 n0_1 x0_2 v Q):Trip Tryz.prog 20 #[.agg #[.int .i64 n0_0,.int .i64 n0_1,x0_2.val]] v Q:=
 trip_of_eq (args:=[.ag [.num .i64 n0_0,.num .i64 n0_1,.sl x0_2]]) (A:=⟨[],[],[],[3],psG⟩) Tryz.func20 (by kernel_rfl) (by kernel_rfl) (by kernel_rfl:vc20 n0_0 n0_1 x0_2 v Q=_) h
def vc22 (s_0:ByteArray) (v:World) (Q:QT):Prop:=
 NewAt v (.cells #[.string ByteArray.empty,.int .i64 0] 94 (0,0)) fun a1 w2=>
 StoreAt w2 a1 0 [.string s_0,.int .i64 0] fun w3=>
 Trip Tryz.prog 59 #[.pointer (some (a1.add 0))] w3 fun r4 w5=>
 ∃ n6:Int,∃ n7:Int,∃ x8:Sl,∃ q9:Bool,r4=.tuple #[.agg #[.int .i64 n6,.int .i64 n7,x8.val],.bool q9]∧
 ∃ s10:ByteArray,((!q9)=false→
 (Trip Tryz.prog 20 #[.agg #[.int .i64 n6,.int .i64 n7,x8.val]] w5 fun r11 w12=>r11=.string s10∧Sub w5 w12))∧
 (((!q9) || (!(s10.toList == s_0.toList)))=true→
 Q (.tuple #[.agg #[.int .i64 0,.int .i64 0,.slice none 0 0],.bool false]) w5)∧
 (((!q9) || (!(s10.toList == s_0.toList)))=false→
 Q (.tuple #[.agg #[.int .i64 n6,.int .i64 n7,x8.val],.bool true]) w5)
theorem of22 (s_0:ByteArray) (v:World) (Q:QT) (h:vc22 s_0 v Q):Trip Tryz.prog 22 #[.string s_0] v Q:=
 trip_of_eq (args:=[.st s_0]) (A:=⟨[],[],[],[4],psG⟩) Tryz.func22 (by kernel_rfl) (by kernel_rfl) (by kernel_rfl:vc22 s_0 v Q=_) h
def vc23 (n0_0:Int) (n0_1:Int) (x0_2:Sl) (n1_0:Int) (n1_1:Int) (x1_2:Sl) (v:World) (Q:QT):Prop:=
 ((((!decide (n0_0=n1_0)) || (!decide (n0_1=n1_1))) || (!decide ((x0_2.n:Int)=(x1_2.n:Int))))=true→
 Q (.bool false) v)∧
 ((((!decide (n0_0=n1_0)) || (!decide (n0_1=n1_1))) || (!decide ((x0_2.n:Int)=(x1_2.n:Int))))=false→
 ∃ I1:Int→World→Prop,∃ m2:Int→World→Nat,I1 0 v∧
 ∀ n3:Int,∀ w4:World,I1 n3 w4→
 ((decide (n3 < (x0_2.n:Int)))=true→
 IxOk x0_2 n3∧
 ldT w4 x0_2 n3 fun n5 n6 x7=>
 IxOk x1_2 n3∧
 ldT w4 x1_2 n3 fun n8 n9 x10=>
 ∃ q11:Bool,(Trip Tryz.prog 23 #[.agg #[.int .i64 n5,.int .i64 n6,x7.val],.agg #[.int .i64 n8,.int .i64 n9,x10.val]] w4 fun r12 w13=>r12=.bool q11∧Sub w4 w13)∧
 ((!q11)=true→
 Q (.bool false) w4)∧
 ((!q11)=false→
 ∃ n14:Int,Wr .i64 (n3+1) n14∧
 eqS (.num .i64 n0_0)∧
 eqS (.num .i64 n0_1)∧
 eqS (.sl x0_2)∧
 eqS (.num .i64 n1_0)∧
 eqS (.num .i64 n1_1)∧
 eqS (.sl x1_2)∧
 I1 n14 w4∧
 m2 n14 w4 < m2 n3 w4))∧
 ((decide (n3 < (x0_2.n:Int)))=false→
 Q (.bool true) w4))
theorem of23 (n0_0:Int) (n0_1:Int) (x0_2:Sl) (n1_0:Int) (n1_1:Int) (x1_2:Sl) (v:World) (Q:QT) (h:vc23 n0_0 n0_1 x0_2 n1_0 n1_1 x1_2 v Q):Trip Tryz.prog 23 #[.agg #[.int .i64 n0_0,.int .i64 n0_1,x0_2.val],.agg #[.int .i64 n1_0,.int .i64 n1_1,x1_2.val]] v Q:=
 trip_of_eq (args:=[.ag [.num .i64 n0_0,.num .i64 n0_1,.sl x0_2],.ag [.num .i64 n1_0,.num .i64 n1_1,.sl x1_2]]) (A:=⟨[(4,[(5,.int .i64)],[])],[],[],[],psG⟩) Tryz.func23 (by kernel_rfl) (by kernel_rfl) (by kernel_rfl:vc23 n0_0 n0_1 x0_2 n1_0 n1_1 x1_2 v Q=_) h
def vc26 (n0_0:Int) (n0_1:Int) (x0_2:Sl) (v:World) (Q:QT):Prop:=
 NewAt v (.cells #[.int .i64 0] 3 (0,0)) fun a1 w2=>
 StoreAt w2 a1 0 [.int .i64 0] fun w3=>
 Trip Tryz.prog 64 #[.agg #[.int .i64 n0_0,.int .i64 n0_1,x0_2.val],.pointer (some (a1.add 0))] w3 fun r4 w5=>
 ∃ q6:Bool,r4=.bool q6∧
 ((!q6)=true→
 Q (.int .i64 (-1)) w5)∧
 ((!q6)=false→
 ∃ n7:Int,w5.cell? (a1.add 0)=some (.int .i64 n7)∧
 Q (.int .i64 n7) w5)
theorem of26 (n0_0:Int) (n0_1:Int) (x0_2:Sl) (v:World) (Q:QT) (h:vc26 n0_0 n0_1 x0_2 v Q):Trip Tryz.prog 26 #[.agg #[.int .i64 n0_0,.int .i64 n0_1,x0_2.val]] v Q:=
 trip_of_eq (args:=[.ag [.num .i64 n0_0,.num .i64 n0_1,.sl x0_2]]) (A:=⟨[],[],[],[3],psG⟩) Tryz.func26 (by kernel_rfl) (by kernel_rfl) (by kernel_rfl:vc26 n0_0 n0_1 x0_2 v Q=_) h
def vc27 (x_0:Sl) (v:World) (Q:QT):Prop:=
 Trip Tryz.prog 54 #[x_0.val] v fun r1 w2=>
 ∃ a3:Addr,r1=.pointer (some (a3.add 0))∧
 Trip Tryz.prog 65 #[.pointer (some (a3.add 0))] w2 fun r4 w5=>
 ∃ x6:Sl,∃ x7:Sl,r4=.agg #[x6.val,x7.val]∧
 Q (.agg #[x6.val,x7.val]) w5
theorem of27 (x_0:Sl) (v:World) (Q:QT) (h:vc27 x_0 v Q):Trip Tryz.prog 27 #[x_0.val] v Q:=
 trip_of_eq (args:=[.sl x_0]) (A:=aG) Tryz.func27 (by kernel_rfl) (by kernel_rfl) (by kernel_rfl:vc27 x_0 v Q=_) h
def vc28 (x0_0:Sl) (x0_1:Sl) (x1_0:Sl) (x1_1:Sl) (v:World) (Q:QT):Prop:=
 ∃ q1:Bool,(Trip Tryz.prog 66 #[x0_0.val,x1_0.val] v fun r2 w3=>r2=.bool q1∧Sub v w3)∧
 (((!q1) || (!decide ((x0_1.n:Int)=(x1_1.n:Int))))=true→
 Q (.bool false) v)∧
 (((!q1) || (!decide ((x0_1.n:Int)=(x1_1.n:Int))))=false→
 ∃ I4:Int→World→Prop,∃ m5:Int→World→Nat,I4 0 v∧
 ∀ n6:Int,∀ w7:World,I4 n6 w7→
 ((decide (n6 < (x0_1.n:Int)))=true→
 IxOk x0_1 n6∧
 ∃ x8:Sl,w7.cell? ((elA x0_1 n6 5).add 0)=some (x8.val)∧
 IxOk x1_1 n6∧
 ∃ x9:Sl,w7.cell? ((elA x1_1 n6 5).add 0)=some (x9.val)∧
 ∃ q10:Bool,(Trip Tryz.prog 67 #[x8.val,x9.val] w7 fun r11 w12=>r11=.bool q10∧Sub w7 w12)∧
 ((!q10)=false→
 IxOk x0_1 n6)∧
 ∃ n13:Int,((!q10)=false→
 w7.cell? ((elA x0_1 n6 5).add 1)=some (.int .i64 n13))∧
 ((!q10)=false→
 IxOk x1_1 n6)∧
 ∃ n14:Int,((!q10)=false→
 w7.cell? ((elA x1_1 n6 5).add 1)=some (.int .i64 n14))∧
 (((!q10) || (!decide (n13=n14)))=false→
 IxOk x0_1 n6)∧
 ∃ n15:Int,∃ n16:Int,∃ x17:Sl,(((!q10) || (!decide (n13=n14)))=false→
 w7.cell? ((elA x0_1 n6 5).add 2)=some (.int .i64 n15)∧
 w7.cell? ((elA x0_1 n6 5).add 3)=some (.int .i64 n16)∧
 w7.cell? ((elA x0_1 n6 5).add 4)=some (x17.val))∧
 (((!q10) || (!decide (n13=n14)))=false→
 IxOk x1_1 n6)∧
 ∃ n18:Int,∃ n19:Int,∃ x20:Sl,(((!q10) || (!decide (n13=n14)))=false→
 w7.cell? ((elA x1_1 n6 5).add 2)=some (.int .i64 n18)∧
 w7.cell? ((elA x1_1 n6 5).add 3)=some (.int .i64 n19)∧
 w7.cell? ((elA x1_1 n6 5).add 4)=some (x20.val))∧
 ∃ q21:Bool,(((!q10) || (!decide (n13=n14)))=false→
 (Trip Tryz.prog 23 #[.agg #[.int .i64 n15,.int .i64 n16,x17.val],.agg #[.int .i64 n18,.int .i64 n19,x20.val]] w7 fun r22 w23=>r22=.bool q21∧Sub w7 w23))∧
 ((((!q10) || (!decide (n13=n14))) || (!q21))=true→
 Q (.bool false) w7)∧
 ((((!q10) || (!decide (n13=n14))) || (!q21))=false→
 ∃ n24:Int,Wr .i64 (n6+1) n24∧
 eqS (.sl x0_0)∧
 eqS (.sl x0_1)∧
 eqS (.sl x1_0)∧
 eqS (.sl x1_1)∧
 I4 n24 w7∧
 m5 n24 w7 < m5 n6 w7))∧
 ((decide (n6 < (x0_1.n:Int)))=false→
 Q (.bool true) w7))
theorem of28 (x0_0:Sl) (x0_1:Sl) (x1_0:Sl) (x1_1:Sl) (v:World) (Q:QT) (h:vc28 x0_0 x0_1 x1_0 x1_1 v Q):Trip Tryz.prog 28 #[.agg #[x0_0.val,x0_1.val],.agg #[x1_0.val,x1_1.val]] v Q:=
 trip_of_eq (args:=[.ag [.sl x0_0,.sl x0_1],.ag [.sl x1_0,.sl x1_1]]) (A:=⟨[(4,[(5,.int .i64)],[])],[],[],[],psG⟩) Tryz.func28 (by kernel_rfl) (by kernel_rfl) (by kernel_rfl:vc28 x0_0 x0_1 x1_0 x1_1 v Q=_) h
def vc30 (x0_0:Sl) (x0_1:Sl) (v:World) (Q:QT):Prop:=
 ∃ q1:Bool,(Trip Tryz.prog 69 #[.agg #[x0_0.val,x0_1.val]] v fun r2 w3=>r2=.bool q1∧Sub v w3)∧
 ((!q1)=true→
 Q (.bool false) v)∧
 ((!q1)=false→
 ∃ I4:Int→World→Prop,∃ m5:Int→World→Nat,I4 0 v∧
 ∀ n6:Int,∀ w7:World,I4 n6 w7→
 ((decide (n6 < (x0_1.n:Int)))=true→
 IxOk x0_1 n6∧
 ldF w7 x0_1 n6 fun x8 n9 n10 n11 x12=>
 ∃ n13:Int,(Trip Tryz.prog 70 #[.agg #[x0_0.val,x0_1.val],x8.val,.agg #[.int .i64 n10,.int .i64 n11,x12.val]] w7 fun r14 w15=>r14=.int .i64 n13∧Sub w7 w15)∧
 ((!decide (n13=n9))=true→
 Q (.bool false) w7)∧
 ((!decide (n13=n9))=false→
 ∃ n16:Int,Wr .i64 (n6+1) n16∧
 eqS (.sl x0_0)∧
 eqS (.sl x0_1)∧
 I4 n16 w7∧
 m5 n16 w7 < m5 n6 w7))∧
 ((decide (n6 < (x0_1.n:Int)))=false→
 Q (.bool true) w7))
theorem of30 (x0_0:Sl) (x0_1:Sl) (v:World) (Q:QT) (h:vc30 x0_0 x0_1 v Q):Trip Tryz.prog 30 #[.agg #[x0_0.val,x0_1.val]] v Q:=
 trip_of_eq (args:=[.ag [.sl x0_0,.sl x0_1]]) (A:=⟨[(4,[(11,.int .i64)],[])],[],[],[],psG⟩) Tryz.func30 (by kernel_rfl) (by kernel_rfl) (by kernel_rfl:vc30 x0_0 x0_1 v Q=_) h
def vc33 (x0_0:Sl) (x0_1:Sl) (v:World) (Q:QT):Prop:=
 ∃ q1:Bool,(Trip Tryz.prog 73 #[.agg #[x0_0.val,x0_1.val]] v fun r2 w3=>r2=.bool q1∧Sub v w3)∧
 ((!q1)=true→
 Q (.bool false) v)∧
 ((!q1)=false→
 ∃ I4:Int→World→Prop,∃ m5:Int→World→Nat,I4 0 v∧
 ∀ n6:Int,∀ w7:World,I4 n6 w7→
 ((decide (n6 < (x0_1.n:Int)))=true→
 IxOk x0_1 n6∧
 ∃ n8:Int,∃ n9:Int,∃ x10:Sl,(w7.cell? ((elA x0_1 n6 5).add 2)=some (.int .i64 n8)∧
 w7.cell? ((elA x0_1 n6 5).add 3)=some (.int .i64 n9)∧
 w7.cell? ((elA x0_1 n6 5).add 4)=some (x10.val))∧
 ∃ n11:Int,(Trip Tryz.prog 56 #[.agg #[.int .i64 n8,.int .i64 n9,x10.val]] w7 fun r12 w13=>r12=.int .i64 n11∧Sub w7 w13)∧
 ((decide (n11 < 0))=false→
 IxOk x0_1 n6)∧
 ∃ x14:Sl,((decide (n11 < 0))=false→
 w7.cell? ((elA x0_1 n6 5).add 0)=some (x14.val))∧
 ((decide (n11 < 0))=false→
 IxOk x0_1 n6)∧
 ∃ n15:Int,∃ n16:Int,∃ x17:Sl,((decide (n11 < 0))=false→
 w7.cell? ((elA x0_1 n6 5).add 2)=some (.int .i64 n15)∧
 w7.cell? ((elA x0_1 n6 5).add 3)=some (.int .i64 n16)∧
 w7.cell? ((elA x0_1 n6 5).add 4)=some (x17.val))∧
 ∃ n18:Int,((decide (n11 < 0))=false→
 (Trip Tryz.prog 74 #[.agg #[x0_0.val,x0_1.val],x14.val,.agg #[.int .i64 n15,.int .i64 n16,x17.val]] w7 fun r19 w20=>r19=.int .i64 n18∧Sub w7 w20))∧
 ((decide (n11 < 0))=false→
 IxOk x0_1 n6)∧
 ∃ n21:Int,((decide (n11 < 0))=false→
 w7.cell? ((elA x0_1 n6 5).add 1)=some (.int .i64 n21))∧
 (((decide (n11 < 0)) || (!decide (n18=n21)))=true→
 Q (.bool false) w7)∧
 (((decide (n11 < 0)) || (!decide (n18=n21)))=false→
 ∃ n22:Int,Wr .i64 (n6+1) n22∧
 eqS (.sl x0_0)∧
 eqS (.sl x0_1)∧
 I4 n22 w7∧
 m5 n22 w7 < m5 n6 w7))∧
 ((decide (n6 < (x0_1.n:Int)))=false→
 Q (.bool true) w7))
theorem of33 (x0_0:Sl) (x0_1:Sl) (v:World) (Q:QT) (h:vc33 x0_0 x0_1 v Q):Trip Tryz.prog 33 #[.agg #[x0_0.val,x0_1.val]] v Q:=
 trip_of_eq (args:=[.ag [.sl x0_0,.sl x0_1]]) (A:=⟨[(4,[(3,.int .i64)],[])],[],[],[],psG⟩) Tryz.func33 (by kernel_rfl) (by kernel_rfl) (by kernel_rfl:vc33 x0_0 x0_1 v Q=_) h
def vc34 (x0_0:Sl) (x0_1:Sl) (v:World) (Q:QT):Prop:=
 ∃ I1:ByteArray→Int→World→Prop,∃ m2:ByteArray→Int→World→Nat,I1 (ByteArray.mk #[]) 0 v∧
 ∀ s3:ByteArray,∀ n4:Int,∀ w5:World,I1 s3 n4 w5→
 ((decide (n4 < (x0_0.n:Int)))=true→
 IxOk x0_0 n4∧
 ldT w5 x0_0 n4 fun n6 n7 x8=>
 ∃ s9:ByteArray,(Trip Tryz.prog 75 #[.agg #[.int .i64 n6,.int .i64 n7,x8.val]] w5 fun r10 w11=>r10=.string s9∧Sub w5 w11)∧
 ((s3.size+s9.size:Nat):Int)≤9223372036854775807∧
 ∃ n12:Int,Wr .i64 (n4+1) n12∧
 eqS (.sl x0_0)∧
 eqS (.sl x0_1)∧
 I1 (s3++s9) n12 w5∧
 m2 (s3++s9) n12 w5 < m2 s3 n4 w5)∧
 ((decide (n4 < (x0_0.n:Int)))=false→
 ∃ I13:ByteArray→Int→World→Prop,∃ m14:ByteArray→Int→World→Nat,I13 s3 0 w5∧
 ∀ s15:ByteArray,∀ n16:Int,∀ w17:World,I13 s15 n16 w17→
 ((decide (n16 < (x0_1.n:Int)))=true→
 IxOk x0_1 n16∧
 ldF w17 x0_1 n16 fun x18 n19 n20 n21 x22=>
 ((s15.size+(ByteArray.mk #[102,117,110,32]).size:Nat):Int)≤9223372036854775807∧
 ∃ s23:ByteArray,(Trip Tryz.prog 76 #[x18.val] w17 fun r24 w25=>r24=.string s23∧Sub w17 w25)∧
 (((s15++(ByteArray.mk #[102,117,110,32])).size+s23.size:Nat):Int)≤9223372036854775807∧
 ((((s15++(ByteArray.mk #[102,117,110,32]))++s23).size+(ByteArray.mk #[32]).size:Nat):Int)≤9223372036854775807∧
 ∃ s26:ByteArray,(Trip Tryz.prog 77 #[.int .i64 n19] w17 fun r27 w28=>r27=.string s26∧Sub w17 w28)∧
 (((((s15++(ByteArray.mk #[102,117,110,32]))++s23)++(ByteArray.mk #[32])).size+s26.size:Nat):Int)≤9223372036854775807∧
 ((((((s15++(ByteArray.mk #[102,117,110,32]))++s23)++(ByteArray.mk #[32]))++s26).size+(ByteArray.mk #[32]).size:Nat):Int)≤9223372036854775807∧
 ∃ s29:ByteArray,(Trip Tryz.prog 58 #[.agg #[.int .i64 n20,.int .i64 n21,x22.val]] w17 fun r30 w31=>r30=.string s29∧Sub w17 w31)∧
 (((((((s15++(ByteArray.mk #[102,117,110,32]))++s23)++(ByteArray.mk #[32]))++s26)++(ByteArray.mk #[32])).size+s29.size:Nat):Int)≤9223372036854775807∧
 ((((((((s15++(ByteArray.mk #[102,117,110,32]))++s23)++(ByteArray.mk #[32]))++s26)++(ByteArray.mk #[32]))++s29).size+(ByteArray.mk #[10]).size:Nat):Int)≤9223372036854775807∧
 ∃ n32:Int,Wr .i64 (n16+1) n32∧
 eqS (.sl x0_0)∧
 eqS (.sl x0_1)∧
 I13 (((((((s15++(ByteArray.mk #[102,117,110,32]))++s23)++(ByteArray.mk #[32]))++s26)++(ByteArray.mk #[32]))++s29)++(ByteArray.mk #[10])) n32 w17∧
 m14 (((((((s15++(ByteArray.mk #[102,117,110,32]))++s23)++(ByteArray.mk #[32]))++s26)++(ByteArray.mk #[32]))++s29)++(ByteArray.mk #[10])) n32 w17 < m14 s15 n16 w17)∧
 ((decide (n16 < (x0_1.n:Int)))=false→
 Q (.string s15) w17))
theorem of34 (x0_0:Sl) (x0_1:Sl) (v:World) (Q:QT) (h:vc34 x0_0 x0_1 v Q):Trip Tryz.prog 34 #[.agg #[x0_0.val,x0_1.val]] v Q:=
 trip_of_eq (args:=[.ag [.sl x0_0,.sl x0_1]]) (A:=⟨[(3,[(3,.str),(4,.int .i64)],[]),(7,[(3,.str),(5,.int .i64)],[])],[],[],[],psG⟩) Tryz.func34 (by kernel_rfl) (by kernel_rfl) (by kernel_rfl:vc34 x0_0 x0_1 v Q=_) h
def vc39 (x_0:Sl) (v:World) (Q:QT):Prop:=
 StepT Tryz.prog (Instr.makeSlice 83 (.int .i64 0) (.int .i64 (x_0.n:Int))) v fun r1 w2=>
 ∃ x3:Sl,r1=x3.val∧
 ∃ I4:Sl→Int→World→Prop,∃ m5:Sl→Int→World→Nat,I4 x3 0 w2∧
 ∀ x6:Sl,∀ n7:Int,∀ w8:World,I4 x6 n7 w8→
 ((decide (n7 < (x_0.n:Int)))=true→
 IxOk x_0 n7∧
 ∃ n9:Int,w8.cell? ((elA x_0 n7 1).add 0)=some (.int .i64 n9)∧
 ∃ s10:ByteArray,(Trip Tryz.prog 38 #[.int .i64 n9] w8 fun r11 w12=>r11=.string s10∧Sub w8 w12)∧
 bS 83 1 #[(0,(.string s10))] w8 fun x15 w14=>
 StepT Tryz.prog (Builtin.append_ #[83,83] 83 #[(x6.val),(x15.val)]) w14 fun r16 w17=>
 ∃ x18:Sl,r16=x18.val∧
 ∃ n19:Int,Wr .i64 (n7+1) n19∧
 I4 x18 n19 w17∧
 m5 x18 n19 w17 < m5 x6 n7 w8)∧
 ((decide (n7 < (x_0.n:Int)))=false→
 Trip Tryz.prog 82 #[x6.val,.string (ByteArray.mk #[44])] w8 fun r20 w21=>
 ∃ s22:ByteArray,r20=.string s22∧
 (((ByteArray.mk #[40]).size+s22.size:Nat):Int)≤9223372036854775807∧
 ((((ByteArray.mk #[40])++s22).size+(ByteArray.mk #[41]).size:Nat):Int)≤9223372036854775807∧
 Q (.string (((ByteArray.mk #[40])++s22)++(ByteArray.mk #[41]))) w21)
theorem of39 (x_0:Sl) (v:World) (Q:QT) (h:vc39 x_0 v Q):Trip Tryz.prog 39 #[x_0.val] v Q:=
 trip_of_eq (args:=[.sl x_0]) (A:=⟨[(3,[(3,.sl),(11,.int .i64)],[])],[],[],[],psG⟩) Tryz.func39 (by kernel_rfl) (by kernel_rfl) (by kernel_rfl:vc39 x_0 v Q=_) h
def vc47 (a_0:Addr) (s_1:ByteArray) (v:World) (Q:QT):Prop:=
 tS 90 #[.string s_1,.string (ByteArray.mk #[32]),.int .i64 4] v fun x3 w2=>
 IxOk x3 0∧
 ∃ s4:ByteArray,w2.cell? ((elA x3 0 1).add 0)=some (.string s4)∧
 ((s4.toList == (ByteArray.mk #[100,97,116,97]).toList)=true→
 tS 92 #[.string s_1,.string (ByteArray.mk #[32])] w2 fun x7 w6=>
 ((0:Int)≤1∧1≤(x7.n:Int))∧
 Trip Tryz.prog 91 #[.pointer (some (a_0.add 0)),(x7.cut 1 (x7.n:Int) 1).val] w6 fun r8 w9=>
 ∃ q10:Bool,r8=.bool q10∧
 Q (.bool q10) w9)∧
 ((s4.toList == (ByteArray.mk #[100,97,116,97]).toList)=false→
 IxOk x3 0∧
 ∃ s11:ByteArray,w2.cell? ((elA x3 0 1).add 0)=some (.string s11)∧
 (((s11.toList == (ByteArray.mk #[97,114,114,111,119]).toList) && (decide ((x3.n:Int)=3)))=true→
 IxOk x3 1∧
 ∃ s12:ByteArray,w2.cell? ((elA x3 1 1).add 0)=some (.string s12)∧
 Trip Tryz.prog 93 #[.string s12] w2 fun r13 w14=>
 ∃ n15:Int,∃ y16:Vl,r13=.tuple #[.int .i64 n15,y16.x]∧
 IxOk x3 2∧
 ∃ s17:ByteArray,w14.cell? ((elA x3 2 1).add 0)=some (.string s17)∧
 Trip Tryz.prog 93 #[.string s17] w14 fun r18 w19=>
 ∃ n20:Int,∃ y21:Vl,r18=.tuple #[.int .i64 n20,y21.x]∧
 ∃ x22:Sl,w19.cell? (a_0.add 0)=some (x22.val)∧
 bS 28 1 #[(0,(.agg #[.int .i64 n15,.int .i64 n20,.slice none 0 0]))] w19 fun x25 w24=>
 StepT Tryz.prog (Builtin.append_ #[28,28] 28 #[(x22.val),(x25.val)]) w24 fun r26 w27=>
 ∃ x28:Sl,r26=x28.val∧
 StoreAt w27 a_0 0 [x28.val] fun w29=>
 ∃ q30:Bool,PureT Tryz.prog (do eqGuard .eql 64 (.tmp 64) (.const (.nilIface)) (y16.x) ((Vl.mk Value.nilIface rfl).x);binOp .eql 64 (y16.x) ((Vl.mk Value.nilIface rfl).x)) w29 (.bool q30)∧
 ∃ q31:Bool,(q30=true→
 PureT Tryz.prog (do eqGuard .eql 64 (.tmp 67) (.const (.nilIface)) (y21.x) ((Vl.mk Value.nilIface rfl).x);binOp .eql 64 (y21.x) ((Vl.mk Value.nilIface rfl).x)) w29 (.bool q31))∧
 Q (.bool (q30 && q31)) w29)∧
 (((s11.toList == (ByteArray.mk #[97,114,114,111,119]).toList) && (decide ((x3.n:Int)=3)))=false→
 IxOk x3 0∧
 ∃ s32:ByteArray,w2.cell? ((elA x3 0 1).add 0)=some (.string s32)∧
 (((s32.toList == (ByteArray.mk #[102,117,110]).toList) && (decide ((x3.n:Int)=4)))=true→
 IxOk x3 1∧
 ∃ s33:ByteArray,w2.cell? ((elA x3 1 1).add 0)=some (.string s33)∧
 Trip Tryz.prog 94 #[.string s33] w2 fun r34 w35=>
 ∃ x36:Sl,∃ q37:Bool,r34=.tuple #[x36.val,.bool q37]∧
 IxOk x3 2∧
 ∃ s38:ByteArray,w35.cell? ((elA x3 2 1).add 0)=some (.string s38)∧
 Trip Tryz.prog 93 #[.string s38] w35 fun r39 w40=>
 ∃ n41:Int,∃ y42:Vl,r39=.tuple #[.int .i64 n41,y42.x]∧
 IxOk x3 3∧
 ∃ s43:ByteArray,w40.cell? ((elA x3 3 1).add 0)=some (.string s43)∧
 Trip Tryz.prog 22 #[.string s43] w40 fun r44 w45=>
 ∃ n46:Int,∃ n47:Int,∃ x48:Sl,∃ q49:Bool,r44=.tuple #[.agg #[.int .i64 n46,.int .i64 n47,x48.val],.bool q49]∧
 ∃ x50:Sl,w45.cell? (a_0.add 1)=some (x50.val)∧
 bS 29 1 #[(0,(.agg #[x36.val,.int .i64 n41,.int .i64 n46,.int .i64 n47,x48.val]))] w45 fun x53 w52=>
 Sub w45 w52∧
 StepT Tryz.prog (Builtin.append_ #[29,29] 29 #[(x50.val),(x53.val)]) w52 fun r54 w55=>
 ∃ x56:Sl,r54=x56.val∧
 StoreAt w55 a_0 1 [x56.val] fun w57=>
 ∃ q58:Bool,(q37=true→
 PureT Tryz.prog (do eqGuard .eql 64 (.tmp 116) (.const (.nilIface)) (y42.x) ((Vl.mk Value.nilIface rfl).x);binOp .eql 64 (y42.x) ((Vl.mk Value.nilIface rfl).x)) w57 (.bool q58))∧
 Q (.bool ((q37 && q58) && q49)) w57)∧
 (((s32.toList == (ByteArray.mk #[102,117,110]).toList) && (decide ((x3.n:Int)=4)))=false→
 Q (.bool false) w2)))
theorem of47 (a_0:Addr) (s_1:ByteArray) (v:World) (Q:QT) (h:vc47 a_0 s_1 v Q):Trip Tryz.prog 47 #[.pointer (some (a_0.add 0)),.string s_1] v Q:=
 trip_of_eq (args:=[.pt a_0 0,.st s_1]) (A:=⟨[],[],[(13,[9])],[],psG⟩) Tryz.func47 (by kernel_rfl) (by kernel_rfl) (by kernel_rfl:vc47 a_0 s_1 v Q=_) h
def vc54 (x_0:Sl) (v:World) (Q:QT):Prop:=
 ((decide ((x_0.n:Int) > 2000))=true→
 CutOk x_0 0 2000∧
 NewAt v (.cells #[(x_0.cut 0 2000 1).val,.int .i64 0] 137 (0,0)) fun a1 w2=>
 Q (.pointer (some (a1.add 0))) w2)∧
 ((decide ((x_0.n:Int) > 2000))=false→
 NewAt v (.cells #[x_0.val,.int .i64 0] 137 (0,0)) fun a3 w4=>
 Q (.pointer (some (a3.add 0))) w4)
theorem of54 (x_0:Sl) (v:World) (Q:QT) (h:vc54 x_0 v Q):Trip Tryz.prog 54 #[x_0.val] v Q:=
 trip_of_eq (args:=[.sl x_0]) (A:=⟨[],[],[],[10],psG⟩) Tryz.func54 (by kernel_rfl) (by kernel_rfl) (by kernel_rfl:vc54 x_0 v Q=_) h
def vc55 (a_0:Addr) (n1_0:Int) (n1_1:Int) (x1_2:Sl) (v:World) (Q:QT):Prop:=
 ((decide (n1_0=0))=true→
 ∃ s1:ByteArray,(Trip Tryz.prog 38 #[.int .i64 n1_1] v fun r2 w3=>r2=.string s1∧Sub v w3)∧
 Trip Tryz.prog 37 #[.pointer (some (a_0.add 0)),.string s1] v fun r4 w5=>
 ∃ n6:Int,∃ y7:Vl,r4=.tuple #[.int .i64 n6,y7.x]∧
 ∃ q8:Bool,((decide ((x1_2.n:Int)=0))=true→
 (Trip Tryz.prog 104 #[.int .i64 n1_1] w5 fun r9 w10=>r9=.bool q8∧Sub w5 w10))∧
 Q (.bool ((decide ((x1_2.n:Int)=0)) && q8)) w5)∧
 ((decide (n1_0=0))=false→
 ((decide (n1_0=12))=true→
 ∃ s11:ByteArray,(Trip Tryz.prog 38 #[.int .i64 n1_1] v fun r12 w13=>r12=.string s11∧Sub v w13)∧
 (((ByteArray.mk #[118]).size+s11.size:Nat):Int)≤9223372036854775807∧
 Trip Tryz.prog 37 #[.pointer (some (a_0.add 0)),.string ((ByteArray.mk #[118])++s11)] v fun r14 w15=>
 ∃ n16:Int,∃ y17:Vl,r14=.tuple #[.int .i64 n16,y17.x]∧
 Q (.bool ((decide ((x1_2.n:Int)=0)) && ((decide (n1_1≥0)) && (decide (n1_1≤99))))) w15)∧
 ((decide (n1_0=12))=false→
 ∃ s18:ByteArray,∃ q19:Bool,(Trip Tryz.prog 105 #[.int .i64 n1_0] v fun r20 w21=>r20=.tuple #[.string s18,.bool q19]∧Sub v w21)∧
 (((ByteArray.mk #[40]).size+s18.size:Nat):Int)≤9223372036854775807∧
 Trip Tryz.prog 37 #[.pointer (some (a_0.add 0)),.string ((ByteArray.mk #[40])++s18)] v fun r22 w23=>
 ∃ n24:Int,∃ y25:Vl,r22=.tuple #[.int .i64 n24,y25.x]∧
 ((((s18.toList == (ByteArray.mk #[]).toList) || (q19 && (!((decide (n1_1≥0)) && (decide (n1_1≤99)))))) || ((!q19) && (!decide (n1_1=0))))=true→
 Q (.bool false) w23)∧
 ((((s18.toList == (ByteArray.mk #[]).toList) || (q19 && (!((decide (n1_1≥0)) && (decide (n1_1≤99)))))) || ((!q19) && (!decide (n1_1=0))))=false→
 (q19=true→
 ∃ s26:ByteArray,(Trip Tryz.prog 38 #[.int .i64 n1_1] w23 fun r27 w28=>r27=.string s26∧Sub w23 w28)∧
 Trip Tryz.prog 37 #[.pointer (some (a_0.add 0)),.string s26] w23 fun r29 w30=>
 ∃ n31:Int,∃ y32:Vl,r29=.tuple #[.int .i64 n31,y32.x]∧
 ∃ I33:Int→World→Prop,∃ m34:Int→World→Nat,I33 0 w30∧
 ∀ n35:Int,∀ w36:World,I33 n35 w36→
 ((decide (n35 < (x1_2.n:Int)))=true→
 IxOk x1_2 n35∧
 ldT w36 x1_2 n35 fun n37 n38 x39=>
 Trip Tryz.prog 37 #[.pointer (some (a_0.add 0)),.string (ByteArray.mk #[32])] w36 fun r40 w41=>
 ∃ n42:Int,∃ y43:Vl,r40=.tuple #[.int .i64 n42,y43.x]∧
 Trip Tryz.prog 55 #[.pointer (some (a_0.add 0)),.agg #[.int .i64 n37,.int .i64 n38,x39.val]] w41 fun r44 w45=>
 ∃ q46:Bool,r44=.bool q46∧
 ((!q46)=true→
 Q (.bool false) w45)∧
 ((!q46)=false→
 ∃ n47:Int,Wr .i64 (n35+1) n47∧
 eqS (.num .i64 n1_0)∧
 eqS (.num .i64 n1_1)∧
 eqS (.sl x1_2)∧
 I33 n47 w45∧
 m34 n47 w45 < m34 n35 w36))∧
 ((decide (n35 < (x1_2.n:Int)))=false→
 Trip Tryz.prog 37 #[.pointer (some (a_0.add 0)),.string (ByteArray.mk #[41])] w36 fun r48 w49=>
 ∃ n50:Int,∃ y51:Vl,r48=.tuple #[.int .i64 n50,y51.x]∧
 Q (.bool true) w49))∧
 (q19=false→
 ∃ I52:Int→World→Prop,∃ m53:Int→World→Nat,I52 0 w23∧
 ∀ n54:Int,∀ w55:World,I52 n54 w55→
 ((decide (n54 < (x1_2.n:Int)))=true→
 IxOk x1_2 n54∧
 ldT w55 x1_2 n54 fun n56 n57 x58=>
 Trip Tryz.prog 37 #[.pointer (some (a_0.add 0)),.string (ByteArray.mk #[32])] w55 fun r59 w60=>
 ∃ n61:Int,∃ y62:Vl,r59=.tuple #[.int .i64 n61,y62.x]∧
 Trip Tryz.prog 55 #[.pointer (some (a_0.add 0)),.agg #[.int .i64 n56,.int .i64 n57,x58.val]] w60 fun r63 w64=>
 ∃ q65:Bool,r63=.bool q65∧
 ((!q65)=true→
 Q (.bool false) w64)∧
 ((!q65)=false→
 ∃ n66:Int,Wr .i64 (n54+1) n66∧
 eqS (.num .i64 n1_0)∧
 eqS (.num .i64 n1_1)∧
 eqS (.sl x1_2)∧
 I52 n66 w64∧
 m53 n66 w64 < m53 n54 w55))∧
 ((decide (n54 < (x1_2.n:Int)))=false→
 Trip Tryz.prog 37 #[.pointer (some (a_0.add 0)),.string (ByteArray.mk #[41])] w55 fun r67 w68=>
 ∃ n69:Int,∃ y70:Vl,r67=.tuple #[.int .i64 n69,y70.x]∧
 Q (.bool true) w68)))))
theorem of55 (a_0:Addr) (n1_0:Int) (n1_1:Int) (x1_2:Sl) (v:World) (Q:QT) (h:vc55 a_0 n1_0 n1_1 x1_2 v Q):Trip Tryz.prog 55 #[.pointer (some (a_0.add 0)),.agg #[.int .i64 n1_0,.int .i64 n1_1,x1_2.val]] v Q:=
 trip_of_eq (args:=[.pt a_0 0,.ag [.num .i64 n1_0,.num .i64 n1_1,.sl x1_2]]) (A:=⟨[(16,[(90,.int .i64)],[])],[],[],[],psG⟩) Tryz.func55 (by kernel_rfl) (by kernel_rfl) (by kernel_rfl:vc55 a_0 n1_0 n1_1 x1_2 v Q=_) h
def vc56 (n0_0:Int) (n0_1:Int) (x0_2:Sl) (v:World) (Q:QT):Prop:=
 ∃ n1:Int,(Trip Tryz.prog 106 #[.agg #[.int .i64 n0_0,.int .i64 n0_1,x0_2.val],.int .i64 30] v fun r2 w3=>r2=.int .i64 n1∧Sub v w3)∧
 ((decide (n1 < 0))=true→
 Q (.int .i64 (-1)) v)∧
 ((decide (n1 < 0))=false→
 ∃ n4:Int,Wr .i64 (30 - n1) n4∧
 Q (.int .i64 n4) v)
theorem of56 (n0_0:Int) (n0_1:Int) (x0_2:Sl) (v:World) (Q:QT) (h:vc56 n0_0 n0_1 x0_2 v Q):Trip Tryz.prog 56 #[.agg #[.int .i64 n0_0,.int .i64 n0_1,x0_2.val]] v Q:=
 trip_of_eq (args:=[.ag [.num .i64 n0_0,.num .i64 n0_1,.sl x0_2]]) (A:=aG) Tryz.func56 (by kernel_rfl) (by kernel_rfl) (by kernel_rfl:vc56 n0_0 n0_1 x0_2 v Q=_) h
def vc58 (n0_0:Int) (n0_1:Int) (x0_2:Sl) (v:World) (Q:QT):Prop:=
 ((decide (n0_0=0))=true→
 ∃ s1:ByteArray,(Trip Tryz.prog 77 #[.int .i64 n0_1] v fun r2 w3=>r2=.string s1∧Sub v w3)∧
 Q (.string s1) v)∧
 ((decide (n0_0=0))=false→
 ((decide (n0_0=12))=true→
 ∃ s4:ByteArray,(Trip Tryz.prog 77 #[.int .i64 n0_1] v fun r5 w6=>r5=.string s4∧Sub v w6)∧
 (((ByteArray.mk #[118]).size+s4.size:Nat):Int)≤9223372036854775807∧
 Q (.string ((ByteArray.mk #[118])++s4)) v)∧
 ((decide (n0_0=12))=false→
 ∃ s7:ByteArray,(Trip Tryz.prog 109 #[.int .i64 n0_0] v fun r8 w9=>r8=.string s7∧Sub v w9)∧
 (((ByteArray.mk #[40]).size+s7.size:Nat):Int)≤9223372036854775807∧
 ∃ q10:Bool,(Trip Tryz.prog 108 #[.int .i64 n0_0] v fun r11 w12=>r11=.bool q10∧Sub v w12)∧
 (q10=true→
 ∃ s13:ByteArray,(Trip Tryz.prog 77 #[.int .i64 n0_1] v fun r14 w15=>r14=.string s13∧Sub v w15)∧
 ((((ByteArray.mk #[40])++s7).size+s13.size:Nat):Int)≤9223372036854775807∧
 ∃ I16:ByteArray→Int→World→Prop,∃ m17:ByteArray→Int→World→Nat,I16 (((ByteArray.mk #[40])++s7)++s13) 0 v∧
 ∀ s18:ByteArray,∀ n19:Int,∀ w20:World,I16 s18 n19 w20→
 ((decide (n19 < (x0_2.n:Int)))=true→
 ((s18.size+(ByteArray.mk #[32]).size:Nat):Int)≤9223372036854775807∧
 IxOk x0_2 n19∧
 ldT w20 x0_2 n19 fun n21 n22 x23=>
 ∃ s24:ByteArray,(Trip Tryz.prog 58 #[.agg #[.int .i64 n21,.int .i64 n22,x23.val]] w20 fun r25 w26=>r25=.string s24∧Sub w20 w26)∧
 (((s18++(ByteArray.mk #[32])).size+s24.size:Nat):Int)≤9223372036854775807∧
 ∃ n27:Int,Wr .i64 (n19+1) n27∧
 eqS (.num .i64 n0_0)∧
 eqS (.num .i64 n0_1)∧
 eqS (.sl x0_2)∧
 I16 ((s18++(ByteArray.mk #[32]))++s24) n27 w20∧
 m17 ((s18++(ByteArray.mk #[32]))++s24) n27 w20 < m17 s18 n19 w20)∧
 ((decide (n19 < (x0_2.n:Int)))=false→
 ((s18.size+(ByteArray.mk #[41]).size:Nat):Int)≤9223372036854775807∧
 Q (.string (s18++(ByteArray.mk #[41]))) w20))∧
 (q10=false→
 ∃ I28:ByteArray→Int→World→Prop,∃ m29:ByteArray→Int→World→Nat,I28 ((ByteArray.mk #[40])++s7) 0 v∧
 ∀ s30:ByteArray,∀ n31:Int,∀ w32:World,I28 s30 n31 w32→
 ((decide (n31 < (x0_2.n:Int)))=true→
 ((s30.size+(ByteArray.mk #[32]).size:Nat):Int)≤9223372036854775807∧
 IxOk x0_2 n31∧
 ldT w32 x0_2 n31 fun n33 n34 x35=>
 ∃ s36:ByteArray,(Trip Tryz.prog 58 #[.agg #[.int .i64 n33,.int .i64 n34,x35.val]] w32 fun r37 w38=>r37=.string s36∧Sub w32 w38)∧
 (((s30++(ByteArray.mk #[32])).size+s36.size:Nat):Int)≤9223372036854775807∧
 ∃ n39:Int,Wr .i64 (n31+1) n39∧
 eqS (.num .i64 n0_0)∧
 eqS (.num .i64 n0_1)∧
 eqS (.sl x0_2)∧
 I28 ((s30++(ByteArray.mk #[32]))++s36) n39 w32∧
 m29 ((s30++(ByteArray.mk #[32]))++s36) n39 w32 < m29 s30 n31 w32)∧
 ((decide (n31 < (x0_2.n:Int)))=false→
 ((s30.size+(ByteArray.mk #[41]).size:Nat):Int)≤9223372036854775807∧
 Q (.string (s30++(ByteArray.mk #[41]))) w32))))
theorem of58 (n0_0:Int) (n0_1:Int) (x0_2:Sl) (v:World) (Q:QT) (h:vc58 n0_0 n0_1 x0_2 v Q):Trip Tryz.prog 58 #[.agg #[.int .i64 n0_0,.int .i64 n0_1,x0_2.val]] v Q:=
 trip_of_eq (args:=[.ag [.num .i64 n0_0,.num .i64 n0_1,.sl x0_2]]) (A:=⟨[(9,[(3,.str),(4,.int .i64)],[])],[],[],[],psG⟩) Tryz.func58 (by kernel_rfl) (by kernel_rfl) (by kernel_rfl:vc58 n0_0 n0_1 x0_2 v Q=_) h
def vc59 (a_0:Addr) (v:World) (Q:QT):Prop:=
 ∃ n1:Int,v.cell? (a_0.add 1)=some (.int .i64 n1)∧
 ∃ n2:Int,Wr .i64 (n1+1) n2∧
 StoreAt v a_0 1 [.int .i64 n2] fun w3=>
 ∃ n4:Int,w3.cell? (a_0.add 1)=some (.int .i64 n4)∧
 ((decide (n4 > 30))=true→
 Q (.tuple #[.agg #[.int .i64 0,.int .i64 0,.slice none 0 0],.bool false]) w3)∧
 ((decide (n4 > 30))=false→
 Trip Tryz.prog 110 #[.pointer (some (a_0.add 0)),.int .u8 40] w3 fun r5 w6=>
 ∃ q7:Bool,r5=.bool q7∧
 ((!q7)=true→
 Trip Tryz.prog 111 #[.pointer (some (a_0.add 0))] w6 fun r8 w9=>
 ∃ s10:ByteArray,r8=.string s10∧
 ∃ s11:ByteArray,∃ q12:Bool,(Trip Tryz.prog 112 #[.string s10,.string (ByteArray.mk #[118])] w9 fun r13 w14=>r13=.tuple #[.string s11,.bool q12]∧Sub w9 w14)∧
 (q12=true→
 Trip Tryz.prog 93 #[.string s11] w9 fun r15 w16=>
 ∃ n17:Int,∃ y18:Vl,r15=.tuple #[.int .i64 n17,y18.x]∧
 (∃ q19:Bool,PureT Tryz.prog (do eqGuard .eql 64 (.tmp 46) (.const (.nilIface)) (y18.x) ((Vl.mk Value.nilIface rfl).x);binOp .eql 64 (y18.x) ((Vl.mk Value.nilIface rfl).x)) w16 (.bool q19)∧
 Q (.tuple #[.agg #[.int .i64 12,.int .i64 n17,.slice none 0 0],.bool q19]) w16)∧
 ∃ q20:Bool,PureT Tryz.prog (do eqGuard .eql 64 (.tmp 46) (.const (.nilIface)) (y18.x) ((Vl.mk Value.nilIface rfl).x);binOp .eql 64 (y18.x) ((Vl.mk Value.nilIface rfl).x)) w16 (.bool q20)∧
 Q (.tuple #[.agg #[.int .i64 12,.int .i64 n17,.slice none 0 0],.bool q20]) w16)∧
 (q12=false→
 Trip Tryz.prog 93 #[.string s10] w9 fun r21 w22=>
 ∃ n23:Int,∃ y24:Vl,r21=.tuple #[.int .i64 n23,y24.x]∧
 (∃ q25:Bool,PureT Tryz.prog (do eqGuard .eql 64 (.tmp 46) (.const (.nilIface)) (y24.x) ((Vl.mk Value.nilIface rfl).x);binOp .eql 64 (y24.x) ((Vl.mk Value.nilIface rfl).x)) w22 (.bool q25)∧
 Q (.tuple #[.agg #[.int .i64 0,.int .i64 n23,.slice none 0 0],.bool q25]) w22)∧
 ∃ q26:Bool,PureT Tryz.prog (do eqGuard .eql 64 (.tmp 46) (.const (.nilIface)) (y24.x) ((Vl.mk Value.nilIface rfl).x);binOp .eql 64 (y24.x) ((Vl.mk Value.nilIface rfl).x)) w22 (.bool q26)∧
 Q (.tuple #[.agg #[.int .i64 0,.int .i64 n23,.slice none 0 0],.bool q26]) w22))∧
 ((!q7)=false→
 Trip Tryz.prog 111 #[.pointer (some (a_0.add 0))] w6 fun r27 w28=>
 ∃ s29:ByteArray,r27=.string s29∧
 ∃ n30:Int,∃ n31:Int,∃ x32:Sl,∃ q33:Bool,(Trip Tryz.prog 113 #[.string s29] w28 fun r34 w35=>r34=.tuple #[.agg #[.int .i64 n30,.int .i64 n31,x32.val],.bool q33]∧Sub w28 w35)∧
 ∃ I36:Bool→Sl→World→Prop,∃ m37:Bool→Sl→World→Nat,I36 q33 x32 w28∧
 ∀ q38:Bool,∀ x39:Sl,∀ w40:World,I36 q38 x39 w40→
 (q38=true→
 Trip Tryz.prog 110 #[.pointer (some (a_0.add 0)),.int .u8 32] w40 fun r41 w42=>
 ∃ q43:Bool,r41=.bool q43∧
 (q43=true→
 Trip Tryz.prog 59 #[.pointer (some (a_0.add 0))] w42 fun r44 w45=>
 ∃ n46:Int,∃ n47:Int,∃ x48:Sl,∃ q49:Bool,r44=.tuple #[.agg #[.int .i64 n46,.int .i64 n47,x48.val],.bool q49]∧
 bS 40 1 #[(0,(.agg #[.int .i64 n46,.int .i64 n47,x48.val]))] w45 fun x52 w51=>
 StepT Tryz.prog (Builtin.append_ #[40,40] 40 #[(x39.val),(x52.val)]) w51 fun r53 w54=>
 ∃ x55:Sl,r53=x55.val∧
 eqS (.num .i64 0)∧
 eqS (.num .i64 0)∧
 eqS (.sl (Sl.mk none 0 0))∧
 eqS (.num .i64 n30)∧
 eqS (.num .i64 n31)∧
 I36 q49 x55 w54∧
 m37 q49 x55 w54 < m37 q38 x39 w40)∧
 (q43=false→
 (q38=true→
 Trip Tryz.prog 110 #[.pointer (some (a_0.add 0)),.int .u8 41] w42 fun r56 w57=>
 ∃ q58:Bool,r56=.bool q58∧
 Q (.tuple #[.agg #[.int .i64 n30,.int .i64 n31,x39.val],.bool q58]) w57∧
 Q (.tuple #[.agg #[.int .i64 n30,.int .i64 n31,x39.val],.bool q58]) w57)∧
 (q38=false→
 Q (.tuple #[.agg #[.int .i64 n30,.int .i64 n31,x39.val],.bool false]) w42∧
 Q (.tuple #[.agg #[.int .i64 n30,.int .i64 n31,x39.val],.bool false]) w42)))∧
 (q38=false→
 (q38=true→
 Trip Tryz.prog 110 #[.pointer (some (a_0.add 0)),.int .u8 41] w40 fun r59 w60=>
 ∃ q61:Bool,r59=.bool q61∧
 Q (.tuple #[.agg #[.int .i64 n30,.int .i64 n31,x39.val],.bool q61]) w60∧
 Q (.tuple #[.agg #[.int .i64 n30,.int .i64 n31,x39.val],.bool q61]) w60)∧
 (q38=false→
 Q (.tuple #[.agg #[.int .i64 n30,.int .i64 n31,x39.val],.bool false]) w40∧
 Q (.tuple #[.agg #[.int .i64 n30,.int .i64 n31,x39.val],.bool false]) w40))))
theorem of59 (a_0:Addr) (v:World) (Q:QT) (h:vc59 a_0 v Q):Trip Tryz.prog 59 #[.pointer (some (a_0.add 0))] v Q:=
 trip_of_eq (args:=[.pt a_0 0]) (A:=⟨[(13,[(11,.bool)],[(1,2,.sl)])],[],[(11,[]),(17,[])],[],psG⟩) Tryz.func59 (by kernel_rfl) (by kernel_rfl) (by kernel_rfl:vc59 a_0 v Q=_) h
def vc61 (a_0:Addr) (n_1:Int) (v:World) (Q:QT):Prop:=
 ∃ n1:Int,v.cell? (a_0.add 1)=some (.int .i64 n1)∧
 ∃ n2:Int,Wr .i64 (n1+1) n2∧
 StoreAt v a_0 1 [.int .i64 n2] fun w3=>
 ∃ x4:Sl,((decide (n_1 < 1))=false→
 w3.cell? (a_0.add 0)=some (x4.val))∧
 (((decide (n_1 < 1)) || (decide ((x4.n:Int)=0)))=true→
 Q (.int .i64 0) w3)∧
 (((decide (n_1 < 1)) || (decide ((x4.n:Int)=0)))=false→
 ∃ n5:Int,w3.cell? (a_0.add 1)=some (.int .i64 n5)∧
 ∃ n6:Int,Wr .i64 (n5 - 1) n6∧
 ∃ x7:Sl,w3.cell? (a_0.add 0)=some (x7.val)∧
 ((decide (n6 < (x7.n:Int)))=true→
 ∃ x8:Sl,w3.cell? (a_0.add 0)=some (x8.val)∧
 IxOk x8 n6∧
 ∃ n9:Int,w3.cell? ((elA x8 n6 1).add 0)=some (.int .u8 n9)∧
 ∃ n10:Int,Wr .i64 n9 n10∧
 (n_1:Int)≠0∧
 Q (.int .i64 (Int.tmod n10 n_1)) w3)∧
 ((decide (n6 < (x7.n:Int)))=false→
 ∃ x11:Sl,w3.cell? (a_0.add 0)=some (x11.val)∧
 ∃ x12:Sl,w3.cell? (a_0.add 0)=some (x12.val)∧
 ((x12.n:Int):Int)≠0∧
 IxOk x11 (Int.tmod n6 (x12.n:Int))∧
 ∃ n13:Int,w3.cell? ((elA x11 (Int.tmod n6 (x12.n:Int)) 1).add 0)=some (.int .u8 n13)∧
 ∃ n14:Int,Wr .i64 n13 n14∧
 ∃ n15:Int,Wr .i64 (n14 * 131) n15∧
 ∃ x16:Sl,w3.cell? (a_0.add 0)=some (x16.val)∧
 ∃ n17:Int,Wr .i64 (n6 * 7) n17∧
 ∃ n18:Int,Wr .i64 (n17+3) n18∧
 ∃ x19:Sl,w3.cell? (a_0.add 0)=some (x19.val)∧
 ((x19.n:Int):Int)≠0∧
 IxOk x16 (Int.tmod n18 (x19.n:Int))∧
 ∃ n20:Int,w3.cell? ((elA x16 (Int.tmod n18 (x19.n:Int)) 1).add 0)=some (.int .u8 n20)∧
 ∃ n21:Int,Wr .i64 n20 n21∧
 ∃ n22:Int,Wr .i64 (n21 * 1117) n22∧
 ∃ n23:Int,Wr .i64 (n15+n22) n23∧
 ∃ n24:Int,Wr .i64 (n6 * 29) n24∧
 ∃ n25:Int,Wr .i64 (n23+n24) n25∧
 ∃ x26:Sl,w3.cell? (a_0.add 0)=some (x26.val)∧
 ∃ n27:Int,(((x26.n:Int):Int)≠0∧Wr .i64 (Int.tdiv n6 (x26.n:Int)) n27)∧
 ∃ n28:Int,Wr .i64 (n27 * 53) n28∧
 ∃ n29:Int,Wr .i64 (n25+n28) n29∧
 ∃ n30:Int,((64:Int)≠0∧Wr .i64 (Int.tdiv n29 64) n30)∧
 ∃ n31:Int,PureT Tryz.prog (do eqGuard .xor 3 (.tmp 92) (.tmp 94) (.int .i64 n29) (.int .i64 n30);binOp .xor 3 (.int .i64 n29) (.int .i64 n30)) w3 (.int .i64 n31)∧
 (n_1:Int)≠0∧
 Q (.int .i64 (Int.tmod n31 n_1)) w3))
theorem of61 (a_0:Addr) (n_1:Int) (v:World) (Q:QT) (h:vc61 a_0 n_1 v Q):Trip Tryz.prog 61 #[.pointer (some (a_0.add 0)),.int .i64 n_1] v Q:=
 trip_of_eq (args:=[.pt a_0 0,.num .i64 n_1]) (A:=aG) Tryz.func61 (by kernel_rfl) (by kernel_rfl) (by kernel_rfl:vc61 a_0 n_1 v Q=_) h
def vc64 (n0_0:Int) (n0_1:Int) (x0_2:Sl) (a_1:Addr) (v:World) (Q:QT):Prop:=
 ∃ n1:Int,v.cell? (a_1.add 0)=some (.int .i64 n1)∧
 ∃ n2:Int,Wr .i64 (n1+1) n2∧
 StoreAt v a_1 0 [.int .i64 n2] fun w3=>
 ∃ n4:Int,w3.cell? (a_1.add 0)=some (.int .i64 n4)∧
 ((decide (n4 > 30))=true→
 Q (.bool false) w3)∧
 ((decide (n4 > 30))=false→
 ∃ I5:Int→World→Prop,∃ m6:Int→World→Nat,I5 0 w3∧
 ∀ n7:Int,∀ w8:World,I5 n7 w8→
 ((decide (n7 < (x0_2.n:Int)))=true→
 IxOk x0_2 n7∧
 ldT w8 x0_2 n7 fun n9 n10 x11=>
 Trip Tryz.prog 64 #[.agg #[.int .i64 n9,.int .i64 n10,x11.val],.pointer (some (a_1.add 0))] w8 fun r12 w13=>
 ∃ q14:Bool,r12=.bool q14∧
 ((!q14)=true→
 Q (.bool false) w13)∧
 ((!q14)=false→
 ∃ n15:Int,Wr .i64 (n7+1) n15∧
 eqS (.num .i64 n0_0)∧
 eqS (.num .i64 n0_1)∧
 eqS (.sl x0_2)∧
 I5 n15 w13∧
 m6 n15 w13 < m6 n7 w8))∧
 ((decide (n7 < (x0_2.n:Int)))=false→
 Q (.bool true) w8))
theorem of64 (n0_0:Int) (n0_1:Int) (x0_2:Sl) (a_1:Addr) (v:World) (Q:QT) (h:vc64 n0_0 n0_1 x0_2 a_1 v Q):Trip Tryz.prog 64 #[.agg #[.int .i64 n0_0,.int .i64 n0_1,x0_2.val],.pointer (some (a_1.add 0))] v Q:=
 trip_of_eq (args:=[.ag [.num .i64 n0_0,.num .i64 n0_1,.sl x0_2],.pt a_1 0]) (A:=⟨[(5,[(19,.int .i64)],[])],[],[],[],psG⟩) Tryz.func64 (by kernel_rfl) (by kernel_rfl) (by kernel_rfl:vc64 n0_0 n0_1 x0_2 a_1 v Q=_) h
def vc65 (a_0:Addr) (v:World) (Q:QT):Prop:=
 Trip Tryz.prog 68 #[.pointer (some (a_0.add 0))] v fun r1 w2=>
 ∃ x3:Sl,∃ x4:Sl,r1=.agg #[x3.val,x4.val]∧
 Trip Tryz.prog 117 #[.pointer (some (a_0.add 0)),.agg #[x3.val,x4.val]] w2 fun r5 w6=>
 ∃ x7:Sl,∃ x8:Sl,r5=.agg #[x7.val,x8.val]∧
 Q (.agg #[x7.val,x8.val]) w6
theorem of65 (a_0:Addr) (v:World) (Q:QT) (h:vc65 a_0 v Q):Trip Tryz.prog 65 #[.pointer (some (a_0.add 0))] v Q:=
 trip_of_eq (args:=[.pt a_0 0]) (A:=aG) Tryz.func65 (by kernel_rfl) (by kernel_rfl) (by kernel_rfl:vc65 a_0 v Q=_) h
def vc66 (x_0:Sl) (x_1:Sl) (v:World) (Q:QT):Prop:=
 ((!decide ((x_0.n:Int)=(x_1.n:Int)))=true→
 Q (.bool false) v)∧
 ((!decide ((x_0.n:Int)=(x_1.n:Int)))=false→
 ∃ I1:Int→World→Prop,∃ m2:Int→World→Nat,I1 0 v∧
 ∀ n3:Int,∀ w4:World,I1 n3 w4→
 ((decide (n3 < (x_0.n:Int)))=true→
 IxOk x_0 n3∧
 ∃ n5:Int,w4.cell? ((elA x_0 n3 3).add 0)=some (.int .i64 n5)∧
 IxOk x_1 n3∧
 ∃ n6:Int,w4.cell? ((elA x_1 n3 3).add 0)=some (.int .i64 n6)∧
 ((!decide (n5=n6))=false→
 IxOk x_0 n3)∧
 ∃ n7:Int,((!decide (n5=n6))=false→
 w4.cell? ((elA x_0 n3 3).add 1)=some (.int .i64 n7))∧
 ((!decide (n5=n6))=false→
 IxOk x_1 n3)∧
 ∃ n8:Int,((!decide (n5=n6))=false→
 w4.cell? ((elA x_1 n3 3).add 1)=some (.int .i64 n8))∧
 (((!decide (n5=n6)) || (!decide (n7=n8)))=false→
 IxOk x_0 n3)∧
 ∃ x9:Sl,(((!decide (n5=n6)) || (!decide (n7=n8)))=false→
 w4.cell? ((elA x_0 n3 3).add 2)=some (x9.val))∧
 (((!decide (n5=n6)) || (!decide (n7=n8)))=false→
 IxOk x_1 n3)∧
 ∃ x10:Sl,(((!decide (n5=n6)) || (!decide (n7=n8)))=false→
 w4.cell? ((elA x_1 n3 3).add 2)=some (x10.val))∧
 ((((!decide (n5=n6)) || (!decide (n7=n8))) || (!decide ((x9.n:Int)=(x10.n:Int))))=true→
 Q (.bool false) w4)∧
 ((((!decide (n5=n6)) || (!decide (n7=n8))) || (!decide ((x9.n:Int)=(x10.n:Int))))=false→
 ∃ I11:Int→World→Prop,∃ m12:Int→World→Nat,I11 0 w4∧
 ∀ n13:Int,∀ w14:World,I11 n13 w14→
 IxOk x_0 n3∧
 ∃ x15:Sl,w14.cell? ((elA x_0 n3 3).add 2)=some (x15.val)∧
 ((decide (n13 < (x15.n:Int)))=true→
 IxOk x_0 n3∧
 ∃ x16:Sl,w14.cell? ((elA x_0 n3 3).add 2)=some (x16.val)∧
 IxOk x16 n13∧
 ∃ x17:Sl,w14.cell? ((elA x16 n13 1).add 0)=some (x17.val)∧
 IxOk x_1 n3∧
 ∃ x18:Sl,w14.cell? ((elA x_1 n3 3).add 2)=some (x18.val)∧
 IxOk x18 n13∧
 ∃ x19:Sl,w14.cell? ((elA x18 n13 1).add 0)=some (x19.val)∧
 ∃ q20:Bool,(Trip Tryz.prog 67 #[x17.val,x19.val] w14 fun r21 w22=>r21=.bool q20∧Sub w14 w22)∧
 ((!q20)=true→
 Q (.bool false) w14)∧
 ((!q20)=false→
 ∃ n23:Int,Wr .i64 (n13+1) n23∧
 I11 n23 w14∧
 m12 n23 w14 < m12 n13 w14))∧
 ((decide (n13 < (x15.n:Int)))=false→
 ∃ n24:Int,Wr .i64 (n3+1) n24∧
 I1 n24 w14∧
 m2 n24 w14 < m2 n3 w4)))∧
 ((decide (n3 < (x_0.n:Int)))=false→
 Q (.bool true) w4))
theorem of66 (x_0:Sl) (x_1:Sl) (v:World) (Q:QT) (h:vc66 x_0 x_1 v Q):Trip Tryz.prog 66 #[x_0.val,x_1.val] v Q:=
 trip_of_eq (args:=[.sl x_0,.sl x_1]) (A:=⟨[(4,[(5,.int .i64)],[]),(9,[(6,.int .i64)],[])],[],[],[],psG⟩) Tryz.func66 (by kernel_rfl) (by kernel_rfl) (by kernel_rfl:vc66 x_0 x_1 v Q=_) h
def vc67 (x_0:Sl) (x_1:Sl) (v:World) (Q:QT):Prop:=
 ((!decide ((x_0.n:Int)=(x_1.n:Int)))=true→
 Q (.bool false) v)∧
 ((!decide ((x_0.n:Int)=(x_1.n:Int)))=false→
 ∃ I1:Int→World→Prop,∃ m2:Int→World→Nat,I1 0 v∧
 ∀ n3:Int,∀ w4:World,I1 n3 w4→
 ((decide (n3 < (x_0.n:Int)))=true→
 IxOk x_0 n3∧
 ∃ n5:Int,w4.cell? ((elA x_0 n3 1).add 0)=some (.int .i64 n5)∧
 IxOk x_1 n3∧
 ∃ n6:Int,w4.cell? ((elA x_1 n3 1).add 0)=some (.int .i64 n6)∧
 ((!decide (n5=n6))=true→
 Q (.bool false) w4)∧
 ((!decide (n5=n6))=false→
 ∃ n7:Int,Wr .i64 (n3+1) n7∧
 I1 n7 w4∧
 m2 n7 w4 < m2 n3 w4))∧
 ((decide (n3 < (x_0.n:Int)))=false→
 Q (.bool true) w4))
theorem of67 (x_0:Sl) (x_1:Sl) (v:World) (Q:QT) (h:vc67 x_0 x_1 v Q):Trip Tryz.prog 67 #[x_0.val,x_1.val] v Q:=
 trip_of_eq (args:=[.sl x_0,.sl x_1]) (A:=⟨[(4,[(5,.int .i64)],[])],[],[],[],psG⟩) Tryz.func67 (by kernel_rfl) (by kernel_rfl) (by kernel_rfl:vc67 x_0 x_1 v Q=_) h
def vc68 (a_0:Addr) (v:World) (Q:QT):Prop:=
 tS 118 #[.pointer (some (a_0.add 0))] v fun x3 w2=>
 ∃ J4:Sl→World→Prop,(bS 68 1 #[(0,(.int .i64 1))] w2 fun x7 w6=>
 Trip Tryz.prog 119 #[x7.val,.int .i64 0] w6 fun r8 w9=>
 ∃ x10:Sl,∃ n11:Int,∃ n12:Int,∃ n13:Int,∃ x14:Sl,r8=.agg #[x10.val,.int .i64 n11,.int .i64 n12,.int .i64 n13,x14.val]∧
 bS 68 2 #[(0,(.int .i64 1)),(1,(.int .i64 1))] w9 fun x17 w16=>
 Trip Tryz.prog 119 #[x17.val,.int .i64 1] w16 fun r18 w19=>
 ∃ x20:Sl,∃ n21:Int,∃ n22:Int,∃ n23:Int,∃ x24:Sl,r18=.agg #[x20.val,.int .i64 n21,.int .i64 n22,.int .i64 n23,x24.val]∧
 bS 68 1 #[(0,(.int .i64 1))] w19 fun x27 w26=>
 Trip Tryz.prog 119 #[x27.val,.int .i64 1] w26 fun r28 w29=>
 ∃ x30:Sl,∃ n31:Int,∃ n32:Int,∃ n33:Int,∃ x34:Sl,r28=.agg #[x30.val,.int .i64 n31,.int .i64 n32,.int .i64 n33,x34.val]∧
 bS 68 2 #[(0,(.int .i64 1)),(1,(.int .i64 0))] w29 fun x37 w36=>
 Trip Tryz.prog 119 #[x37.val,.int .i64 1] w36 fun r38 w39=>
 ∃ x40:Sl,∃ n41:Int,∃ n42:Int,∃ n43:Int,∃ x44:Sl,r38=.agg #[x40.val,.int .i64 n41,.int .i64 n42,.int .i64 n43,x44.val]∧
 bS 68 2 #[(0,(.int .i64 2)),(1,(.int .i64 1))] w39 fun x47 w46=>
 Trip Tryz.prog 119 #[x47.val,.int .i64 1] w46 fun r48 w49=>
 ∃ x50:Sl,∃ n51:Int,∃ n52:Int,∃ n53:Int,∃ x54:Sl,r48=.agg #[x50.val,.int .i64 n51,.int .i64 n52,.int .i64 n53,x54.val]∧
 bS 68 2 #[(0,(.int .i64 1)),(1,(.int .i64 1))] w49 fun x57 w56=>
 Trip Tryz.prog 119 #[x57.val,.int .i64 0] w56 fun r58 w59=>
 ∃ x60:Sl,∃ n61:Int,∃ n62:Int,∃ n63:Int,∃ x64:Sl,r58=.agg #[x60.val,.int .i64 n61,.int .i64 n62,.int .i64 n63,x64.val]∧
 bS 29 6 #[(0,(.agg #[x10.val,.int .i64 n11,.int .i64 n12,.int .i64 n13,x14.val])),(1,(.agg #[x20.val,.int .i64 n21,.int .i64 n22,.int .i64 n23,x24.val])),(2,(.agg #[x30.val,.int .i64 n31,.int .i64 n32,.int .i64 n33,x34.val])),(3,(.agg #[x40.val,.int .i64 n41,.int .i64 n42,.int .i64 n43,x44.val])),(4,(.agg #[x50.val,.int .i64 n51,.int .i64 n52,.int .i64 n53,x54.val])),(5,(.agg #[x60.val,.int .i64 n61,.int .i64 n62,.int .i64 n63,x64.val]))] w59 fun x67 w66=>
 eqS (.sl (Sl.mk none 0 0))∧
 eqS (.sl (Sl.mk none 0 0))∧
 eqS (.sl x3)∧
 eqS (.sl (Sl.mk none 0 0))∧
 J4 x67 w66)∧
 ∀ x68:Sl,∀ w69:World,J4 x68 w69→
 ∃ J70:Sl→World→Prop,(bS 68 1 #[(0,(.int .i64 3))] w69 fun x73 w72=>
 Trip Tryz.prog 119 #[x73.val,.int .i64 0] w72 fun r74 w75=>
 ∃ x76:Sl,∃ n77:Int,∃ n78:Int,∃ n79:Int,∃ x80:Sl,r74=.agg #[x76.val,.int .i64 n77,.int .i64 n78,.int .i64 n79,x80.val]∧
 bS 68 1 #[(0,(.int .i64 0))] w75 fun x83 w82=>
 Trip Tryz.prog 119 #[x83.val,.int .i64 1] w82 fun r84 w85=>
 ∃ x86:Sl,∃ n87:Int,∃ n88:Int,∃ n89:Int,∃ x90:Sl,r84=.agg #[x86.val,.int .i64 n87,.int .i64 n88,.int .i64 n89,x90.val]∧
 bS 68 2 #[(0,(.int .i64 0)),(1,(.int .i64 1))] w85 fun x93 w92=>
 Trip Tryz.prog 119 #[x93.val,.int .i64 1] w92 fun r94 w95=>
 ∃ x96:Sl,∃ n97:Int,∃ n98:Int,∃ n99:Int,∃ x100:Sl,r94=.agg #[x96.val,.int .i64 n97,.int .i64 n98,.int .i64 n99,x100.val]∧
 bS 68 2 #[(0,(.int .i64 3)),(1,(.int .i64 0))] w95 fun x103 w102=>
 Trip Tryz.prog 119 #[x103.val,.int .i64 3] w102 fun r104 w105=>
 ∃ x106:Sl,∃ n107:Int,∃ n108:Int,∃ n109:Int,∃ x110:Sl,r104=.agg #[x106.val,.int .i64 n107,.int .i64 n108,.int .i64 n109,x110.val]∧
 bS 68 1 #[(0,(.int .i64 3))] w105 fun x113 w112=>
 Trip Tryz.prog 119 #[x113.val,.int .i64 1] w112 fun r114 w115=>
 ∃ x116:Sl,∃ n117:Int,∃ n118:Int,∃ n119:Int,∃ x120:Sl,r114=.agg #[x116.val,.int .i64 n117,.int .i64 n118,.int .i64 n119,x120.val]∧
 bS 68 3 #[(0,(.int .i64 1)),(1,(.int .i64 3)),(2,(.int .i64 0))] w115 fun x123 w122=>
 Trip Tryz.prog 119 #[x123.val,.int .i64 0] w122 fun r124 w125=>
 ∃ x126:Sl,∃ n127:Int,∃ n128:Int,∃ n129:Int,∃ x130:Sl,r124=.agg #[x126.val,.int .i64 n127,.int .i64 n128,.int .i64 n129,x130.val]∧
 bS 29 6 #[(0,(.agg #[x76.val,.int .i64 n77,.int .i64 n78,.int .i64 n79,x80.val])),(1,(.agg #[x86.val,.int .i64 n87,.int .i64 n88,.int .i64 n89,x90.val])),(2,(.agg #[x96.val,.int .i64 n97,.int .i64 n98,.int .i64 n99,x100.val])),(3,(.agg #[x106.val,.int .i64 n107,.int .i64 n108,.int .i64 n109,x110.val])),(4,(.agg #[x116.val,.int .i64 n117,.int .i64 n118,.int .i64 n119,x120.val])),(5,(.agg #[x126.val,.int .i64 n127,.int .i64 n128,.int .i64 n129,x130.val]))] w125 fun x133 w132=>
 eqS (.sl (Sl.mk none 0 0))∧
 eqS (.sl (Sl.mk none 0 0))∧
 eqS (.sl x3)∧
 eqS (.sl (Sl.mk none 0 0))∧
 J70 x133 w132)∧
 ∀ x134:Sl,∀ w135:World,J70 x134 w135→
 ∃ J136:Sl→World→Prop,(bS 68 1 #[(0,(.int .i64 0))] w135 fun x139 w138=>
 Trip Tryz.prog 119 #[x139.val,.int .i64 0] w138 fun r140 w141=>
 ∃ x142:Sl,∃ n143:Int,∃ n144:Int,∃ n145:Int,∃ x146:Sl,r140=.agg #[x142.val,.int .i64 n143,.int .i64 n144,.int .i64 n145,x146.val]∧
 bS 68 2 #[(0,(.int .i64 0)),(1,(.int .i64 0))] w141 fun x149 w148=>
 Trip Tryz.prog 119 #[x149.val,.int .i64 0] w148 fun r150 w151=>
 ∃ x152:Sl,∃ n153:Int,∃ n154:Int,∃ n155:Int,∃ x156:Sl,r150=.agg #[x152.val,.int .i64 n153,.int .i64 n154,.int .i64 n155,x156.val]∧
 bS 68 2 #[(0,(.int .i64 1)),(1,(.int .i64 0))] w151 fun x159 w158=>
 Trip Tryz.prog 119 #[x159.val,.int .i64 0] w158 fun r160 w161=>
 ∃ x162:Sl,∃ n163:Int,∃ n164:Int,∃ n165:Int,∃ x166:Sl,r160=.agg #[x162.val,.int .i64 n163,.int .i64 n164,.int .i64 n165,x166.val]∧
 bS 68 1 #[(0,(.int .i64 0))] w161 fun x169 w168=>
 Trip Tryz.prog 119 #[x169.val,.int .i64 1] w168 fun r170 w171=>
 ∃ x172:Sl,∃ n173:Int,∃ n174:Int,∃ n175:Int,∃ x176:Sl,r170=.agg #[x172.val,.int .i64 n173,.int .i64 n174,.int .i64 n175,x176.val]∧
 bS 29 4 #[(0,(.agg #[x142.val,.int .i64 n143,.int .i64 n144,.int .i64 n145,x146.val])),(1,(.agg #[x152.val,.int .i64 n153,.int .i64 n154,.int .i64 n155,x156.val])),(2,(.agg #[x162.val,.int .i64 n163,.int .i64 n164,.int .i64 n165,x166.val])),(3,(.agg #[x172.val,.int .i64 n173,.int .i64 n174,.int .i64 n175,x176.val]))] w171 fun x179 w178=>
 eqS (.sl (Sl.mk none 0 0))∧
 eqS (.sl (Sl.mk none 0 0))∧
 eqS (.sl x3)∧
 eqS (.sl (Sl.mk none 0 0))∧
 J136 x179 w178)∧
 ∀ x180:Sl,∀ w181:World,J136 x180 w181→
 ∃ J182:Sl→World→Prop,(bS 68 0 #[] w181 fun x185 w184=>
 Sub w181 w184∧
 Trip Tryz.prog 119 #[x185.val,.int .i64 0] w184 fun r186 w187=>
 ∃ x188:Sl,∃ n189:Int,∃ n190:Int,∃ n191:Int,∃ x192:Sl,r186=.agg #[x188.val,.int .i64 n189,.int .i64 n190,.int .i64 n191,x192.val]∧
 Sub w184 w187∧
 tI 61 #[.pointer (some (a_0.add 0)),.int .i64 (x68.n:Int)] w187 fun n195 w194=>
 (IxOk x68 n195∧
 (ldF w194 x68 n195 fun x196 n197 n198 n199 x200=>
 tI 61 #[.pointer (some (a_0.add 0)),.int .i64 (x134.n:Int)] w194 fun n203 w202=>
 (IxOk x134 n203∧
 (ldF w202 x134 n203 fun x204 n205 n206 n207 x208=>
 tI 61 #[.pointer (some (a_0.add 0)),.int .i64 (x180.n:Int)] w202 fun n211 w210=>
 IxOk x180 n211∧
 ldF w210 x180 n211 fun x212 n213 n214 n215 x216=>
 bS 29 4 #[(0,(.agg #[x188.val,.int .i64 n189,.int .i64 n190,.int .i64 n191,x192.val])),(1,(.agg #[x196.val,.int .i64 n197,.int .i64 n198,.int .i64 n199,x200.val])),(2,(.agg #[x204.val,.int .i64 n205,.int .i64 n206,.int .i64 n207,x208.val])),(3,(.agg #[x212.val,.int .i64 n213,.int .i64 n214,.int .i64 n215,x216.val]))] w210 fun x219 w218=>
 eqS (.sl (Sl.mk none 0 0))∧
 eqS (.sl (Sl.mk none 0 0))∧
 eqS (.sl x3)∧
 J182 x219 w218)∧
 tI 61 #[.pointer (some (a_0.add 0)),.int .i64 (x180.n:Int)] w202 fun n222 w221=>
 ldF w221 x134 n203 fun x223 n224 n225 n226 x227=>
 IxOk x180 n222∧
 ldF w221 x180 n222 fun x228 n229 n230 n231 x232=>
 bS 29 4 #[(0,(.agg #[x188.val,.int .i64 n189,.int .i64 n190,.int .i64 n191,x192.val])),(1,(.agg #[x196.val,.int .i64 n197,.int .i64 n198,.int .i64 n199,x200.val])),(2,(.agg #[x223.val,.int .i64 n224,.int .i64 n225,.int .i64 n226,x227.val])),(3,(.agg #[x228.val,.int .i64 n229,.int .i64 n230,.int .i64 n231,x232.val]))] w221 fun x235 w234=>
 eqS (.sl (Sl.mk none 0 0))∧
 eqS (.sl (Sl.mk none 0 0))∧
 eqS (.sl x3)∧
 J182 x235 w234)∧
 tI 61 #[.pointer (some (a_0.add 0)),.int .i64 (x180.n:Int)] w202 fun n238 w237=>
 IxOk x134 n203∧
 ldF w237 x134 n203 fun x239 n240 n241 n242 x243=>
 IxOk x180 n238∧
 ldF w237 x180 n238 fun x244 n245 n246 n247 x248=>
 bS 29 4 #[(0,(.agg #[x188.val,.int .i64 n189,.int .i64 n190,.int .i64 n191,x192.val])),(1,(.agg #[x196.val,.int .i64 n197,.int .i64 n198,.int .i64 n199,x200.val])),(2,(.agg #[x239.val,.int .i64 n240,.int .i64 n241,.int .i64 n242,x243.val])),(3,(.agg #[x244.val,.int .i64 n245,.int .i64 n246,.int .i64 n247,x248.val]))] w237 fun x251 w250=>
 eqS (.sl (Sl.mk none 0 0))∧
 eqS (.sl (Sl.mk none 0 0))∧
 eqS (.sl x3)∧
 J182 x251 w250)∧
 tI 61 #[.pointer (some (a_0.add 0)),.int .i64 (x134.n:Int)] w194 fun n254 w253=>
 (ldF w253 x68 n195 fun x255 n256 n257 n258 x259=>
 (IxOk x134 n254∧
 (ldF w253 x134 n254 fun x260 n261 n262 n263 x264=>
 tI 61 #[.pointer (some (a_0.add 0)),.int .i64 (x180.n:Int)] w253 fun n267 w266=>
 IxOk x180 n267∧
 ldF w266 x180 n267 fun x268 n269 n270 n271 x272=>
 bS 29 4 #[(0,(.agg #[x188.val,.int .i64 n189,.int .i64 n190,.int .i64 n191,x192.val])),(1,(.agg #[x255.val,.int .i64 n256,.int .i64 n257,.int .i64 n258,x259.val])),(2,(.agg #[x260.val,.int .i64 n261,.int .i64 n262,.int .i64 n263,x264.val])),(3,(.agg #[x268.val,.int .i64 n269,.int .i64 n270,.int .i64 n271,x272.val]))] w266 fun x275 w274=>
 eqS (.sl (Sl.mk none 0 0))∧
 eqS (.sl (Sl.mk none 0 0))∧
 eqS (.sl x3)∧
 J182 x275 w274)∧
 tI 61 #[.pointer (some (a_0.add 0)),.int .i64 (x180.n:Int)] w253 fun n278 w277=>
 ldF w277 x134 n254 fun x279 n280 n281 n282 x283=>
 IxOk x180 n278∧
 ldF w277 x180 n278 fun x284 n285 n286 n287 x288=>
 bS 29 4 #[(0,(.agg #[x188.val,.int .i64 n189,.int .i64 n190,.int .i64 n191,x192.val])),(1,(.agg #[x255.val,.int .i64 n256,.int .i64 n257,.int .i64 n258,x259.val])),(2,(.agg #[x279.val,.int .i64 n280,.int .i64 n281,.int .i64 n282,x283.val])),(3,(.agg #[x284.val,.int .i64 n285,.int .i64 n286,.int .i64 n287,x288.val]))] w277 fun x291 w290=>
 eqS (.sl (Sl.mk none 0 0))∧
 eqS (.sl (Sl.mk none 0 0))∧
 eqS (.sl x3)∧
 J182 x291 w290)∧
 tI 61 #[.pointer (some (a_0.add 0)),.int .i64 (x180.n:Int)] w253 fun n294 w293=>
 IxOk x134 n254∧
 ldF w293 x134 n254 fun x295 n296 n297 n298 x299=>
 IxOk x180 n294∧
 ldF w293 x180 n294 fun x300 n301 n302 n303 x304=>
 bS 29 4 #[(0,(.agg #[x188.val,.int .i64 n189,.int .i64 n190,.int .i64 n191,x192.val])),(1,(.agg #[x255.val,.int .i64 n256,.int .i64 n257,.int .i64 n258,x259.val])),(2,(.agg #[x295.val,.int .i64 n296,.int .i64 n297,.int .i64 n298,x299.val])),(3,(.agg #[x300.val,.int .i64 n301,.int .i64 n302,.int .i64 n303,x304.val]))] w293 fun x307 w306=>
 eqS (.sl (Sl.mk none 0 0))∧
 eqS (.sl (Sl.mk none 0 0))∧
 eqS (.sl x3)∧
 J182 x307 w306)∧
 (IxOk x134 n254∧
 (ldF w253 x68 n195 fun x308 n309 n310 n311 x312=>
 (ldF w253 x134 n254 fun x313 n314 n315 n316 x317=>
 tI 61 #[.pointer (some (a_0.add 0)),.int .i64 (x180.n:Int)] w253 fun n320 w319=>
 IxOk x180 n320∧
 ldF w319 x180 n320 fun x321 n322 n323 n324 x325=>
 bS 29 4 #[(0,(.agg #[x188.val,.int .i64 n189,.int .i64 n190,.int .i64 n191,x192.val])),(1,(.agg #[x308.val,.int .i64 n309,.int .i64 n310,.int .i64 n311,x312.val])),(2,(.agg #[x313.val,.int .i64 n314,.int .i64 n315,.int .i64 n316,x317.val])),(3,(.agg #[x321.val,.int .i64 n322,.int .i64 n323,.int .i64 n324,x325.val]))] w319 fun x328 w327=>
 eqS (.sl (Sl.mk none 0 0))∧
 eqS (.sl (Sl.mk none 0 0))∧
 eqS (.sl x3)∧
 J182 x328 w327)∧
 tI 61 #[.pointer (some (a_0.add 0)),.int .i64 (x180.n:Int)] w253 fun n331 w330=>
 ldF w330 x134 n254 fun x332 n333 n334 n335 x336=>
 IxOk x180 n331∧
 ldF w330 x180 n331 fun x337 n338 n339 n340 x341=>
 bS 29 4 #[(0,(.agg #[x188.val,.int .i64 n189,.int .i64 n190,.int .i64 n191,x192.val])),(1,(.agg #[x308.val,.int .i64 n309,.int .i64 n310,.int .i64 n311,x312.val])),(2,(.agg #[x332.val,.int .i64 n333,.int .i64 n334,.int .i64 n335,x336.val])),(3,(.agg #[x337.val,.int .i64 n338,.int .i64 n339,.int .i64 n340,x341.val]))] w330 fun x344 w343=>
 eqS (.sl (Sl.mk none 0 0))∧
 eqS (.sl (Sl.mk none 0 0))∧
 eqS (.sl x3)∧
 J182 x344 w343)∧
 (ldF w253 x134 n254 fun x345 n346 n347 n348 x349=>
 (ldF w253 x68 n195 fun x350 n351 n352 n353 x354=>
 tI 61 #[.pointer (some (a_0.add 0)),.int .i64 (x180.n:Int)] w253 fun n357 w356=>
 IxOk x180 n357∧
 ldF w356 x180 n357 fun x358 n359 n360 n361 x362=>
 bS 29 4 #[(0,(.agg #[x188.val,.int .i64 n189,.int .i64 n190,.int .i64 n191,x192.val])),(1,(.agg #[x350.val,.int .i64 n351,.int .i64 n352,.int .i64 n353,x354.val])),(2,(.agg #[x345.val,.int .i64 n346,.int .i64 n347,.int .i64 n348,x349.val])),(3,(.agg #[x358.val,.int .i64 n359,.int .i64 n360,.int .i64 n361,x362.val]))] w356 fun x365 w364=>
 eqS (.sl (Sl.mk none 0 0))∧
 eqS (.sl (Sl.mk none 0 0))∧
 eqS (.sl x3)∧
 J182 x365 w364)∧
 tI 61 #[.pointer (some (a_0.add 0)),.int .i64 (x180.n:Int)] w253 fun n368 w367=>
 ldF w367 x68 n195 fun x369 n370 n371 n372 x373=>
 IxOk x180 n368∧
 ldF w367 x180 n368 fun x374 n375 n376 n377 x378=>
 bS 29 4 #[(0,(.agg #[x188.val,.int .i64 n189,.int .i64 n190,.int .i64 n191,x192.val])),(1,(.agg #[x369.val,.int .i64 n370,.int .i64 n371,.int .i64 n372,x373.val])),(2,(.agg #[x345.val,.int .i64 n346,.int .i64 n347,.int .i64 n348,x349.val])),(3,(.agg #[x374.val,.int .i64 n375,.int .i64 n376,.int .i64 n377,x378.val]))] w367 fun x381 w380=>
 eqS (.sl (Sl.mk none 0 0))∧
 eqS (.sl (Sl.mk none 0 0))∧
 eqS (.sl x3)∧
 J182 x381 w380)∧
 tI 61 #[.pointer (some (a_0.add 0)),.int .i64 (x180.n:Int)] w253 fun n384 w383=>
 ldF w383 x68 n195 fun x385 n386 n387 n388 x389=>
 ldF w383 x134 n254 fun x390 n391 n392 n393 x394=>
 IxOk x180 n384∧
 ldF w383 x180 n384 fun x395 n396 n397 n398 x399=>
 bS 29 4 #[(0,(.agg #[x188.val,.int .i64 n189,.int .i64 n190,.int .i64 n191,x192.val])),(1,(.agg #[x385.val,.int .i64 n386,.int .i64 n387,.int .i64 n388,x389.val])),(2,(.agg #[x390.val,.int .i64 n391,.int .i64 n392,.int .i64 n393,x394.val])),(3,(.agg #[x395.val,.int .i64 n396,.int .i64 n397,.int .i64 n398,x399.val]))] w383 fun x402 w401=>
 eqS (.sl (Sl.mk none 0 0))∧
 eqS (.sl (Sl.mk none 0 0))∧
 eqS (.sl x3)∧
 J182 x402 w401)∧
 tI 61 #[.pointer (some (a_0.add 0)),.int .i64 (x180.n:Int)] w253 fun n405 w404=>
 ldF w404 x68 n195 fun x406 n407 n408 n409 x410=>
 IxOk x134 n254∧
 ldF w404 x134 n254 fun x411 n412 n413 n414 x415=>
 IxOk x180 n405∧
 ldF w404 x180 n405 fun x416 n417 n418 n419 x420=>
 bS 29 4 #[(0,(.agg #[x188.val,.int .i64 n189,.int .i64 n190,.int .i64 n191,x192.val])),(1,(.agg #[x406.val,.int .i64 n407,.int .i64 n408,.int .i64 n409,x410.val])),(2,(.agg #[x411.val,.int .i64 n412,.int .i64 n413,.int .i64 n414,x415.val])),(3,(.agg #[x416.val,.int .i64 n417,.int .i64 n418,.int .i64 n419,x420.val]))] w404 fun x423 w422=>
 eqS (.sl (Sl.mk none 0 0))∧
 eqS (.sl (Sl.mk none 0 0))∧
 eqS (.sl x3)∧
 J182 x423 w422)∧
 tI 61 #[.pointer (some (a_0.add 0)),.int .i64 (x134.n:Int)] w194 fun n426 w425=>
 (IxOk x68 n195∧
 (ldF w425 x68 n195 fun x427 n428 n429 n430 x431=>
 (IxOk x134 n426∧
 (ldF w425 x134 n426 fun x432 n433 n434 n435 x436=>
 tI 61 #[.pointer (some (a_0.add 0)),.int .i64 (x180.n:Int)] w425 fun n439 w438=>
 IxOk x180 n439∧
 ldF w438 x180 n439 fun x440 n441 n442 n443 x444=>
 bS 29 4 #[(0,(.agg #[x188.val,.int .i64 n189,.int .i64 n190,.int .i64 n191,x192.val])),(1,(.agg #[x427.val,.int .i64 n428,.int .i64 n429,.int .i64 n430,x431.val])),(2,(.agg #[x432.val,.int .i64 n433,.int .i64 n434,.int .i64 n435,x436.val])),(3,(.agg #[x440.val,.int .i64 n441,.int .i64 n442,.int .i64 n443,x444.val]))] w438 fun x447 w446=>
 eqS (.sl (Sl.mk none 0 0))∧
 eqS (.sl (Sl.mk none 0 0))∧
 eqS (.sl x3)∧
 J182 x447 w446)∧
 tI 61 #[.pointer (some (a_0.add 0)),.int .i64 (x180.n:Int)] w425 fun n450 w449=>
 ldF w449 x134 n426 fun x451 n452 n453 n454 x455=>
 IxOk x180 n450∧
 ldF w449 x180 n450 fun x456 n457 n458 n459 x460=>
 bS 29 4 #[(0,(.agg #[x188.val,.int .i64 n189,.int .i64 n190,.int .i64 n191,x192.val])),(1,(.agg #[x427.val,.int .i64 n428,.int .i64 n429,.int .i64 n430,x431.val])),(2,(.agg #[x451.val,.int .i64 n452,.int .i64 n453,.int .i64 n454,x455.val])),(3,(.agg #[x456.val,.int .i64 n457,.int .i64 n458,.int .i64 n459,x460.val]))] w449 fun x463 w462=>
 eqS (.sl (Sl.mk none 0 0))∧
 eqS (.sl (Sl.mk none 0 0))∧
 eqS (.sl x3)∧
 J182 x463 w462)∧
 tI 61 #[.pointer (some (a_0.add 0)),.int .i64 (x180.n:Int)] w425 fun n466 w465=>
 IxOk x134 n426∧
 ldF w465 x134 n426 fun x467 n468 n469 n470 x471=>
 IxOk x180 n466∧
 ldF w465 x180 n466 fun x472 n473 n474 n475 x476=>
 bS 29 4 #[(0,(.agg #[x188.val,.int .i64 n189,.int .i64 n190,.int .i64 n191,x192.val])),(1,(.agg #[x427.val,.int .i64 n428,.int .i64 n429,.int .i64 n430,x431.val])),(2,(.agg #[x467.val,.int .i64 n468,.int .i64 n469,.int .i64 n470,x471.val])),(3,(.agg #[x472.val,.int .i64 n473,.int .i64 n474,.int .i64 n475,x476.val]))] w465 fun x479 w478=>
 eqS (.sl (Sl.mk none 0 0))∧
 eqS (.sl (Sl.mk none 0 0))∧
 eqS (.sl x3)∧
 J182 x479 w478)∧
 (IxOk x134 n426∧
 (ldF w425 x68 n195 fun x480 n481 n482 n483 x484=>
 (ldF w425 x134 n426 fun x485 n486 n487 n488 x489=>
 tI 61 #[.pointer (some (a_0.add 0)),.int .i64 (x180.n:Int)] w425 fun n492 w491=>
 IxOk x180 n492∧
 ldF w491 x180 n492 fun x493 n494 n495 n496 x497=>
 bS 29 4 #[(0,(.agg #[x188.val,.int .i64 n189,.int .i64 n190,.int .i64 n191,x192.val])),(1,(.agg #[x480.val,.int .i64 n481,.int .i64 n482,.int .i64 n483,x484.val])),(2,(.agg #[x485.val,.int .i64 n486,.int .i64 n487,.int .i64 n488,x489.val])),(3,(.agg #[x493.val,.int .i64 n494,.int .i64 n495,.int .i64 n496,x497.val]))] w491 fun x500 w499=>
 eqS (.sl (Sl.mk none 0 0))∧
 eqS (.sl (Sl.mk none 0 0))∧
 eqS (.sl x3)∧
 J182 x500 w499)∧
 tI 61 #[.pointer (some (a_0.add 0)),.int .i64 (x180.n:Int)] w425 fun n503 w502=>
 ldF w502 x134 n426 fun x504 n505 n506 n507 x508=>
 IxOk x180 n503∧
 ldF w502 x180 n503 fun x509 n510 n511 n512 x513=>
 bS 29 4 #[(0,(.agg #[x188.val,.int .i64 n189,.int .i64 n190,.int .i64 n191,x192.val])),(1,(.agg #[x480.val,.int .i64 n481,.int .i64 n482,.int .i64 n483,x484.val])),(2,(.agg #[x504.val,.int .i64 n505,.int .i64 n506,.int .i64 n507,x508.val])),(3,(.agg #[x509.val,.int .i64 n510,.int .i64 n511,.int .i64 n512,x513.val]))] w502 fun x516 w515=>
 eqS (.sl (Sl.mk none 0 0))∧
 eqS (.sl (Sl.mk none 0 0))∧
 eqS (.sl x3)∧
 J182 x516 w515)∧
 (ldF w425 x134 n426 fun x517 n518 n519 n520 x521=>
 (ldF w425 x68 n195 fun x522 n523 n524 n525 x526=>
 tI 61 #[.pointer (some (a_0.add 0)),.int .i64 (x180.n:Int)] w425 fun n529 w528=>
 IxOk x180 n529∧
 ldF w528 x180 n529 fun x530 n531 n532 n533 x534=>
 bS 29 4 #[(0,(.agg #[x188.val,.int .i64 n189,.int .i64 n190,.int .i64 n191,x192.val])),(1,(.agg #[x522.val,.int .i64 n523,.int .i64 n524,.int .i64 n525,x526.val])),(2,(.agg #[x517.val,.int .i64 n518,.int .i64 n519,.int .i64 n520,x521.val])),(3,(.agg #[x530.val,.int .i64 n531,.int .i64 n532,.int .i64 n533,x534.val]))] w528 fun x537 w536=>
 eqS (.sl (Sl.mk none 0 0))∧
 eqS (.sl (Sl.mk none 0 0))∧
 eqS (.sl x3)∧
 J182 x537 w536)∧
 tI 61 #[.pointer (some (a_0.add 0)),.int .i64 (x180.n:Int)] w425 fun n540 w539=>
 ldF w539 x68 n195 fun x541 n542 n543 n544 x545=>
 IxOk x180 n540∧
 ldF w539 x180 n540 fun x546 n547 n548 n549 x550=>
 bS 29 4 #[(0,(.agg #[x188.val,.int .i64 n189,.int .i64 n190,.int .i64 n191,x192.val])),(1,(.agg #[x541.val,.int .i64 n542,.int .i64 n543,.int .i64 n544,x545.val])),(2,(.agg #[x517.val,.int .i64 n518,.int .i64 n519,.int .i64 n520,x521.val])),(3,(.agg #[x546.val,.int .i64 n547,.int .i64 n548,.int .i64 n549,x550.val]))] w539 fun x553 w552=>
 eqS (.sl (Sl.mk none 0 0))∧
 eqS (.sl (Sl.mk none 0 0))∧
 eqS (.sl x3)∧
 J182 x553 w552)∧
 tI 61 #[.pointer (some (a_0.add 0)),.int .i64 (x180.n:Int)] w425 fun n556 w555=>
 ldF w555 x68 n195 fun x557 n558 n559 n560 x561=>
 ldF w555 x134 n426 fun x562 n563 n564 n565 x566=>
 IxOk x180 n556∧
 ldF w555 x180 n556 fun x567 n568 n569 n570 x571=>
 bS 29 4 #[(0,(.agg #[x188.val,.int .i64 n189,.int .i64 n190,.int .i64 n191,x192.val])),(1,(.agg #[x557.val,.int .i64 n558,.int .i64 n559,.int .i64 n560,x561.val])),(2,(.agg #[x562.val,.int .i64 n563,.int .i64 n564,.int .i64 n565,x566.val])),(3,(.agg #[x567.val,.int .i64 n568,.int .i64 n569,.int .i64 n570,x571.val]))] w555 fun x574 w573=>
 eqS (.sl (Sl.mk none 0 0))∧
 eqS (.sl (Sl.mk none 0 0))∧
 eqS (.sl x3)∧
 J182 x574 w573)∧
 tI 61 #[.pointer (some (a_0.add 0)),.int .i64 (x180.n:Int)] w425 fun n577 w576=>
 ldF w576 x68 n195 fun x578 n579 n580 n581 x582=>
 IxOk x134 n426∧
 ldF w576 x134 n426 fun x583 n584 n585 n586 x587=>
 IxOk x180 n577∧
 ldF w576 x180 n577 fun x588 n589 n590 n591 x592=>
 bS 29 4 #[(0,(.agg #[x188.val,.int .i64 n189,.int .i64 n190,.int .i64 n191,x192.val])),(1,(.agg #[x578.val,.int .i64 n579,.int .i64 n580,.int .i64 n581,x582.val])),(2,(.agg #[x583.val,.int .i64 n584,.int .i64 n585,.int .i64 n586,x587.val])),(3,(.agg #[x588.val,.int .i64 n589,.int .i64 n590,.int .i64 n591,x592.val]))] w576 fun x595 w594=>
 eqS (.sl (Sl.mk none 0 0))∧
 eqS (.sl (Sl.mk none 0 0))∧
 eqS (.sl x3)∧
 J182 x595 w594)∧
 (IxOk x134 n426∧
 (IxOk x68 n195∧
 (ldF w425 x68 n195 fun x596 n597 n598 n599 x600=>
 (ldF w425 x134 n426 fun x601 n602 n603 n604 x605=>
 tI 61 #[.pointer (some (a_0.add 0)),.int .i64 (x180.n:Int)] w425 fun n608 w607=>
 IxOk x180 n608∧
 ldF w607 x180 n608 fun x609 n610 n611 n612 x613=>
 bS 29 4 #[(0,(.agg #[x188.val,.int .i64 n189,.int .i64 n190,.int .i64 n191,x192.val])),(1,(.agg #[x596.val,.int .i64 n597,.int .i64 n598,.int .i64 n599,x600.val])),(2,(.agg #[x601.val,.int .i64 n602,.int .i64 n603,.int .i64 n604,x605.val])),(3,(.agg #[x609.val,.int .i64 n610,.int .i64 n611,.int .i64 n612,x613.val]))] w607 fun x616 w615=>
 eqS (.sl (Sl.mk none 0 0))∧
 eqS (.sl (Sl.mk none 0 0))∧
 eqS (.sl x3)∧
 J182 x616 w615)∧
 tI 61 #[.pointer (some (a_0.add 0)),.int .i64 (x180.n:Int)] w425 fun n619 w618=>
 ldF w618 x134 n426 fun x620 n621 n622 n623 x624=>
 IxOk x180 n619∧
 ldF w618 x180 n619 fun x625 n626 n627 n628 x629=>
 bS 29 4 #[(0,(.agg #[x188.val,.int .i64 n189,.int .i64 n190,.int .i64 n191,x192.val])),(1,(.agg #[x596.val,.int .i64 n597,.int .i64 n598,.int .i64 n599,x600.val])),(2,(.agg #[x620.val,.int .i64 n621,.int .i64 n622,.int .i64 n623,x624.val])),(3,(.agg #[x625.val,.int .i64 n626,.int .i64 n627,.int .i64 n628,x629.val]))] w618 fun x632 w631=>
 eqS (.sl (Sl.mk none 0 0))∧
 eqS (.sl (Sl.mk none 0 0))∧
 eqS (.sl x3)∧
 J182 x632 w631)∧
 (ldF w425 x134 n426 fun x633 n634 n635 n636 x637=>
 (ldF w425 x68 n195 fun x638 n639 n640 n641 x642=>
 tI 61 #[.pointer (some (a_0.add 0)),.int .i64 (x180.n:Int)] w425 fun n645 w644=>
 IxOk x180 n645∧
 ldF w644 x180 n645 fun x646 n647 n648 n649 x650=>
 bS 29 4 #[(0,(.agg #[x188.val,.int .i64 n189,.int .i64 n190,.int .i64 n191,x192.val])),(1,(.agg #[x638.val,.int .i64 n639,.int .i64 n640,.int .i64 n641,x642.val])),(2,(.agg #[x633.val,.int .i64 n634,.int .i64 n635,.int .i64 n636,x637.val])),(3,(.agg #[x646.val,.int .i64 n647,.int .i64 n648,.int .i64 n649,x650.val]))] w644 fun x653 w652=>
 eqS (.sl (Sl.mk none 0 0))∧
 eqS (.sl (Sl.mk none 0 0))∧
 eqS (.sl x3)∧
 J182 x653 w652)∧
 tI 61 #[.pointer (some (a_0.add 0)),.int .i64 (x180.n:Int)] w425 fun n656 w655=>
 ldF w655 x68 n195 fun x657 n658 n659 n660 x661=>
 IxOk x180 n656∧
 ldF w655 x180 n656 fun x662 n663 n664 n665 x666=>
 bS 29 4 #[(0,(.agg #[x188.val,.int .i64 n189,.int .i64 n190,.int .i64 n191,x192.val])),(1,(.agg #[x657.val,.int .i64 n658,.int .i64 n659,.int .i64 n660,x661.val])),(2,(.agg #[x633.val,.int .i64 n634,.int .i64 n635,.int .i64 n636,x637.val])),(3,(.agg #[x662.val,.int .i64 n663,.int .i64 n664,.int .i64 n665,x666.val]))] w655 fun x669 w668=>
 eqS (.sl (Sl.mk none 0 0))∧
 eqS (.sl (Sl.mk none 0 0))∧
 eqS (.sl x3)∧
 J182 x669 w668)∧
 tI 61 #[.pointer (some (a_0.add 0)),.int .i64 (x180.n:Int)] w425 fun n672 w671=>
 ldF w671 x68 n195 fun x673 n674 n675 n676 x677=>
 ldF w671 x134 n426 fun x678 n679 n680 n681 x682=>
 IxOk x180 n672∧
 ldF w671 x180 n672 fun x683 n684 n685 n686 x687=>
 bS 29 4 #[(0,(.agg #[x188.val,.int .i64 n189,.int .i64 n190,.int .i64 n191,x192.val])),(1,(.agg #[x673.val,.int .i64 n674,.int .i64 n675,.int .i64 n676,x677.val])),(2,(.agg #[x678.val,.int .i64 n679,.int .i64 n680,.int .i64 n681,x682.val])),(3,(.agg #[x683.val,.int .i64 n684,.int .i64 n685,.int .i64 n686,x687.val]))] w671 fun x690 w689=>
 eqS (.sl (Sl.mk none 0 0))∧
 eqS (.sl (Sl.mk none 0 0))∧
 eqS (.sl x3)∧
 J182 x690 w689)∧
 (ldF w425 x134 n426 fun x691 n692 n693 n694 x695=>
 (IxOk x68 n195∧
 (ldF w425 x68 n195 fun x696 n697 n698 n699 x700=>
 tI 61 #[.pointer (some (a_0.add 0)),.int .i64 (x180.n:Int)] w425 fun n703 w702=>
 IxOk x180 n703∧
 ldF w702 x180 n703 fun x704 n705 n706 n707 x708=>
 bS 29 4 #[(0,(.agg #[x188.val,.int .i64 n189,.int .i64 n190,.int .i64 n191,x192.val])),(1,(.agg #[x696.val,.int .i64 n697,.int .i64 n698,.int .i64 n699,x700.val])),(2,(.agg #[x691.val,.int .i64 n692,.int .i64 n693,.int .i64 n694,x695.val])),(3,(.agg #[x704.val,.int .i64 n705,.int .i64 n706,.int .i64 n707,x708.val]))] w702 fun x711 w710=>
 eqS (.sl (Sl.mk none 0 0))∧
 eqS (.sl (Sl.mk none 0 0))∧
 eqS (.sl x3)∧
 J182 x711 w710)∧
 tI 61 #[.pointer (some (a_0.add 0)),.int .i64 (x180.n:Int)] w425 fun n714 w713=>
 ldF w713 x68 n195 fun x715 n716 n717 n718 x719=>
 IxOk x180 n714∧
 ldF w713 x180 n714 fun x720 n721 n722 n723 x724=>
 bS 29 4 #[(0,(.agg #[x188.val,.int .i64 n189,.int .i64 n190,.int .i64 n191,x192.val])),(1,(.agg #[x715.val,.int .i64 n716,.int .i64 n717,.int .i64 n718,x719.val])),(2,(.agg #[x691.val,.int .i64 n692,.int .i64 n693,.int .i64 n694,x695.val])),(3,(.agg #[x720.val,.int .i64 n721,.int .i64 n722,.int .i64 n723,x724.val]))] w713 fun x727 w726=>
 eqS (.sl (Sl.mk none 0 0))∧
 eqS (.sl (Sl.mk none 0 0))∧
 eqS (.sl x3)∧
 J182 x727 w726)∧
 tI 61 #[.pointer (some (a_0.add 0)),.int .i64 (x180.n:Int)] w425 fun n730 w729=>
 IxOk x68 n195∧
 ldF w729 x68 n195 fun x731 n732 n733 n734 x735=>
 IxOk x180 n730∧
 ldF w729 x180 n730 fun x736 n737 n738 n739 x740=>
 bS 29 4 #[(0,(.agg #[x188.val,.int .i64 n189,.int .i64 n190,.int .i64 n191,x192.val])),(1,(.agg #[x731.val,.int .i64 n732,.int .i64 n733,.int .i64 n734,x735.val])),(2,(.agg #[x691.val,.int .i64 n692,.int .i64 n693,.int .i64 n694,x695.val])),(3,(.agg #[x736.val,.int .i64 n737,.int .i64 n738,.int .i64 n739,x740.val]))] w729 fun x743 w742=>
 eqS (.sl (Sl.mk none 0 0))∧
 eqS (.sl (Sl.mk none 0 0))∧
 eqS (.sl x3)∧
 J182 x743 w742)∧
 tI 61 #[.pointer (some (a_0.add 0)),.int .i64 (x180.n:Int)] w425 fun n746 w745=>
 IxOk x68 n195∧
 ldF w745 x68 n195 fun x747 n748 n749 n750 x751=>
 ldF w745 x134 n426 fun x752 n753 n754 n755 x756=>
 IxOk x180 n746∧
 ldF w745 x180 n746 fun x757 n758 n759 n760 x761=>
 bS 29 4 #[(0,(.agg #[x188.val,.int .i64 n189,.int .i64 n190,.int .i64 n191,x192.val])),(1,(.agg #[x747.val,.int .i64 n748,.int .i64 n749,.int .i64 n750,x751.val])),(2,(.agg #[x752.val,.int .i64 n753,.int .i64 n754,.int .i64 n755,x756.val])),(3,(.agg #[x757.val,.int .i64 n758,.int .i64 n759,.int .i64 n760,x761.val]))] w745 fun x764 w763=>
 eqS (.sl (Sl.mk none 0 0))∧
 eqS (.sl (Sl.mk none 0 0))∧
 eqS (.sl x3)∧
 J182 x764 w763)∧
 tI 61 #[.pointer (some (a_0.add 0)),.int .i64 (x180.n:Int)] w425 fun n767 w766=>
 IxOk x68 n195∧
 ldF w766 x68 n195 fun x768 n769 n770 n771 x772=>
 IxOk x134 n426∧
 ldF w766 x134 n426 fun x773 n774 n775 n776 x777=>
 IxOk x180 n767∧
 ldF w766 x180 n767 fun x778 n779 n780 n781 x782=>
 bS 29 4 #[(0,(.agg #[x188.val,.int .i64 n189,.int .i64 n190,.int .i64 n191,x192.val])),(1,(.agg #[x768.val,.int .i64 n769,.int .i64 n770,.int .i64 n771,x772.val])),(2,(.agg #[x773.val,.int .i64 n774,.int .i64 n775,.int .i64 n776,x777.val])),(3,(.agg #[x778.val,.int .i64 n779,.int .i64 n780,.int .i64 n781,x782.val]))] w766 fun x785 w784=>
 eqS (.sl (Sl.mk none 0 0))∧
 eqS (.sl (Sl.mk none 0 0))∧
 eqS (.sl x3)∧
 J182 x785 w784)∧
 ∀ x786:Sl,∀ w787:World,J182 x786 w787→
 bS 68 5 #[(0,(.int .i64 4)),(1,(.int .i64 4)),(2,(.int .i64 3)),(3,(.int .i64 2)),(4,(.int .i64 4))] w787 fun x790 w789=>
 tI 120 #[.pointer (some (a_0.add 0)),x790.val] w789 fun n793 w792=>
 CutOk x786 0 n793∧
 ∃ n794:Int,Wr .i64 (n793 - 1) n794∧
 ∃ I795:Int→World→Prop,∃ m796:Int→World→Nat,I795 n794 w792∧
 ∀ n797:Int,∀ w798:World,I795 n797 w798→
 ((decide (n797≥0))=true→
 tE 121 #[.pointer (some (a_0.add 0)),.agg #[x3.val,(x786.cut 0 n793 5).val],.int .i64 n797] w798 fun n801 n802 x803 w800=>
 IxOk (x786.cut 0 n793 5) n797∧
 ∃ x804:Sl,w800.cell? ((elA (x786.cut 0 n793 5) n797 5).add 0)=some (x804.val)∧
 IxOk (x786.cut 0 n793 5) n797∧
 ∃ n805:Int,w800.cell? ((elA (x786.cut 0 n793 5) n797 5).add 1)=some (.int .i64 n805)∧
 IxOk (x786.cut 0 n793 5) n797∧
 StoreAt w800 (elA (x786.cut 0 n793 5) n797 5) 0 [x804.val,.int .i64 n805,.int .i64 n801,.int .i64 n802,x803.val] fun w806=>
 ∃ n807:Int,Wr .i64 (n797 - 1) n807∧
 eqS (.sl (Sl.mk none 0 0))∧
 eqS (.sl (Sl.mk none 0 0))∧
 eqS (.sl x3)∧
 eqS (.sl (x786.cut 0 n793 5))∧
 I795 n807 w806∧
 m796 n807 w806 < m796 n797 w798)∧
 ((decide (n797≥0))=false→
 Q (.agg #[x3.val,(x786.cut 0 n793 5).val]) w798)
theorem of68 (a_0:Addr) (v:World) (Q:QT) (h:vc68 a_0 v Q):Trip Tryz.prog 68 #[.pointer (some (a_0.add 0))] v Q:=
 trip_of_eq (args:=[.pt a_0 0]) (A:=⟨[(9,[(8,.int .i64)],[])],[(3,[(4,.sl)],[]),(4,[(5,.sl)],[]),(5,[(6,.sl)],[]),(6,[],[(1,1,.sl)])],[(5,[0,1]),(12,[])],[],psG⟩) Tryz.func68 (by kernel_rfl) (by kernel_rfl) (by kernel_rfl:vc68 a_0 v Q=_) h
def vc69 (x0_0:Sl) (x0_1:Sl) (v:World) (Q:QT):Prop:=
 StepT Tryz.prog (Instr.makeSlice 153 (.int .i64 0) (.int .i64 4)) v fun r1 w2=>
 ∃ x3:Sl,r1=x3.val∧
 ((decide ((x0_1.n:Int) > 4))=true→
 Q (.bool false) w2)∧
 ((decide ((x0_1.n:Int) > 4))=false→
 ∃ I4:Sl→Int→World→Prop,∃ m5:Sl→Int→World→Nat,I4 x3 0 w2∧
 ∀ x6:Sl,∀ n7:Int,∀ w8:World,I4 x6 n7 w8→
 ((decide (n7 < (x0_1.n:Int)))=true→
 IxOk x0_1 n7∧
 ldF w8 x0_1 n7 fun x9 n10 n11 n12 x13=>
 bS 153 1 #[(0,(.agg #[x9.val,.slice none 0 0,.int .i64 n10]))] w8 fun x16 w15=>
 StepT Tryz.prog (Builtin.append_ #[153,153] 153 #[(x6.val),(x16.val)]) w15 fun r17 w18=>
 ∃ x19:Sl,r17=x19.val∧
 ∃ n20:Int,Wr .i64 (n7+1) n20∧
 eqS (.sl x0_0)∧
 eqS (.sl x0_1)∧
 I4 x19 n20 w18∧
 m5 x19 n20 w18 < m5 x6 n7 w8)∧
 ((decide (n7 < (x0_1.n:Int)))=false→
 ∃ q21:Bool,(Trip Tryz.prog 122 #[x0_0.val,x6.val] w8 fun r22 w23=>r22=.bool q21∧Sub w8 w23)∧
 Q (.bool q21) w8))
theorem of69 (x0_0:Sl) (x0_1:Sl) (v:World) (Q:QT) (h:vc69 x0_0 x0_1 v Q):Trip Tryz.prog 69 #[.agg #[x0_0.val,x0_1.val]] v Q:=
 trip_of_eq (args:=[.ag [.sl x0_0,.sl x0_1]]) (A:=⟨[(5,[(3,.sl),(14,.int .i64)],[])],[],[],[],psG⟩) Tryz.func69 (by kernel_rfl) (by kernel_rfl) (by kernel_rfl:vc69 x0_0 x0_1 v Q=_) h
def vc70 (x0_0:Sl) (x0_1:Sl) (x_1:Sl) (n2_0:Int) (n2_1:Int) (x2_2:Sl) (v:World) (Q:QT):Prop:=
 ∃ q1:Bool,(Trip Tryz.prog 69 #[.agg #[x0_0.val,x0_1.val]] v fun r2 w3=>r2=.bool q1∧Sub v w3)∧
 ∃ n4:Int,((!q1)=false→
 (Trip Tryz.prog 26 #[.agg #[.int .i64 n2_0,.int .i64 n2_1,x2_2.val]] v fun r5 w6=>r5=.int .i64 n4∧Sub v w6))∧
 ∃ q7:Bool,(((!q1) || (decide (n4 < 0)))=false→
 (Trip Tryz.prog 123 #[x0_0.val,x_1.val] v fun r8 w9=>r8=.bool q7∧Sub v w9))∧
 ((((!q1) || (decide (n4 < 0))) || (!q7))=true→
 Q (.int .i64 (-1)) v)∧
 ((((!q1) || (decide (n4 < 0))) || (!q7))=false→
 Trip Tryz.prog 124 #[.agg #[x0_0.val,x0_1.val]] v fun r10 w11=>
 ∃ x12:Sl,∃ x13:Sl,r10=.agg #[x12.val,x13.val]∧
 Sub v w11∧
 tS 126 #[x_1.val] w11 fun x16 w15=>
 Sub w11 w15∧
 tI 125 #[.agg #[x12.val,x13.val],x16.val,.agg #[.int .i64 n2_0,.int .i64 n2_1,x2_2.val]] w15 fun n19 w18=>
 Q (.int .i64 n19) w18)
theorem of70 (x0_0:Sl) (x0_1:Sl) (x_1:Sl) (n2_0:Int) (n2_1:Int) (x2_2:Sl) (v:World) (Q:QT) (h:vc70 x0_0 x0_1 x_1 n2_0 n2_1 x2_2 v Q):Trip Tryz.prog 70 #[.agg #[x0_0.val,x0_1.val],x_1.val,.agg #[.int .i64 n2_0,.int .i64 n2_1,x2_2.val]] v Q:=
 trip_of_eq (args:=[.ag [.sl x0_0,.sl x0_1],.sl x_1,.ag [.num .i64 n2_0,.num .i64 n2_1,.sl x2_2]]) (A:=⟨[],[],[(3,[1,3])],[],psG⟩) Tryz.func70 (by kernel_rfl) (by kernel_rfl) (by kernel_rfl:vc70 x0_0 x0_1 x_1 n2_0 n2_1 x2_2 v Q=_) h
def vc73 (x0_0:Sl) (x0_1:Sl) (v:World) (Q:QT):Prop:=
 ∃ q1:Bool,(Trip Tryz.prog 130 #[x0_0.val] v fun r2 w3=>r2=.bool q1∧Sub v w3)∧
 ∃ q4:Bool,((!q1)=false→
 (Trip Tryz.prog 107 #[.int .i64 (x0_1.n:Int),.int .i64 1,.int .i64 4] v fun r5 w6=>r5=.bool q4∧Sub v w6))∧
 (((!q1) || (!q4))=true→
 Q (.bool false) v)∧
 (((!q1) || (!q4))=false→
 ∃ I7:Int→World→Prop,∃ m8:Int→World→Nat,I7 0 v∧
 ∀ n9:Int,∀ w10:World,I7 n9 w10→
 ((decide (n9 < (x0_1.n:Int)))=true→
 IxOk x0_1 n9∧
 ldF w10 x0_1 n9 fun x11 n12 n13 n14 x15=>
 ∃ q16:Bool,((decide ((x11.n:Int) > 3))=false→
 (Trip Tryz.prog 131 #[x0_0.val,x11.val] w10 fun r17 w18=>r17=.bool q16∧Sub w10 w18))∧
 ∃ q19:Bool,(((decide ((x11.n:Int) > 3)) || (!q16))=false→
 (Trip Tryz.prog 107 #[.int .i64 n12,.int .i64 0,.int .i64 (x0_0.n:Int)] w10 fun r20 w21=>r20=.bool q19∧Sub w10 w21))∧
 ((((decide ((x11.n:Int) > 3)) || (!q16)) || (!q19))=true→
 Q (.bool false) w10)∧
 ((((decide ((x11.n:Int) > 3)) || (!q16)) || (!q19))=false→
 ∃ n22:Int,Wr .i64 (n9+1) n22∧
 eqS (.sl x0_0)∧
 eqS (.sl x0_1)∧
 I7 n22 w10∧
 m8 n22 w10 < m8 n9 w10))∧
 ((decide (n9 < (x0_1.n:Int)))=false→
 IxOk x0_1 0∧
 ∃ x23:Sl,w10.cell? ((elA x0_1 0 5).add 0)=some (x23.val)∧
 ((decide ((x23.n:Int)=0))=true→
 IxOk x0_1 0)∧
 ∃ n24:Int,((decide ((x23.n:Int)=0))=true→
 w10.cell? ((elA x0_1 0 5).add 1)=some (.int .i64 n24))∧
 Q (.bool ((decide ((x23.n:Int)=0)) && (decide (n24=0)))) w10))
theorem of73 (x0_0:Sl) (x0_1:Sl) (v:World) (Q:QT) (h:vc73 x0_0 x0_1 v Q):Trip Tryz.prog 73 #[.agg #[x0_0.val,x0_1.val]] v Q:=
 trip_of_eq (args:=[.ag [.sl x0_0,.sl x0_1]]) (A:=⟨[(4,[(3,.int .i64)],[])],[],[],[],psG⟩) Tryz.func73 (by kernel_rfl) (by kernel_rfl) (by kernel_rfl:vc73 x0_0 x0_1 v Q=_) h
def vc74 (x0_0:Sl) (x0_1:Sl) (x_1:Sl) (n2_0:Int) (n2_1:Int) (x2_2:Sl) (v:World) (Q:QT):Prop:=
 ((decide (n2_0=0))=true→
 ∃ q1:Bool,((decide ((x2_2.n:Int)=0))=true→
 (Trip Tryz.prog 107 #[.int .i64 n2_1,.int .i64 (-999),.int .i64 999] v fun r2 w3=>r2=.bool q1∧Sub v w3))∧
 (((decide ((x2_2.n:Int)=0)) && q1)=true→
 Q (.int .i64 0) v)∧
 (((decide ((x2_2.n:Int)=0)) && q1)=false→
 Q (.int .i64 (-1)) v))∧
 ((decide (n2_0=0))=false→
 ((decide (n2_0=12))=true→
 ∃ n4:Int,((decide ((x2_2.n:Int)=0))=true→
 Wr .i64 ((x_1.n:Int) - 1) n4)∧
 ∃ q5:Bool,((decide ((x2_2.n:Int)=0))=true→
 (Trip Tryz.prog 107 #[.int .i64 n2_1,.int .i64 0,.int .i64 n4] v fun r6 w7=>r6=.bool q5∧Sub v w7))∧
 (((decide ((x2_2.n:Int)=0)) && q5)=true→
 IxOk x_1 n2_1∧
 ∃ n8:Int,v.cell? ((elA x_1 n2_1 1).add 0)=some (.int .i64 n8)∧
 Q (.int .i64 n8) v)∧
 (((decide ((x2_2.n:Int)=0)) && q5)=false→
 Q (.int .i64 (-1)) v))∧
 ((decide (n2_0=12))=false→
 ((decide (n2_0=1))=true→
 ((decide (n2_0=1))=true→
 ∃ q9:Bool,((decide (n2_1=0))=true→
 (Trip Tryz.prog 132 #[.agg #[x0_0.val,x0_1.val],x_1.val,x2_2.val,.int .i64 2] v fun r10 w11=>r10=.bool q9∧Sub v w11))∧
 (((decide (n2_1=0)) && q9)=true→
 Q (.int .i64 0) v)∧
 (((decide (n2_1=0)) && q9)=false→
 Q (.int .i64 (-1)) v))∧
 ((decide (n2_0=1))=false→
 ((decide (n2_0=5))=true→
 ∃ q12:Bool,((decide (n2_1=0))=true→
 (Trip Tryz.prog 132 #[.agg #[x0_0.val,x0_1.val],x_1.val,x2_2.val,.int .i64 1] v fun r13 w14=>r13=.bool q12∧Sub v w14))∧
 (((decide (n2_1=0)) && q12)=true→
 Q (.int .i64 0) v)∧
 (((decide (n2_1=0)) && q12)=false→
 Q (.int .i64 (-1)) v))∧
 ((decide (n2_0=5))=false→
 ((decide (n2_0=6))=true→
 ∃ n15:Int,(Trip Tryz.prog 133 #[x0_0.val,.int .i64 n2_1] v fun r16 w17=>r16=.int .i64 n15∧Sub v w17)∧
 ((decide (n15 > 0))=true→
 tS 135 #[x0_0.val,.int .i64 n2_1] v fun x20 w19=>
 Sub v w19∧
 ∃ q21:Bool,(Trip Tryz.prog 134 #[.agg #[x0_0.val,x0_1.val],x_1.val,x2_2.val,x20.val] w19 fun r22 w23=>r22=.bool q21∧Sub w19 w23)∧
 (q21=true→
 ∃ n24:Int,(Trip Tryz.prog 133 #[x0_0.val,.int .i64 n2_1] w19 fun r25 w26=>r25=.int .i64 n24∧Sub w19 w26)∧
 Q (.int .i64 n24) w19)∧
 (q21=false→
 Q (.int .i64 (-1)) w19))∧
 ((decide (n15 > 0))=false→
 Sub v v∧
 Q (.int .i64 (-1)) v))∧
 ((decide (n2_0=6))=false→
 ((decide (n2_0=13))=true→
 (((decide (n2_1=0)) && (decide ((x2_2.n:Int)=2)))=true→
 IxOk x2_2 0∧
 ldT v x2_2 0 fun n27 n28 x29=>
 ∃ n30:Int,(Trip Tryz.prog 74 #[.agg #[x0_0.val,x0_1.val],x_1.val,.agg #[.int .i64 n27,.int .i64 n28,x29.val]] v fun r31 w32=>r31=.int .i64 n30∧Sub v w32)∧
 ((decide (n30≥0))=true→
 IxOk x2_2 1∧
 ldT v x2_2 1 fun n33 n34 x35=>
 bS 68 1 #[(0,(.int .i64 n30))] v fun x38 w37=>
 Sub v w37∧
 tS 136 #[x_1.val,x38.val] w37 fun x41 w40=>
 Sub w37 w40∧
 ∃ n42:Int,(Trip Tryz.prog 74 #[.agg #[x0_0.val,x0_1.val],x41.val,.agg #[.int .i64 n33,.int .i64 n34,x35.val]] w40 fun r43 w44=>r43=.int .i64 n42∧Sub w40 w44)∧
 Q (.int .i64 n42) w40)∧
 ((decide (n30≥0))=false→
 Q (.int .i64 (-1)) v))∧
 (((decide (n2_1=0)) && (decide ((x2_2.n:Int)=2)))=false→
 Q (.int .i64 (-1)) v))∧
 ((decide (n2_0=13))=false→
 ((decide (n2_0=7))=true→
 (((decide (n2_1=0)) && (decide ((x2_2.n:Int)=3)))=true→
 IxOk x2_2 0)∧
 ∃ n45:Int,∃ n46:Int,∃ x47:Sl,(((decide (n2_1=0)) && (decide ((x2_2.n:Int)=3)))=true→
 v.cell? ((elA x2_2 0 3).add 0)=some (.int .i64 n45)∧
 v.cell? ((elA x2_2 0 3).add 1)=some (.int .i64 n46)∧
 v.cell? ((elA x2_2 0 3).add 2)=some (x47.val))∧
 ∃ n48:Int,(((decide (n2_1=0)) && (decide ((x2_2.n:Int)=3)))=true→
 (Trip Tryz.prog 74 #[.agg #[x0_0.val,x0_1.val],x_1.val,.agg #[.int .i64 n45,.int .i64 n46,x47.val]] v fun r49 w50=>r49=.int .i64 n48∧Sub v w50))∧
 ((((decide (n2_1=0)) && (decide ((x2_2.n:Int)=3))) && (decide (n48=0)))=true→
 IxOk x2_2 1∧
 ldT v x2_2 1 fun n51 n52 x53=>
 ∃ n54:Int,(Trip Tryz.prog 74 #[.agg #[x0_0.val,x0_1.val],x_1.val,.agg #[.int .i64 n51,.int .i64 n52,x53.val]] v fun r55 w56=>r55=.int .i64 n54∧Sub v w56)∧
 IxOk x2_2 2∧
 ldT v x2_2 2 fun n57 n58 x59=>
 ∃ n60:Int,(Trip Tryz.prog 74 #[.agg #[x0_0.val,x0_1.val],x_1.val,.agg #[.int .i64 n57,.int .i64 n58,x59.val]] v fun r61 w62=>r61=.int .i64 n60∧Sub v w62)∧
 ((decide (n60=n54))=true→
 Q (.int .i64 n54) v)∧
 ((decide (n60=n54))=false→
 Q (.int .i64 (-1)) v))∧
 ((((decide (n2_1=0)) && (decide ((x2_2.n:Int)=3))) && (decide (n48=0)))=false→
 Q (.int .i64 (-1)) v))∧
 ((decide (n2_0=7))=false→
 ((decide (n2_0=8))=true→
 ∃ n63:Int,(Trip Tryz.prog 137 #[.agg #[x0_0.val,x0_1.val],x_1.val,.agg #[.int .i64 n2_0,.int .i64 n2_1,x2_2.val]] v fun r64 w65=>r64=.int .i64 n63∧Sub v w65)∧
 Q (.int .i64 n63) v)∧
 ((decide (n2_0=8))=false→
 ((decide (n2_0=9))=true→
 ((decide (n2_0=9))=true→
 ∃ n66:Int,(Trip Tryz.prog 138 #[.agg #[x0_0.val,x0_1.val],x_1.val,.agg #[.int .i64 n2_0,.int .i64 n2_1,x2_2.val]] v fun r67 w68=>r67=.int .i64 n66∧Sub v w68)∧
 Q (.int .i64 n66) v)∧
 ((decide (n2_0=9))=false→
 ((decide (n2_0=11))=true→
 (((decide (n2_1=0)) && (decide ((x2_2.n:Int)=2)))=true→
 IxOk x2_2 0∧
 ldT v x2_2 0 fun n69 n70 x71=>
 ∃ n72:Int,(Trip Tryz.prog 74 #[.agg #[x0_0.val,x0_1.val],x_1.val,.agg #[.int .i64 n69,.int .i64 n70,x71.val]] v fun r73 w74=>r73=.int .i64 n72∧Sub v w74)∧
 ∃ q75:Bool,(Trip Tryz.prog 139 #[x0_0.val,.int .i64 n72] v fun r76 w77=>r76=.bool q75∧Sub v w77)∧
 (q75=true→
 IxOk x2_2 1)∧
 ∃ n78:Int,∃ n79:Int,∃ x80:Sl,(q75=true→
 v.cell? ((elA x2_2 1 3).add 0)=some (.int .i64 n78)∧
 v.cell? ((elA x2_2 1 3).add 1)=some (.int .i64 n79)∧
 v.cell? ((elA x2_2 1 3).add 2)=some (x80.val))∧
 ∃ n81:Int,(q75=true→
 (Trip Tryz.prog 74 #[.agg #[x0_0.val,x0_1.val],x_1.val,.agg #[.int .i64 n78,.int .i64 n79,x80.val]] v fun r82 w83=>r82=.int .i64 n81∧Sub v w83))∧
 ∃ n84:Int,(q75=true→
 Wr .i64 (n72 - 1) n84)∧
 (q75=true→
 IxOk x0_0 n84)∧
 ∃ n85:Int,(q75=true→
 v.cell? ((elA x0_0 n84 3).add 0)=some (.int .i64 n85))∧
 ((q75 && (decide (n81=n85)))=true→
 ∃ n86:Int,Wr .i64 (n72 - 1) n86∧
 IxOk x0_0 n86∧
 ∃ n87:Int,v.cell? ((elA x0_0 n86 3).add 1)=some (.int .i64 n87)∧
 Q (.int .i64 n87) v)∧
 ((q75 && (decide (n81=n85)))=false→
 Q (.int .i64 (-1)) v))∧
 (((decide (n2_1=0)) && (decide ((x2_2.n:Int)=2)))=false→
 Q (.int .i64 (-1)) v))∧
 ((decide (n2_0=11))=false→
 Q (.int .i64 (-1)) v)))∧
 ((decide (n2_0=9))=false→
 ((decide (n2_0=10))=true→
 ∃ n88:Int,(Trip Tryz.prog 138 #[.agg #[x0_0.val,x0_1.val],x_1.val,.agg #[.int .i64 n2_0,.int .i64 n2_1,x2_2.val]] v fun r89 w90=>r89=.int .i64 n88∧Sub v w90)∧
 Q (.int .i64 n88) v)∧
 ((decide (n2_0=10))=false→
 ((decide (n2_0=11))=true→
 (((decide (n2_1=0)) && (decide ((x2_2.n:Int)=2)))=true→
 IxOk x2_2 0∧
 ldT v x2_2 0 fun n91 n92 x93=>
 ∃ n94:Int,(Trip Tryz.prog 74 #[.agg #[x0_0.val,x0_1.val],x_1.val,.agg #[.int .i64 n91,.int .i64 n92,x93.val]] v fun r95 w96=>r95=.int .i64 n94∧Sub v w96)∧
 ∃ q97:Bool,(Trip Tryz.prog 139 #[x0_0.val,.int .i64 n94] v fun r98 w99=>r98=.bool q97∧Sub v w99)∧
 (q97=true→
 IxOk x2_2 1)∧
 ∃ n100:Int,∃ n101:Int,∃ x102:Sl,(q97=true→
 v.cell? ((elA x2_2 1 3).add 0)=some (.int .i64 n100)∧
 v.cell? ((elA x2_2 1 3).add 1)=some (.int .i64 n101)∧
 v.cell? ((elA x2_2 1 3).add 2)=some (x102.val))∧
 ∃ n103:Int,(q97=true→
 (Trip Tryz.prog 74 #[.agg #[x0_0.val,x0_1.val],x_1.val,.agg #[.int .i64 n100,.int .i64 n101,x102.val]] v fun r104 w105=>r104=.int .i64 n103∧Sub v w105))∧
 ∃ n106:Int,(q97=true→
 Wr .i64 (n94 - 1) n106)∧
 (q97=true→
 IxOk x0_0 n106)∧
 ∃ n107:Int,(q97=true→
 v.cell? ((elA x0_0 n106 3).add 0)=some (.int .i64 n107))∧
 ((q97 && (decide (n103=n107)))=true→
 ∃ n108:Int,Wr .i64 (n94 - 1) n108∧
 IxOk x0_0 n108∧
 ∃ n109:Int,v.cell? ((elA x0_0 n108 3).add 1)=some (.int .i64 n109)∧
 Q (.int .i64 n109) v)∧
 ((q97 && (decide (n103=n107)))=false→
 Q (.int .i64 (-1)) v))∧
 (((decide (n2_1=0)) && (decide ((x2_2.n:Int)=2)))=false→
 Q (.int .i64 (-1)) v))∧
 ((decide (n2_0=11))=false→
 Q (.int .i64 (-1)) v))))))))))∧
 ((decide (n2_0=1))=false→
 ((decide (n2_0=2))=true→
 ((decide (n2_0=2))=true→
 ∃ q110:Bool,((decide (n2_1=0))=true→
 (Trip Tryz.prog 132 #[.agg #[x0_0.val,x0_1.val],x_1.val,x2_2.val,.int .i64 2] v fun r111 w112=>r111=.bool q110∧Sub v w112))∧
 (((decide (n2_1=0)) && q110)=true→
 Q (.int .i64 0) v)∧
 (((decide (n2_1=0)) && q110)=false→
 Q (.int .i64 (-1)) v))∧
 ((decide (n2_0=2))=false→
 ((decide (n2_0=5))=true→
 ∃ q113:Bool,((decide (n2_1=0))=true→
 (Trip Tryz.prog 132 #[.agg #[x0_0.val,x0_1.val],x_1.val,x2_2.val,.int .i64 1] v fun r114 w115=>r114=.bool q113∧Sub v w115))∧
 (((decide (n2_1=0)) && q113)=true→
 Q (.int .i64 0) v)∧
 (((decide (n2_1=0)) && q113)=false→
 Q (.int .i64 (-1)) v))∧
 ((decide (n2_0=5))=false→
 ((decide (n2_0=6))=true→
 ∃ n116:Int,(Trip Tryz.prog 133 #[x0_0.val,.int .i64 n2_1] v fun r117 w118=>r117=.int .i64 n116∧Sub v w118)∧
 ((decide (n116 > 0))=true→
 tS 135 #[x0_0.val,.int .i64 n2_1] v fun x121 w120=>
 Sub v w120∧
 ∃ q122:Bool,(Trip Tryz.prog 134 #[.agg #[x0_0.val,x0_1.val],x_1.val,x2_2.val,x121.val] w120 fun r123 w124=>r123=.bool q122∧Sub w120 w124)∧
 (q122=true→
 ∃ n125:Int,(Trip Tryz.prog 133 #[x0_0.val,.int .i64 n2_1] w120 fun r126 w127=>r126=.int .i64 n125∧Sub w120 w127)∧
 Q (.int .i64 n125) w120)∧
 (q122=false→
 Q (.int .i64 (-1)) w120))∧
 ((decide (n116 > 0))=false→
 Sub v v∧
 Q (.int .i64 (-1)) v))∧
 ((decide (n2_0=6))=false→
 ((decide (n2_0=13))=true→
 (((decide (n2_1=0)) && (decide ((x2_2.n:Int)=2)))=true→
 IxOk x2_2 0∧
 ldT v x2_2 0 fun n128 n129 x130=>
 ∃ n131:Int,(Trip Tryz.prog 74 #[.agg #[x0_0.val,x0_1.val],x_1.val,.agg #[.int .i64 n128,.int .i64 n129,x130.val]] v fun r132 w133=>r132=.int .i64 n131∧Sub v w133)∧
 ((decide (n131≥0))=true→
 IxOk x2_2 1∧
 ldT v x2_2 1 fun n134 n135 x136=>
 bS 68 1 #[(0,(.int .i64 n131))] v fun x139 w138=>
 Sub v w138∧
 tS 136 #[x_1.val,x139.val] w138 fun x142 w141=>
 Sub w138 w141∧
 ∃ n143:Int,(Trip Tryz.prog 74 #[.agg #[x0_0.val,x0_1.val],x142.val,.agg #[.int .i64 n134,.int .i64 n135,x136.val]] w141 fun r144 w145=>r144=.int .i64 n143∧Sub w141 w145)∧
 Q (.int .i64 n143) w141)∧
 ((decide (n131≥0))=false→
 Q (.int .i64 (-1)) v))∧
 (((decide (n2_1=0)) && (decide ((x2_2.n:Int)=2)))=false→
 Q (.int .i64 (-1)) v))∧
 ((decide (n2_0=13))=false→
 ((decide (n2_0=7))=true→
 (((decide (n2_1=0)) && (decide ((x2_2.n:Int)=3)))=true→
 IxOk x2_2 0)∧
 ∃ n146:Int,∃ n147:Int,∃ x148:Sl,(((decide (n2_1=0)) && (decide ((x2_2.n:Int)=3)))=true→
 v.cell? ((elA x2_2 0 3).add 0)=some (.int .i64 n146)∧
 v.cell? ((elA x2_2 0 3).add 1)=some (.int .i64 n147)∧
 v.cell? ((elA x2_2 0 3).add 2)=some (x148.val))∧
 ∃ n149:Int,(((decide (n2_1=0)) && (decide ((x2_2.n:Int)=3)))=true→
 (Trip Tryz.prog 74 #[.agg #[x0_0.val,x0_1.val],x_1.val,.agg #[.int .i64 n146,.int .i64 n147,x148.val]] v fun r150 w151=>r150=.int .i64 n149∧Sub v w151))∧
 ((((decide (n2_1=0)) && (decide ((x2_2.n:Int)=3))) && (decide (n149=0)))=true→
 IxOk x2_2 1∧
 ldT v x2_2 1 fun n152 n153 x154=>
 ∃ n155:Int,(Trip Tryz.prog 74 #[.agg #[x0_0.val,x0_1.val],x_1.val,.agg #[.int .i64 n152,.int .i64 n153,x154.val]] v fun r156 w157=>r156=.int .i64 n155∧Sub v w157)∧
 IxOk x2_2 2∧
 ldT v x2_2 2 fun n158 n159 x160=>
 ∃ n161:Int,(Trip Tryz.prog 74 #[.agg #[x0_0.val,x0_1.val],x_1.val,.agg #[.int .i64 n158,.int .i64 n159,x160.val]] v fun r162 w163=>r162=.int .i64 n161∧Sub v w163)∧
 ((decide (n161=n155))=true→
 Q (.int .i64 n155) v)∧
 ((decide (n161=n155))=false→
 Q (.int .i64 (-1)) v))∧
 ((((decide (n2_1=0)) && (decide ((x2_2.n:Int)=3))) && (decide (n149=0)))=false→
 Q (.int .i64 (-1)) v))∧
 ((decide (n2_0=7))=false→
 ((decide (n2_0=8))=true→
 ∃ n164:Int,(Trip Tryz.prog 137 #[.agg #[x0_0.val,x0_1.val],x_1.val,.agg #[.int .i64 n2_0,.int .i64 n2_1,x2_2.val]] v fun r165 w166=>r165=.int .i64 n164∧Sub v w166)∧
 Q (.int .i64 n164) v)∧
 ((decide (n2_0=8))=false→
 ((decide (n2_0=9))=true→
 ((decide (n2_0=9))=true→
 ∃ n167:Int,(Trip Tryz.prog 138 #[.agg #[x0_0.val,x0_1.val],x_1.val,.agg #[.int .i64 n2_0,.int .i64 n2_1,x2_2.val]] v fun r168 w169=>r168=.int .i64 n167∧Sub v w169)∧
 Q (.int .i64 n167) v)∧
 ((decide (n2_0=9))=false→
 ((decide (n2_0=11))=true→
 (((decide (n2_1=0)) && (decide ((x2_2.n:Int)=2)))=true→
 IxOk x2_2 0∧
 ldT v x2_2 0 fun n170 n171 x172=>
 ∃ n173:Int,(Trip Tryz.prog 74 #[.agg #[x0_0.val,x0_1.val],x_1.val,.agg #[.int .i64 n170,.int .i64 n171,x172.val]] v fun r174 w175=>r174=.int .i64 n173∧Sub v w175)∧
 ∃ q176:Bool,(Trip Tryz.prog 139 #[x0_0.val,.int .i64 n173] v fun r177 w178=>r177=.bool q176∧Sub v w178)∧
 (q176=true→
 IxOk x2_2 1)∧
 ∃ n179:Int,∃ n180:Int,∃ x181:Sl,(q176=true→
 v.cell? ((elA x2_2 1 3).add 0)=some (.int .i64 n179)∧
 v.cell? ((elA x2_2 1 3).add 1)=some (.int .i64 n180)∧
 v.cell? ((elA x2_2 1 3).add 2)=some (x181.val))∧
 ∃ n182:Int,(q176=true→
 (Trip Tryz.prog 74 #[.agg #[x0_0.val,x0_1.val],x_1.val,.agg #[.int .i64 n179,.int .i64 n180,x181.val]] v fun r183 w184=>r183=.int .i64 n182∧Sub v w184))∧
 ∃ n185:Int,(q176=true→
 Wr .i64 (n173 - 1) n185)∧
 (q176=true→
 IxOk x0_0 n185)∧
 ∃ n186:Int,(q176=true→
 v.cell? ((elA x0_0 n185 3).add 0)=some (.int .i64 n186))∧
 ((q176 && (decide (n182=n186)))=true→
 ∃ n187:Int,Wr .i64 (n173 - 1) n187∧
 IxOk x0_0 n187∧
 ∃ n188:Int,v.cell? ((elA x0_0 n187 3).add 1)=some (.int .i64 n188)∧
 Q (.int .i64 n188) v)∧
 ((q176 && (decide (n182=n186)))=false→
 Q (.int .i64 (-1)) v))∧
 (((decide (n2_1=0)) && (decide ((x2_2.n:Int)=2)))=false→
 Q (.int .i64 (-1)) v))∧
 ((decide (n2_0=11))=false→
 Q (.int .i64 (-1)) v)))∧
 ((decide (n2_0=9))=false→
 ((decide (n2_0=10))=true→
 ∃ n189:Int,(Trip Tryz.prog 138 #[.agg #[x0_0.val,x0_1.val],x_1.val,.agg #[.int .i64 n2_0,.int .i64 n2_1,x2_2.val]] v fun r190 w191=>r190=.int .i64 n189∧Sub v w191)∧
 Q (.int .i64 n189) v)∧
 ((decide (n2_0=10))=false→
 ((decide (n2_0=11))=true→
 (((decide (n2_1=0)) && (decide ((x2_2.n:Int)=2)))=true→
 IxOk x2_2 0∧
 ldT v x2_2 0 fun n192 n193 x194=>
 ∃ n195:Int,(Trip Tryz.prog 74 #[.agg #[x0_0.val,x0_1.val],x_1.val,.agg #[.int .i64 n192,.int .i64 n193,x194.val]] v fun r196 w197=>r196=.int .i64 n195∧Sub v w197)∧
 ∃ q198:Bool,(Trip Tryz.prog 139 #[x0_0.val,.int .i64 n195] v fun r199 w200=>r199=.bool q198∧Sub v w200)∧
 (q198=true→
 IxOk x2_2 1)∧
 ∃ n201:Int,∃ n202:Int,∃ x203:Sl,(q198=true→
 v.cell? ((elA x2_2 1 3).add 0)=some (.int .i64 n201)∧
 v.cell? ((elA x2_2 1 3).add 1)=some (.int .i64 n202)∧
 v.cell? ((elA x2_2 1 3).add 2)=some (x203.val))∧
 ∃ n204:Int,(q198=true→
 (Trip Tryz.prog 74 #[.agg #[x0_0.val,x0_1.val],x_1.val,.agg #[.int .i64 n201,.int .i64 n202,x203.val]] v fun r205 w206=>r205=.int .i64 n204∧Sub v w206))∧
 ∃ n207:Int,(q198=true→
 Wr .i64 (n195 - 1) n207)∧
 (q198=true→
 IxOk x0_0 n207)∧
 ∃ n208:Int,(q198=true→
 v.cell? ((elA x0_0 n207 3).add 0)=some (.int .i64 n208))∧
 ((q198 && (decide (n204=n208)))=true→
 ∃ n209:Int,Wr .i64 (n195 - 1) n209∧
 IxOk x0_0 n209∧
 ∃ n210:Int,v.cell? ((elA x0_0 n209 3).add 1)=some (.int .i64 n210)∧
 Q (.int .i64 n210) v)∧
 ((q198 && (decide (n204=n208)))=false→
 Q (.int .i64 (-1)) v))∧
 (((decide (n2_1=0)) && (decide ((x2_2.n:Int)=2)))=false→
 Q (.int .i64 (-1)) v))∧
 ((decide (n2_0=11))=false→
 Q (.int .i64 (-1)) v))))))))))∧
 ((decide (n2_0=2))=false→
 ((decide (n2_0=3))=true→
 ((decide (n2_0=3))=true→
 ∃ q211:Bool,((decide (n2_1=0))=true→
 (Trip Tryz.prog 132 #[.agg #[x0_0.val,x0_1.val],x_1.val,x2_2.val,.int .i64 2] v fun r212 w213=>r212=.bool q211∧Sub v w213))∧
 (((decide (n2_1=0)) && q211)=true→
 Q (.int .i64 0) v)∧
 (((decide (n2_1=0)) && q211)=false→
 Q (.int .i64 (-1)) v))∧
 ((decide (n2_0=3))=false→
 ((decide (n2_0=5))=true→
 ∃ q214:Bool,((decide (n2_1=0))=true→
 (Trip Tryz.prog 132 #[.agg #[x0_0.val,x0_1.val],x_1.val,x2_2.val,.int .i64 1] v fun r215 w216=>r215=.bool q214∧Sub v w216))∧
 (((decide (n2_1=0)) && q214)=true→
 Q (.int .i64 0) v)∧
 (((decide (n2_1=0)) && q214)=false→
 Q (.int .i64 (-1)) v))∧
 ((decide (n2_0=5))=false→
 ((decide (n2_0=6))=true→
 ∃ n217:Int,(Trip Tryz.prog 133 #[x0_0.val,.int .i64 n2_1] v fun r218 w219=>r218=.int .i64 n217∧Sub v w219)∧
 ((decide (n217 > 0))=true→
 tS 135 #[x0_0.val,.int .i64 n2_1] v fun x222 w221=>
 Sub v w221∧
 ∃ q223:Bool,(Trip Tryz.prog 134 #[.agg #[x0_0.val,x0_1.val],x_1.val,x2_2.val,x222.val] w221 fun r224 w225=>r224=.bool q223∧Sub w221 w225)∧
 (q223=true→
 ∃ n226:Int,(Trip Tryz.prog 133 #[x0_0.val,.int .i64 n2_1] w221 fun r227 w228=>r227=.int .i64 n226∧Sub w221 w228)∧
 Q (.int .i64 n226) w221)∧
 (q223=false→
 Q (.int .i64 (-1)) w221))∧
 ((decide (n217 > 0))=false→
 Sub v v∧
 Q (.int .i64 (-1)) v))∧
 ((decide (n2_0=6))=false→
 ((decide (n2_0=13))=true→
 (((decide (n2_1=0)) && (decide ((x2_2.n:Int)=2)))=true→
 IxOk x2_2 0∧
 ldT v x2_2 0 fun n229 n230 x231=>
 ∃ n232:Int,(Trip Tryz.prog 74 #[.agg #[x0_0.val,x0_1.val],x_1.val,.agg #[.int .i64 n229,.int .i64 n230,x231.val]] v fun r233 w234=>r233=.int .i64 n232∧Sub v w234)∧
 ((decide (n232≥0))=true→
 IxOk x2_2 1∧
 ldT v x2_2 1 fun n235 n236 x237=>
 bS 68 1 #[(0,(.int .i64 n232))] v fun x240 w239=>
 Sub v w239∧
 tS 136 #[x_1.val,x240.val] w239 fun x243 w242=>
 Sub w239 w242∧
 ∃ n244:Int,(Trip Tryz.prog 74 #[.agg #[x0_0.val,x0_1.val],x243.val,.agg #[.int .i64 n235,.int .i64 n236,x237.val]] w242 fun r245 w246=>r245=.int .i64 n244∧Sub w242 w246)∧
 Q (.int .i64 n244) w242)∧
 ((decide (n232≥0))=false→
 Q (.int .i64 (-1)) v))∧
 (((decide (n2_1=0)) && (decide ((x2_2.n:Int)=2)))=false→
 Q (.int .i64 (-1)) v))∧
 ((decide (n2_0=13))=false→
 ((decide (n2_0=7))=true→
 (((decide (n2_1=0)) && (decide ((x2_2.n:Int)=3)))=true→
 IxOk x2_2 0)∧
 ∃ n247:Int,∃ n248:Int,∃ x249:Sl,(((decide (n2_1=0)) && (decide ((x2_2.n:Int)=3)))=true→
 v.cell? ((elA x2_2 0 3).add 0)=some (.int .i64 n247)∧
 v.cell? ((elA x2_2 0 3).add 1)=some (.int .i64 n248)∧
 v.cell? ((elA x2_2 0 3).add 2)=some (x249.val))∧
 ∃ n250:Int,(((decide (n2_1=0)) && (decide ((x2_2.n:Int)=3)))=true→
 (Trip Tryz.prog 74 #[.agg #[x0_0.val,x0_1.val],x_1.val,.agg #[.int .i64 n247,.int .i64 n248,x249.val]] v fun r251 w252=>r251=.int .i64 n250∧Sub v w252))∧
 ((((decide (n2_1=0)) && (decide ((x2_2.n:Int)=3))) && (decide (n250=0)))=true→
 IxOk x2_2 1∧
 ldT v x2_2 1 fun n253 n254 x255=>
 ∃ n256:Int,(Trip Tryz.prog 74 #[.agg #[x0_0.val,x0_1.val],x_1.val,.agg #[.int .i64 n253,.int .i64 n254,x255.val]] v fun r257 w258=>r257=.int .i64 n256∧Sub v w258)∧
 IxOk x2_2 2∧
 ldT v x2_2 2 fun n259 n260 x261=>
 ∃ n262:Int,(Trip Tryz.prog 74 #[.agg #[x0_0.val,x0_1.val],x_1.val,.agg #[.int .i64 n259,.int .i64 n260,x261.val]] v fun r263 w264=>r263=.int .i64 n262∧Sub v w264)∧
 ((decide (n262=n256))=true→
 Q (.int .i64 n256) v)∧
 ((decide (n262=n256))=false→
 Q (.int .i64 (-1)) v))∧
 ((((decide (n2_1=0)) && (decide ((x2_2.n:Int)=3))) && (decide (n250=0)))=false→
 Q (.int .i64 (-1)) v))∧
 ((decide (n2_0=7))=false→
 ((decide (n2_0=8))=true→
 ∃ n265:Int,(Trip Tryz.prog 137 #[.agg #[x0_0.val,x0_1.val],x_1.val,.agg #[.int .i64 n2_0,.int .i64 n2_1,x2_2.val]] v fun r266 w267=>r266=.int .i64 n265∧Sub v w267)∧
 Q (.int .i64 n265) v)∧
 ((decide (n2_0=8))=false→
 ((decide (n2_0=9))=true→
 ((decide (n2_0=9))=true→
 ∃ n268:Int,(Trip Tryz.prog 138 #[.agg #[x0_0.val,x0_1.val],x_1.val,.agg #[.int .i64 n2_0,.int .i64 n2_1,x2_2.val]] v fun r269 w270=>r269=.int .i64 n268∧Sub v w270)∧
 Q (.int .i64 n268) v)∧
 ((decide (n2_0=9))=false→
 ((decide (n2_0=11))=true→
 (((decide (n2_1=0)) && (decide ((x2_2.n:Int)=2)))=true→
 IxOk x2_2 0∧
 ldT v x2_2 0 fun n271 n272 x273=>
 ∃ n274:Int,(Trip Tryz.prog 74 #[.agg #[x0_0.val,x0_1.val],x_1.val,.agg #[.int .i64 n271,.int .i64 n272,x273.val]] v fun r275 w276=>r275=.int .i64 n274∧Sub v w276)∧
 ∃ q277:Bool,(Trip Tryz.prog 139 #[x0_0.val,.int .i64 n274] v fun r278 w279=>r278=.bool q277∧Sub v w279)∧
 (q277=true→
 IxOk x2_2 1)∧
 ∃ n280:Int,∃ n281:Int,∃ x282:Sl,(q277=true→
 v.cell? ((elA x2_2 1 3).add 0)=some (.int .i64 n280)∧
 v.cell? ((elA x2_2 1 3).add 1)=some (.int .i64 n281)∧
 v.cell? ((elA x2_2 1 3).add 2)=some (x282.val))∧
 ∃ n283:Int,(q277=true→
 (Trip Tryz.prog 74 #[.agg #[x0_0.val,x0_1.val],x_1.val,.agg #[.int .i64 n280,.int .i64 n281,x282.val]] v fun r284 w285=>r284=.int .i64 n283∧Sub v w285))∧
 ∃ n286:Int,(q277=true→
 Wr .i64 (n274 - 1) n286)∧
 (q277=true→
 IxOk x0_0 n286)∧
 ∃ n287:Int,(q277=true→
 v.cell? ((elA x0_0 n286 3).add 0)=some (.int .i64 n287))∧
 ((q277 && (decide (n283=n287)))=true→
 ∃ n288:Int,Wr .i64 (n274 - 1) n288∧
 IxOk x0_0 n288∧
 ∃ n289:Int,v.cell? ((elA x0_0 n288 3).add 1)=some (.int .i64 n289)∧
 Q (.int .i64 n289) v)∧
 ((q277 && (decide (n283=n287)))=false→
 Q (.int .i64 (-1)) v))∧
 (((decide (n2_1=0)) && (decide ((x2_2.n:Int)=2)))=false→
 Q (.int .i64 (-1)) v))∧
 ((decide (n2_0=11))=false→
 Q (.int .i64 (-1)) v)))∧
 ((decide (n2_0=9))=false→
 ((decide (n2_0=10))=true→
 ∃ n290:Int,(Trip Tryz.prog 138 #[.agg #[x0_0.val,x0_1.val],x_1.val,.agg #[.int .i64 n2_0,.int .i64 n2_1,x2_2.val]] v fun r291 w292=>r291=.int .i64 n290∧Sub v w292)∧
 Q (.int .i64 n290) v)∧
 ((decide (n2_0=10))=false→
 ((decide (n2_0=11))=true→
 (((decide (n2_1=0)) && (decide ((x2_2.n:Int)=2)))=true→
 IxOk x2_2 0∧
 ldT v x2_2 0 fun n293 n294 x295=>
 ∃ n296:Int,(Trip Tryz.prog 74 #[.agg #[x0_0.val,x0_1.val],x_1.val,.agg #[.int .i64 n293,.int .i64 n294,x295.val]] v fun r297 w298=>r297=.int .i64 n296∧Sub v w298)∧
 ∃ q299:Bool,(Trip Tryz.prog 139 #[x0_0.val,.int .i64 n296] v fun r300 w301=>r300=.bool q299∧Sub v w301)∧
 (q299=true→
 IxOk x2_2 1)∧
 ∃ n302:Int,∃ n303:Int,∃ x304:Sl,(q299=true→
 v.cell? ((elA x2_2 1 3).add 0)=some (.int .i64 n302)∧
 v.cell? ((elA x2_2 1 3).add 1)=some (.int .i64 n303)∧
 v.cell? ((elA x2_2 1 3).add 2)=some (x304.val))∧
 ∃ n305:Int,(q299=true→
 (Trip Tryz.prog 74 #[.agg #[x0_0.val,x0_1.val],x_1.val,.agg #[.int .i64 n302,.int .i64 n303,x304.val]] v fun r306 w307=>r306=.int .i64 n305∧Sub v w307))∧
 ∃ n308:Int,(q299=true→
 Wr .i64 (n296 - 1) n308)∧
 (q299=true→
 IxOk x0_0 n308)∧
 ∃ n309:Int,(q299=true→
 v.cell? ((elA x0_0 n308 3).add 0)=some (.int .i64 n309))∧
 ((q299 && (decide (n305=n309)))=true→
 ∃ n310:Int,Wr .i64 (n296 - 1) n310∧
 IxOk x0_0 n310∧
 ∃ n311:Int,v.cell? ((elA x0_0 n310 3).add 1)=some (.int .i64 n311)∧
 Q (.int .i64 n311) v)∧
 ((q299 && (decide (n305=n309)))=false→
 Q (.int .i64 (-1)) v))∧
 (((decide (n2_1=0)) && (decide ((x2_2.n:Int)=2)))=false→
 Q (.int .i64 (-1)) v))∧
 ((decide (n2_0=11))=false→
 Q (.int .i64 (-1)) v))))))))))∧
 ((decide (n2_0=3))=false→
 ((decide (n2_0=4))=true→
 ∃ q312:Bool,((decide (n2_1=0))=true→
 (Trip Tryz.prog 132 #[.agg #[x0_0.val,x0_1.val],x_1.val,x2_2.val,.int .i64 2] v fun r313 w314=>r313=.bool q312∧Sub v w314))∧
 (((decide (n2_1=0)) && q312)=true→
 Q (.int .i64 0) v)∧
 (((decide (n2_1=0)) && q312)=false→
 Q (.int .i64 (-1)) v))∧
 ((decide (n2_0=4))=false→
 ((decide (n2_0=5))=true→
 ∃ q315:Bool,((decide (n2_1=0))=true→
 (Trip Tryz.prog 132 #[.agg #[x0_0.val,x0_1.val],x_1.val,x2_2.val,.int .i64 1] v fun r316 w317=>r316=.bool q315∧Sub v w317))∧
 (((decide (n2_1=0)) && q315)=true→
 Q (.int .i64 0) v)∧
 (((decide (n2_1=0)) && q315)=false→
 Q (.int .i64 (-1)) v))∧
 ((decide (n2_0=5))=false→
 ((decide (n2_0=6))=true→
 ∃ n318:Int,(Trip Tryz.prog 133 #[x0_0.val,.int .i64 n2_1] v fun r319 w320=>r319=.int .i64 n318∧Sub v w320)∧
 ((decide (n318 > 0))=true→
 tS 135 #[x0_0.val,.int .i64 n2_1] v fun x323 w322=>
 Sub v w322∧
 ∃ q324:Bool,(Trip Tryz.prog 134 #[.agg #[x0_0.val,x0_1.val],x_1.val,x2_2.val,x323.val] w322 fun r325 w326=>r325=.bool q324∧Sub w322 w326)∧
 (q324=true→
 ∃ n327:Int,(Trip Tryz.prog 133 #[x0_0.val,.int .i64 n2_1] w322 fun r328 w329=>r328=.int .i64 n327∧Sub w322 w329)∧
 Q (.int .i64 n327) w322)∧
 (q324=false→
 Q (.int .i64 (-1)) w322))∧
 ((decide (n318 > 0))=false→
 Sub v v∧
 Q (.int .i64 (-1)) v))∧
 ((decide (n2_0=6))=false→
 ((decide (n2_0=13))=true→
 (((decide (n2_1=0)) && (decide ((x2_2.n:Int)=2)))=true→
 IxOk x2_2 0∧
 ldT v x2_2 0 fun n330 n331 x332=>
 ∃ n333:Int,(Trip Tryz.prog 74 #[.agg #[x0_0.val,x0_1.val],x_1.val,.agg #[.int .i64 n330,.int .i64 n331,x332.val]] v fun r334 w335=>r334=.int .i64 n333∧Sub v w335)∧
 ((decide (n333≥0))=true→
 IxOk x2_2 1∧
 ldT v x2_2 1 fun n336 n337 x338=>
 bS 68 1 #[(0,(.int .i64 n333))] v fun x341 w340=>
 Sub v w340∧
 tS 136 #[x_1.val,x341.val] w340 fun x344 w343=>
 Sub w340 w343∧
 ∃ n345:Int,(Trip Tryz.prog 74 #[.agg #[x0_0.val,x0_1.val],x344.val,.agg #[.int .i64 n336,.int .i64 n337,x338.val]] w343 fun r346 w347=>r346=.int .i64 n345∧Sub w343 w347)∧
 Q (.int .i64 n345) w343)∧
 ((decide (n333≥0))=false→
 Q (.int .i64 (-1)) v))∧
 (((decide (n2_1=0)) && (decide ((x2_2.n:Int)=2)))=false→
 Q (.int .i64 (-1)) v))∧
 ((decide (n2_0=13))=false→
 ((decide (n2_0=7))=true→
 (((decide (n2_1=0)) && (decide ((x2_2.n:Int)=3)))=true→
 IxOk x2_2 0)∧
 ∃ n348:Int,∃ n349:Int,∃ x350:Sl,(((decide (n2_1=0)) && (decide ((x2_2.n:Int)=3)))=true→
 v.cell? ((elA x2_2 0 3).add 0)=some (.int .i64 n348)∧
 v.cell? ((elA x2_2 0 3).add 1)=some (.int .i64 n349)∧
 v.cell? ((elA x2_2 0 3).add 2)=some (x350.val))∧
 ∃ n351:Int,(((decide (n2_1=0)) && (decide ((x2_2.n:Int)=3)))=true→
 (Trip Tryz.prog 74 #[.agg #[x0_0.val,x0_1.val],x_1.val,.agg #[.int .i64 n348,.int .i64 n349,x350.val]] v fun r352 w353=>r352=.int .i64 n351∧Sub v w353))∧
 ((((decide (n2_1=0)) && (decide ((x2_2.n:Int)=3))) && (decide (n351=0)))=true→
 IxOk x2_2 1∧
 ldT v x2_2 1 fun n354 n355 x356=>
 ∃ n357:Int,(Trip Tryz.prog 74 #[.agg #[x0_0.val,x0_1.val],x_1.val,.agg #[.int .i64 n354,.int .i64 n355,x356.val]] v fun r358 w359=>r358=.int .i64 n357∧Sub v w359)∧
 IxOk x2_2 2∧
 ldT v x2_2 2 fun n360 n361 x362=>
 ∃ n363:Int,(Trip Tryz.prog 74 #[.agg #[x0_0.val,x0_1.val],x_1.val,.agg #[.int .i64 n360,.int .i64 n361,x362.val]] v fun r364 w365=>r364=.int .i64 n363∧Sub v w365)∧
 ((decide (n363=n357))=true→
 Q (.int .i64 n357) v)∧
 ((decide (n363=n357))=false→
 Q (.int .i64 (-1)) v))∧
 ((((decide (n2_1=0)) && (decide ((x2_2.n:Int)=3))) && (decide (n351=0)))=false→
 Q (.int .i64 (-1)) v))∧
 ((decide (n2_0=7))=false→
 ((decide (n2_0=8))=true→
 ∃ n366:Int,(Trip Tryz.prog 137 #[.agg #[x0_0.val,x0_1.val],x_1.val,.agg #[.int .i64 n2_0,.int .i64 n2_1,x2_2.val]] v fun r367 w368=>r367=.int .i64 n366∧Sub v w368)∧
 Q (.int .i64 n366) v)∧
 ((decide (n2_0=8))=false→
 ((decide (n2_0=9))=true→
 ((decide (n2_0=9))=true→
 ∃ n369:Int,(Trip Tryz.prog 138 #[.agg #[x0_0.val,x0_1.val],x_1.val,.agg #[.int .i64 n2_0,.int .i64 n2_1,x2_2.val]] v fun r370 w371=>r370=.int .i64 n369∧Sub v w371)∧
 Q (.int .i64 n369) v)∧
 ((decide (n2_0=9))=false→
 ((decide (n2_0=11))=true→
 (((decide (n2_1=0)) && (decide ((x2_2.n:Int)=2)))=true→
 IxOk x2_2 0∧
 ldT v x2_2 0 fun n372 n373 x374=>
 ∃ n375:Int,(Trip Tryz.prog 74 #[.agg #[x0_0.val,x0_1.val],x_1.val,.agg #[.int .i64 n372,.int .i64 n373,x374.val]] v fun r376 w377=>r376=.int .i64 n375∧Sub v w377)∧
 ∃ q378:Bool,(Trip Tryz.prog 139 #[x0_0.val,.int .i64 n375] v fun r379 w380=>r379=.bool q378∧Sub v w380)∧
 (q378=true→
 IxOk x2_2 1)∧
 ∃ n381:Int,∃ n382:Int,∃ x383:Sl,(q378=true→
 v.cell? ((elA x2_2 1 3).add 0)=some (.int .i64 n381)∧
 v.cell? ((elA x2_2 1 3).add 1)=some (.int .i64 n382)∧
 v.cell? ((elA x2_2 1 3).add 2)=some (x383.val))∧
 ∃ n384:Int,(q378=true→
 (Trip Tryz.prog 74 #[.agg #[x0_0.val,x0_1.val],x_1.val,.agg #[.int .i64 n381,.int .i64 n382,x383.val]] v fun r385 w386=>r385=.int .i64 n384∧Sub v w386))∧
 ∃ n387:Int,(q378=true→
 Wr .i64 (n375 - 1) n387)∧
 (q378=true→
 IxOk x0_0 n387)∧
 ∃ n388:Int,(q378=true→
 v.cell? ((elA x0_0 n387 3).add 0)=some (.int .i64 n388))∧
 ((q378 && (decide (n384=n388)))=true→
 ∃ n389:Int,Wr .i64 (n375 - 1) n389∧
 IxOk x0_0 n389∧
 ∃ n390:Int,v.cell? ((elA x0_0 n389 3).add 1)=some (.int .i64 n390)∧
 Q (.int .i64 n390) v)∧
 ((q378 && (decide (n384=n388)))=false→
 Q (.int .i64 (-1)) v))∧
 (((decide (n2_1=0)) && (decide ((x2_2.n:Int)=2)))=false→
 Q (.int .i64 (-1)) v))∧
 ((decide (n2_0=11))=false→
 Q (.int .i64 (-1)) v)))∧
 ((decide (n2_0=9))=false→
 ((decide (n2_0=10))=true→
 ∃ n391:Int,(Trip Tryz.prog 138 #[.agg #[x0_0.val,x0_1.val],x_1.val,.agg #[.int .i64 n2_0,.int .i64 n2_1,x2_2.val]] v fun r392 w393=>r392=.int .i64 n391∧Sub v w393)∧
 Q (.int .i64 n391) v)∧
 ((decide (n2_0=10))=false→
 ((decide (n2_0=11))=true→
 (((decide (n2_1=0)) && (decide ((x2_2.n:Int)=2)))=true→
 IxOk x2_2 0∧
 ldT v x2_2 0 fun n394 n395 x396=>
 ∃ n397:Int,(Trip Tryz.prog 74 #[.agg #[x0_0.val,x0_1.val],x_1.val,.agg #[.int .i64 n394,.int .i64 n395,x396.val]] v fun r398 w399=>r398=.int .i64 n397∧Sub v w399)∧
 ∃ q400:Bool,(Trip Tryz.prog 139 #[x0_0.val,.int .i64 n397] v fun r401 w402=>r401=.bool q400∧Sub v w402)∧
 (q400=true→
 IxOk x2_2 1)∧
 ∃ n403:Int,∃ n404:Int,∃ x405:Sl,(q400=true→
 v.cell? ((elA x2_2 1 3).add 0)=some (.int .i64 n403)∧
 v.cell? ((elA x2_2 1 3).add 1)=some (.int .i64 n404)∧
 v.cell? ((elA x2_2 1 3).add 2)=some (x405.val))∧
 ∃ n406:Int,(q400=true→
 (Trip Tryz.prog 74 #[.agg #[x0_0.val,x0_1.val],x_1.val,.agg #[.int .i64 n403,.int .i64 n404,x405.val]] v fun r407 w408=>r407=.int .i64 n406∧Sub v w408))∧
 ∃ n409:Int,(q400=true→
 Wr .i64 (n397 - 1) n409)∧
 (q400=true→
 IxOk x0_0 n409)∧
 ∃ n410:Int,(q400=true→
 v.cell? ((elA x0_0 n409 3).add 0)=some (.int .i64 n410))∧
 ((q400 && (decide (n406=n410)))=true→
 ∃ n411:Int,Wr .i64 (n397 - 1) n411∧
 IxOk x0_0 n411∧
 ∃ n412:Int,v.cell? ((elA x0_0 n411 3).add 1)=some (.int .i64 n412)∧
 Q (.int .i64 n412) v)∧
 ((q400 && (decide (n406=n410)))=false→
 Q (.int .i64 (-1)) v))∧
 (((decide (n2_1=0)) && (decide ((x2_2.n:Int)=2)))=false→
 Q (.int .i64 (-1)) v))∧
 ((decide (n2_0=11))=false→
 Q (.int .i64 (-1)) v))))))))))))))
theorem of74 (x0_0:Sl) (x0_1:Sl) (x_1:Sl) (n2_0:Int) (n2_1:Int) (x2_2:Sl) (v:World) (Q:QT) (h:vc74 x0_0 x0_1 x_1 n2_0 n2_1 x2_2 v Q):Trip Tryz.prog 74 #[.agg #[x0_0.val,x0_1.val],x_1.val,.agg #[.int .i64 n2_0,.int .i64 n2_1,x2_2.val]] v Q:=
 trip_of_eq (args:=[.ag [.sl x0_0,.sl x0_1],.sl x_1,.ag [.num .i64 n2_0,.num .i64 n2_1,.sl x2_2]]) (A:=⟨[],[],[(19,[15]),(25,[3,4])],[],psG⟩) Tryz.func74 (by kernel_rfl) (by kernel_rfl) (by kernel_rfl:vc74 x0_0 x0_1 x_1 n2_0 n2_1 x2_2 v Q=_) h
def vc75 (n0_0:Int) (n0_1:Int) (x0_2:Sl) (v:World) (Q:QT):Prop:=
 ((decide ((x0_2.n:Int)=0))=true→
 ∃ s1:ByteArray,(Trip Tryz.prog 77 #[.int .i64 n0_0] v fun r2 w3=>r2=.string s1∧Sub v w3)∧
 (((ByteArray.mk #[97,114,114,111,119,32]).size+s1.size:Nat):Int)≤9223372036854775807∧
 ((((ByteArray.mk #[97,114,114,111,119,32])++s1).size+(ByteArray.mk #[32]).size:Nat):Int)≤9223372036854775807∧
 ∃ s4:ByteArray,(Trip Tryz.prog 77 #[.int .i64 n0_1] v fun r5 w6=>r5=.string s4∧Sub v w6)∧
 (((((ByteArray.mk #[97,114,114,111,119,32])++s1)++(ByteArray.mk #[32])).size+s4.size:Nat):Int)≤9223372036854775807∧
 ((((((ByteArray.mk #[97,114,114,111,119,32])++s1)++(ByteArray.mk #[32]))++s4).size+(ByteArray.mk #[10]).size:Nat):Int)≤9223372036854775807∧
 Q (.string (((((ByteArray.mk #[97,114,114,111,119,32])++s1)++(ByteArray.mk #[32]))++s4)++(ByteArray.mk #[10]))) v)∧
 ((decide ((x0_2.n:Int)=0))=false→
 ∃ I7:ByteArray→Int→World→Prop,∃ m8:ByteArray→Int→World→Nat,I7 (ByteArray.mk #[100,97,116,97]) 0 v∧
 ∀ s9:ByteArray,∀ n10:Int,∀ w11:World,I7 s9 n10 w11→
 ((decide (n10 < (x0_2.n:Int)))=true→
 ((s9.size+(ByteArray.mk #[32]).size:Nat):Int)≤9223372036854775807∧
 IxOk x0_2 n10∧
 ∃ x12:Sl,w11.cell? ((elA x0_2 n10 1).add 0)=some (x12.val)∧
 ∃ s13:ByteArray,(Trip Tryz.prog 76 #[x12.val] w11 fun r14 w15=>r14=.string s13∧Sub w11 w15)∧
 (((s9++(ByteArray.mk #[32])).size+s13.size:Nat):Int)≤9223372036854775807∧
 ∃ n16:Int,Wr .i64 (n10+1) n16∧
 eqS (.num .i64 n0_0)∧
 eqS (.num .i64 n0_1)∧
 eqS (.sl x0_2)∧
 I7 ((s9++(ByteArray.mk #[32]))++s13) n16 w11∧
 m8 ((s9++(ByteArray.mk #[32]))++s13) n16 w11 < m8 s9 n10 w11)∧
 ((decide (n10 < (x0_2.n:Int)))=false→
 ((s9.size+(ByteArray.mk #[10]).size:Nat):Int)≤9223372036854775807∧
 Q (.string (s9++(ByteArray.mk #[10]))) w11))
theorem of75 (n0_0:Int) (n0_1:Int) (x0_2:Sl) (v:World) (Q:QT) (h:vc75 n0_0 n0_1 x0_2 v Q):Trip Tryz.prog 75 #[.agg #[.int .i64 n0_0,.int .i64 n0_1,x0_2.val]] v Q:=
 trip_of_eq (args:=[.ag [.num .i64 n0_0,.num .i64 n0_1,.sl x0_2]]) (A:=⟨[(5,[(3,.str),(4,.int .i64)],[])],[],[],[],psG⟩) Tryz.func75 (by kernel_rfl) (by kernel_rfl) (by kernel_rfl:vc75 n0_0 n0_1 x0_2 v Q=_) h
def vc76 (x_0:Sl) (v:World) (Q:QT):Prop:=
 ∃ I1:ByteArray→Int→World→Prop,∃ m2:ByteArray→Int→World→Nat,I1 (ByteArray.mk #[40]) 0 v∧
 ∀ s3:ByteArray,∀ n4:Int,∀ w5:World,I1 s3 n4 w5→
 ((decide (n4 < (x_0.n:Int)))=true→
 ((decide (n4 > 0))=true→
 ((s3.size+(ByteArray.mk #[44]).size:Nat):Int)≤9223372036854775807∧
 IxOk x_0 n4∧
 ∃ n6:Int,w5.cell? ((elA x_0 n4 1).add 0)=some (.int .i64 n6)∧
 ∃ s7:ByteArray,(Trip Tryz.prog 77 #[.int .i64 n6] w5 fun r8 w9=>r8=.string s7∧Sub w5 w9)∧
 (((s3++(ByteArray.mk #[44])).size+s7.size:Nat):Int)≤9223372036854775807∧
 ∃ n10:Int,Wr .i64 (n4+1) n10∧
 I1 ((s3++(ByteArray.mk #[44]))++s7) n10 w5∧
 m2 ((s3++(ByteArray.mk #[44]))++s7) n10 w5 < m2 s3 n4 w5)∧
 ((decide (n4 > 0))=false→
 IxOk x_0 n4∧
 ∃ n11:Int,w5.cell? ((elA x_0 n4 1).add 0)=some (.int .i64 n11)∧
 ∃ s12:ByteArray,(Trip Tryz.prog 77 #[.int .i64 n11] w5 fun r13 w14=>r13=.string s12∧Sub w5 w14)∧
 ((s3.size+s12.size:Nat):Int)≤9223372036854775807∧
 ∃ n15:Int,Wr .i64 (n4+1) n15∧
 I1 (s3++s12) n15 w5∧
 m2 (s3++s12) n15 w5 < m2 s3 n4 w5))∧
 ((decide (n4 < (x_0.n:Int)))=false→
 ((s3.size+(ByteArray.mk #[41]).size:Nat):Int)≤9223372036854775807∧
 Q (.string (s3++(ByteArray.mk #[41]))) w5)
theorem of76 (x_0:Sl) (v:World) (Q:QT) (h:vc76 x_0 v Q):Trip Tryz.prog 76 #[x_0.val] v Q:=
 trip_of_eq (args:=[.sl x_0]) (A:=⟨[(3,[(3,.str),(4,.int .i64)],[])],[],[],[],psG⟩) Tryz.func76 (by kernel_rfl) (by kernel_rfl) (by kernel_rfl:vc76 x_0 v Q=_) h
def vc77 (n_0:Int) (v:World) (Q:QT):Prop:=
 ∃ n1:Int,((decide (n_0 < 0))=true→
 Wr .i64 (0 - n_0) n1)∧
 (((decide (n_0 < 0)) && (decide (n_0=n1)))=true→
 Q (.string (ByteArray.mk #[45,57,50,50,51,51,55,50,48,51,54,56,53,52,55,55,53,56,48,56])) v)∧
 (((decide (n_0 < 0)) && (decide (n_0=n1)))=false→
 ((decide (n_0 < 0))=true→
 ∃ n2:Int,Wr .i64 (0 - n_0) n2∧
 ∃ s3:ByteArray,(Trip Tryz.prog 77 #[.int .i64 n2] v fun r4 w5=>r4=.string s3∧Sub v w5)∧
 (((ByteArray.mk #[45]).size+s3.size:Nat):Int)≤9223372036854775807∧
 Q (.string ((ByteArray.mk #[45])++s3)) v)∧
 ((decide (n_0 < 0))=false→
 ((decide (n_0 < 10))=true→
 ∃ n6:Int,Wr .i64 (n_0+1) n6∧
 StrOk (ByteArray.mk #[48,49,50,51,52,53,54,55,56,57]) n_0 n6∧
 Q (.string (strCut (ByteArray.mk #[48,49,50,51,52,53,54,55,56,57]) n_0 n6)) v)∧
 ((decide (n_0 < 10))=false→
 ∃ n7:Int,((10:Int)≠0∧Wr .i64 (Int.tdiv n_0 10) n7)∧
 ∃ s8:ByteArray,(Trip Tryz.prog 77 #[.int .i64 n7] v fun r9 w10=>r9=.string s8∧Sub v w10)∧
 (10:Int)≠0∧
 ∃ s11:ByteArray,(Trip Tryz.prog 77 #[.int .i64 (Int.tmod n_0 10)] v fun r12 w13=>r12=.string s11∧Sub v w13)∧
 ((s8.size+s11.size:Nat):Int)≤9223372036854775807∧
 Q (.string (s8++s11)) v)))
theorem of77 (n_0:Int) (v:World) (Q:QT) (h:vc77 n_0 v Q):Trip Tryz.prog 77 #[.int .i64 n_0] v Q:=
 trip_of_eq (args:=[.num .i64 n_0]) (A:=aG) Tryz.func77 (by kernel_rfl) (by kernel_rfl) (by kernel_rfl:vc77 n_0 v Q=_) h
def vc91 (a_0:Addr) (x_1:Sl) (v:World) (Q:QT):Prop:=
 ∃ I1:Int→Sl→World→Prop,∃ m2:Int→Sl→World→Nat,I1 0 (Sl.mk none 0 0) v∧
 ∀ n3:Int,∀ x4:Sl,∀ w5:World,I1 n3 x4 w5→
 ((decide (n3 < (x_1.n:Int)))=true→
 IxOk x_1 n3∧
 ∃ s6:ByteArray,w5.cell? ((elA x_1 n3 1).add 0)=some (.string s6)∧
 Trip Tryz.prog 94 #[.string s6] w5 fun r7 w8=>
 ∃ x9:Sl,∃ q10:Bool,r7=.tuple #[x9.val,.bool q10]∧
 ((!q10)=true→
 Q (.bool false) w8)∧
 ((!q10)=false→
 bS 60 1 #[(0,(.agg #[x9.val]))] w8 fun x13 w12=>
 StepT Tryz.prog (Builtin.append_ #[60,60] 60 #[(x4.val),(x13.val)]) w12 fun r14 w15=>
 ∃ x16:Sl,r14=x16.val∧
 ∃ n17:Int,Wr .i64 (n3+1) n17∧
 eqS (.num .i64 0)∧
 eqS (.num .i64 0)∧
 I1 n17 x16 w15∧
 m2 n17 x16 w15 < m2 n3 x4 w5))∧
 ((decide (n3 < (x_1.n:Int)))=false→
 ∃ x18:Sl,w5.cell? (a_0.add 0)=some (x18.val)∧
 bS 28 1 #[(0,(.agg #[.int .i64 0,.int .i64 0,x4.val]))] w5 fun x21 w20=>
 Sub w5 w20∧
 StepT Tryz.prog (Builtin.append_ #[28,28] 28 #[(x18.val),(x21.val)]) w20 fun r22 w23=>
 ∃ x24:Sl,r22=x24.val∧
 StoreAt w23 a_0 0 [x24.val] fun w25=>
 Q (.bool true) w25)
theorem of91 (a_0:Addr) (x_1:Sl) (v:World) (Q:QT) (h:vc91 a_0 x_1 v Q):Trip Tryz.prog 91 #[.pointer (some (a_0.add 0)),x_1.val] v Q:=
 trip_of_eq (args:=[.pt a_0 0,.sl x_1]) (A:=⟨[(3,[(12,.int .i64)],[(0,2,.sl)])],[],[(10,[6])],[],psG⟩) Tryz.func91 (by kernel_rfl) (by kernel_rfl) (by kernel_rfl:vc91 a_0 x_1 v Q=_) h
def vc94 (s_0:ByteArray) (v:World) (Q:QT):Prop:=
 ((decide ((s_0.size:Int) < 2))=true→
 Q (.tuple #[.slice none 0 0,.bool false]) v)∧
 ((decide ((s_0.size:Int) < 2))=false→
 ∃ n1:Int,Wr .i64 ((s_0.size:Int) - 1) n1∧
 StrOk s_0 1 n1∧
 (((strCut s_0 1 n1).toList == (ByteArray.mk #[]).toList)=true→
 Q (.tuple #[.slice none 0 0,.bool true]) v)∧
 (((strCut s_0 1 n1).toList == (ByteArray.mk #[]).toList)=false→
 tS 92 #[.string (strCut s_0 1 n1),.string (ByteArray.mk #[44])] v fun x4 w3=>
 ∃ I5:Sl→Int→World→Prop,∃ m6:Sl→Int→World→Nat,I5 (Sl.mk none 0 0) 0 w3∧
 ∀ x7:Sl,∀ n8:Int,∀ w9:World,I5 x7 n8 w9→
 ((decide (n8 < (x4.n:Int)))=true→
 IxOk x4 n8∧
 ∃ s10:ByteArray,w9.cell? ((elA x4 n8 1).add 0)=some (.string s10)∧
 Trip Tryz.prog 93 #[.string s10] w9 fun r11 w12=>
 ∃ n13:Int,∃ y14:Vl,r11=.tuple #[.int .i64 n13,y14.x]∧
 ∃ q15:Bool,PureT Tryz.prog (do eqGuard .neq 64 (.tmp 32) (.const (.nilIface)) (y14.x) ((Vl.mk Value.nilIface rfl).x);binOp .neq 64 (y14.x) ((Vl.mk Value.nilIface rfl).x)) w12 (.bool q15)∧
 (q15=true→
 Q (.tuple #[.slice none 0 0,.bool false]) w12)∧
 (q15=false→
 bS 68 1 #[(0,(.int .i64 n13))] w12 fun x18 w17=>
 StepT Tryz.prog (Builtin.append_ #[68,68] 68 #[(x7.val),(x18.val)]) w17 fun r19 w20=>
 ∃ x21:Sl,r19=x21.val∧
 ∃ n22:Int,Wr .i64 (n8+1) n22∧
 I5 x21 n22 w20∧
 m6 x21 n22 w20 < m6 x7 n8 w9))∧
 ((decide (n8 < (x4.n:Int)))=false→
 Q (.tuple #[x7.val,.bool true]) w9)))
theorem of94 (s_0:ByteArray) (v:World) (Q:QT) (h:vc94 s_0 v Q):Trip Tryz.prog 94 #[.string s_0] v Q:=
 trip_of_eq (args:=[.st s_0]) (A:=⟨[(8,[(5,.sl),(23,.int .i64)],[])],[],[],[],psG⟩) Tryz.func94 (by kernel_rfl) (by kernel_rfl) (by kernel_rfl:vc94 s_0 v Q=_) h
def vc102 (a_0:Addr) (n1_0:Int) (n1_1:Int) (x1_2:Sl) (v:World) (Q:QT):Prop:=
 ∃ J1:World→Prop,(((decide ((x1_2.n:Int) > 0))=true→
 tI 61 #[.pointer (some (a_0.add 0)),.int .i64 3] v fun n4 w3=>
 ((decide (n4 > 0))=true→
 tS 155 #[x1_2.val] w3 fun x7 w6=>
 tI 61 #[.pointer (some (a_0.add 0)),.int .i64 (x7.n:Int)] w6 fun n10 w9=>
 IxOk x7 n10∧
 ldT w9 x7 n10 fun n11 n12 x13=>
 tE 102 #[.pointer (some (a_0.add 0)),.agg #[.int .i64 n11,.int .i64 n12,x13.val]] w9 fun n16 n17 x18 w15=>
 IxOk x7 n10∧
 StoreAt w15 (elA x7 n10 3) 0 [.int .i64 n16,.int .i64 n17,x18.val] fun w19=>
 tE 103 #[.int .i64 n1_0,.int .i64 n1_1,x7.val] w19 fun n22 n23 x24 w21=>
 Q (.agg #[.int .i64 n22,.int .i64 n23,x24.val]) w21)∧
 ((decide (n4 > 0))=false→
 eqS (.num .i64 n1_0)∧
 eqS (.num .i64 n1_1)∧
 eqS (.sl x1_2)∧
 eqS (.num .i64 0)∧
 eqS (.num .i64 0)∧
 eqS (.sl (Sl.mk none 0 0))∧
 J1 w3))∧
 ((decide ((x1_2.n:Int) > 0))=false→
 eqS (.num .i64 n1_0)∧
 eqS (.num .i64 n1_1)∧
 eqS (.sl x1_2)∧
 eqS (.num .i64 0)∧
 eqS (.num .i64 0)∧
 eqS (.sl (Sl.mk none 0 0))∧
 J1 v))∧
 ∀ w25:World,J1 w25→
 tI 61 #[.pointer (some (a_0.add 0)),.int .i64 5] w25 fun n28 w27=>
 ((decide (n28=0))=true→
 tI 61 #[.pointer (some (a_0.add 0)),.int .i64 15] w27 fun n31 w30=>
 tE 103 #[.int .i64 n31,.int .i64 n1_1,x1_2.val] w30 fun n34 n35 x36 w33=>
 Q (.agg #[.int .i64 n34,.int .i64 n35,x36.val]) w33)∧
 ((decide (n28=0))=false→
 ((decide (n28=1))=true→
 bS 68 4 #[(0,(.int .i64 1)),(1,(.int .i64 (-1))),(2,(.int .i64 1000)),(3,(.int .i64 2))] w27 fun x39 w38=>
 tI 120 #[.pointer (some (a_0.add 0)),x39.val] w38 fun n42 w41=>
 ∃ n43:Int,Wr .i64 (n1_1+n42) n43∧
 tE 103 #[.int .i64 n1_0,.int .i64 n43,x1_2.val] w41 fun n46 n47 x48 w45=>
 Q (.agg #[.int .i64 n46,.int .i64 n47,x48.val]) w45)∧
 ((decide (n28=1))=false→
 ((decide (n28=2))=true→
 tS 155 #[x1_2.val] w27 fun x51 w50=>
 tE 156 #[.int .i64 1] w50 fun n54 n55 x56 w53=>
 bS 40 1 #[(0,(.agg #[.int .i64 n54,.int .i64 n55,x56.val]))] w53 fun x59 w58=>
 StepT Tryz.prog (Builtin.append_ #[40,40] 40 #[(x51.val),(x59.val)]) w58 fun r60 w61=>
 ∃ x62:Sl,r60=x62.val∧
 tE 103 #[.int .i64 n1_0,.int .i64 n1_1,x62.val] w61 fun n65 n66 x67 w64=>
 Q (.agg #[.int .i64 n65,.int .i64 n66,x67.val]) w64)∧
 ((decide (n28=2))=false→
 ((decide (n28=3))=true→
 bS 68 6 #[(0,(.int .i64 0)),(1,(.int .i64 1)),(2,(.int .i64 2)),(3,(.int .i64 5)),(4,(.int .i64 100)),(5,(.int .i64 (-1)))] w27 fun x70 w69=>
 tI 120 #[.pointer (some (a_0.add 0)),x70.val] w69 fun n73 w72=>
 tE 157 #[.int .i64 n73] w72 fun n76 n77 x78 w75=>
 Q (.agg #[.int .i64 n76,.int .i64 n77,x78.val]) w75)∧
 ((decide (n28=3))=false→
 bS 68 4 #[(0,(.int .i64 0)),(1,(.int .i64 1000)),(2,(.int .i64 (-1000))),(3,(.int .i64 5))] w27 fun x81 w80=>
 tI 120 #[.pointer (some (a_0.add 0)),x81.val] w80 fun n84 w83=>
 tE 156 #[.int .i64 n84] w83 fun n87 n88 x89 w86=>
 Q (.agg #[.int .i64 n87,.int .i64 n88,x89.val]) w86))))
theorem of102 (a_0:Addr) (n1_0:Int) (n1_1:Int) (x1_2:Sl) (v:World) (Q:QT) (h:vc102 a_0 n1_0 n1_1 x1_2 v Q):Trip Tryz.prog 102 #[.pointer (some (a_0.add 0)),.agg #[.int .i64 n1_0,.int .i64 n1_1,x1_2.val]] v Q:=
 trip_of_eq (args:=[.pt a_0 0,.ag [.num .i64 n1_0,.num .i64 n1_1,.sl x1_2]]) (A:=⟨[],[(6,[],[])],[(8,[]),(10,[]),(12,[])],[],psG⟩) Tryz.func102 (by kernel_rfl) (by kernel_rfl) (by kernel_rfl:vc102 a_0 n1_0 n1_1 x1_2 v Q=_) h
def vc103 (n_0:Int) (n_1:Int) (x_2:Sl) (v:World) (Q:QT):Prop:=
 Q (.agg #[.int .i64 n_0,.int .i64 n_1,x_2.val]) v
theorem of103 (n_0:Int) (n_1:Int) (x_2:Sl) (v:World) (Q:QT) (h:vc103 n_0 n_1 x_2 v Q):Trip Tryz.prog 103 #[.int .i64 n_0,.int .i64 n_1,x_2.val] v Q:=
 trip_of_eq (args:=[.num .i64 n_0,.num .i64 n_1,.sl x_2]) (A:=aG) Tryz.func103 (by kernel_rfl) (by kernel_rfl) (by kernel_rfl:vc103 n_0 n_1 x_2 v Q=_) h
def vc104 (n_0:Int) (v:World) (Q:QT):Prop:=
 Q (.bool ((decide (n_0≥(-999))) && (decide (n_0≤999)))) v
theorem of104 (n_0:Int) (v:World) (Q:QT) (h:vc104 n_0 v Q):Trip Tryz.prog 104 #[.int .i64 n_0] v Q:=
 trip_of_eq (args:=[.num .i64 n_0]) (A:=aG) Tryz.func104 (by kernel_rfl) (by kernel_rfl) (by kernel_rfl:vc104 n_0 v Q=_) h
def vc105 (n_0:Int) (v:World) (Q:QT):Prop:=
 ((decide (n_0=1))=true→
 Q (.tuple #[.string (ByteArray.mk #[97,100,100]),.bool false]) v)∧
 ((decide (n_0=1))=false→
 ((decide (n_0=2))=true→
 Q (.tuple #[.string (ByteArray.mk #[115,117,98]),.bool false]) v)∧
 ((decide (n_0=2))=false→
 ((decide (n_0=3))=true→
 Q (.tuple #[.string (ByteArray.mk #[109,117,108]),.bool false]) v)∧
 ((decide (n_0=3))=false→
 ((decide (n_0=4))=true→
 Q (.tuple #[.string (ByteArray.mk #[108,101,115,115]),.bool false]) v)∧
 ((decide (n_0=4))=false→
 ((decide (n_0=5))=true→
 Q (.tuple #[.string (ByteArray.mk #[112,114,105,110,116]),.bool false]) v)∧
 ((decide (n_0=5))=false→
 ((decide (n_0=6))=true→
 Q (.tuple #[.string (ByteArray.mk #[99,111,110]),.bool true]) v)∧
 ((decide (n_0=6))=false→
 ((decide (n_0=7))=true→
 Q (.tuple #[.string (ByteArray.mk #[105,102]),.bool false]) v)∧
 ((decide (n_0=7))=false→
 ((decide (n_0=8))=true→
 Q (.tuple #[.string (ByteArray.mk #[109,97,116,99,104]),.bool true]) v)∧
 ((decide (n_0=8))=false→
 ((decide (n_0=9))=true→
 Q (.tuple #[.string (ByteArray.mk #[99,97,108,108]),.bool true]) v)∧
 ((decide (n_0=9))=false→
 ((decide (n_0=10))=true→
 Q (.tuple #[.string (ByteArray.mk #[99,108,111,115,101]),.bool true]) v)∧
 ((decide (n_0=10))=false→
 ((decide (n_0=11))=true→
 Q (.tuple #[.string (ByteArray.mk #[97,112,112,108,121]),.bool false]) v)∧
 ((decide (n_0=11))=false→
 ((decide (n_0=13))=true→
 Q (.tuple #[.string (ByteArray.mk #[108,101,116]),.bool false]) v)∧
 ((decide (n_0=13))=false→
 Q (.tuple #[.string (ByteArray.mk #[]),.bool false]) v))))))))))))
theorem of105 (n_0:Int) (v:World) (Q:QT) (h:vc105 n_0 v Q):Trip Tryz.prog 105 #[.int .i64 n_0] v Q:=
 trip_of_eq (args:=[.num .i64 n_0]) (A:=aG) Tryz.func105 (by kernel_rfl) (by kernel_rfl) (by kernel_rfl:vc105 n_0 v Q=_) h
def vc106 (n0_0:Int) (n0_1:Int) (x0_2:Sl) (n_1:Int) (v:World) (Q:QT):Prop:=
 ((decide (n_1 < 1))=true→
 Q (.int .i64 (-1)) v)∧
 ((decide (n_1 < 1))=false→
 ∃ n1:Int,Wr .i64 (n_1 - 1) n1∧
 ∃ I2:Int→Int→World→Prop,∃ m3:Int→Int→World→Nat,I2 n1 0 v∧
 ∀ n4:Int,∀ n5:Int,∀ w6:World,I2 n4 n5 w6→
 ((decide (n5 < (x0_2.n:Int)))=true→
 IxOk x0_2 n5∧
 ldT w6 x0_2 n5 fun n7 n8 x9=>
 ∃ n10:Int,(Trip Tryz.prog 106 #[.agg #[.int .i64 n7,.int .i64 n8,x9.val],.int .i64 n4] w6 fun r11 w12=>r11=.int .i64 n10∧Sub w6 w12)∧
 ((decide (n10 < 0))=true→
 Q (.int .i64 (-1)) w6)∧
 ((decide (n10 < 0))=false→
 ∃ n13:Int,Wr .i64 (n5+1) n13∧
 eqS (.num .i64 n0_0)∧
 eqS (.num .i64 n0_1)∧
 eqS (.sl x0_2)∧
 I2 n10 n13 w6∧
 m3 n10 n13 w6 < m3 n4 n5 w6))∧
 ((decide (n5 < (x0_2.n:Int)))=false→
 Q (.int .i64 n4) w6))
theorem of106 (n0_0:Int) (n0_1:Int) (x0_2:Sl) (n_1:Int) (v:World) (Q:QT) (h:vc106 n0_0 n0_1 x0_2 n_1 v Q):Trip Tryz.prog 106 #[.agg #[.int .i64 n0_0,.int .i64 n0_1,x0_2.val],.int .i64 n_1] v Q:=
 trip_of_eq (args:=[.ag [.num .i64 n0_0,.num .i64 n0_1,.sl x0_2],.num .i64 n_1]) (A:=⟨[(5,[(1,.int .i64),(5,.int .i64)],[])],[],[],[],psG⟩) Tryz.func106 (by kernel_rfl) (by kernel_rfl) (by kernel_rfl:vc106 n0_0 n0_1 x0_2 n_1 v Q=_) h
def vc107 (n_0:Int) (n_1:Int) (n_2:Int) (v:World) (Q:QT):Prop:=
 Q (.bool ((decide (n_1≤n_0)) && (decide (n_0≤n_2)))) v
theorem of107 (n_0:Int) (n_1:Int) (n_2:Int) (v:World) (Q:QT) (h:vc107 n_0 n_1 n_2 v Q):Trip Tryz.prog 107 #[.int .i64 n_0,.int .i64 n_1,.int .i64 n_2] v Q:=
 trip_of_eq (args:=[.num .i64 n_0,.num .i64 n_1,.num .i64 n_2]) (A:=aG) Tryz.func107 (by kernel_rfl) (by kernel_rfl) (by kernel_rfl:vc107 n_0 n_1 n_2 v Q=_) h
def vc108 (n_0:Int) (v:World) (Q:QT):Prop:=
 Q (.bool ((((decide (n_0=6)) || (decide (n_0=8))) || (decide (n_0=9))) || (decide (n_0=10)))) v
theorem of108 (n_0:Int) (v:World) (Q:QT) (h:vc108 n_0 v Q):Trip Tryz.prog 108 #[.int .i64 n_0] v Q:=
 trip_of_eq (args:=[.num .i64 n_0]) (A:=aG) Tryz.func108 (by kernel_rfl) (by kernel_rfl) (by kernel_rfl:vc108 n_0 v Q=_) h
def vc109 (n_0:Int) (v:World) (Q:QT):Prop:=
 bS 83 14 #[(0,(.string (ByteArray.mk #[]))),(1,(.string (ByteArray.mk #[97,100,100]))),(2,(.string (ByteArray.mk #[115,117,98]))),(3,(.string (ByteArray.mk #[109,117,108]))),(4,(.string (ByteArray.mk #[108,101,115,115]))),(5,(.string (ByteArray.mk #[112,114,105,110,116]))),(6,(.string (ByteArray.mk #[99,111,110]))),(7,(.string (ByteArray.mk #[105,102]))),(8,(.string (ByteArray.mk #[109,97,116,99,104]))),(9,(.string (ByteArray.mk #[99,97,108,108]))),(10,(.string (ByteArray.mk #[99,108,111,115,101]))),(11,(.string (ByteArray.mk #[97,112,112,108,121]))),(12,(.string (ByteArray.mk #[]))),(13,(.string (ByteArray.mk #[108,101,116])))] v fun x3 w2=>
 IxOk x3 n_0∧
 ∃ s4:ByteArray,w2.cell? ((elA x3 n_0 1).add 0)=some (.string s4)∧
 Q (.string s4) w2
theorem of109 (n_0:Int) (v:World) (Q:QT) (h:vc109 n_0 v Q):Trip Tryz.prog 109 #[.int .i64 n_0] v Q:=
 trip_of_eq (args:=[.num .i64 n_0]) (A:=aG) Tryz.func109 (by kernel_rfl) (by kernel_rfl) (by kernel_rfl:vc109 n_0 v Q=_) h
def vc110 (a_0:Addr) (n_1:Int) (v:World) (Q:QT):Prop:=
 ∃ s1:ByteArray,v.cell? (a_0.add 0)=some (.string s1)∧
 ∃ s2:ByteArray,((s1.toList == (ByteArray.mk #[]).toList)=false→
 v.cell? (a_0.add 0)=some (.string s2))∧
 ((s1.toList == (ByteArray.mk #[]).toList)=false→
 StrIxOk s2 0)∧
 (((s1.toList == (ByteArray.mk #[]).toList) || (!decide (strIx s2 0=n_1)))=true→
 Q (.bool false) v)∧
 (((s1.toList == (ByteArray.mk #[]).toList) || (!decide (strIx s2 0=n_1)))=false→
 ∃ s3:ByteArray,v.cell? (a_0.add 0)=some (.string s3)∧
 ((0:Int)≤1∧1≤(s3.size:Int))∧
 StoreAt v a_0 0 [.string (strCut s3 1 (s3.size:Int))] fun w4=>
 Q (.bool true) w4)
theorem of110 (a_0:Addr) (n_1:Int) (v:World) (Q:QT) (h:vc110 a_0 n_1 v Q):Trip Tryz.prog 110 #[.pointer (some (a_0.add 0)),.int .u8 n_1] v Q:=
 trip_of_eq (args:=[.pt a_0 0,.num .u8 n_1]) (A:=aG) Tryz.func110 (by kernel_rfl) (by kernel_rfl) (by kernel_rfl:vc110 a_0 n_1 v Q=_) h
def vc111 (a_0:Addr) (v:World) (Q:QT):Prop:=
 ∃ s1:ByteArray,v.cell? (a_0.add 0)=some (.string s1)∧
 ∃ n2:Int,(Trip Tryz.prog 158 #[.string s1,.string (ByteArray.mk #[32,41])] v fun r3 w4=>r3=.int .i64 n2∧Sub v w4)∧
 ((decide (n2 < 0))=true→
 ∃ s5:ByteArray,v.cell? (a_0.add 0)=some (.string s5)∧
 ∃ s6:ByteArray,v.cell? (a_0.add 0)=some (.string s6)∧
 StrOk s6 0 (s5.size:Int)∧
 ∃ s7:ByteArray,v.cell? (a_0.add 0)=some (.string s7)∧
 ((0:Int)≤(s5.size:Int)∧(s5.size:Int)≤(s7.size:Int))∧
 StoreAt v a_0 0 [.string (strCut s7 (s5.size:Int) (s7.size:Int))] fun w8=>
 Q (.string (strCut s6 0 (s5.size:Int))) w8)∧
 ((decide (n2 < 0))=false→
 ∃ s9:ByteArray,v.cell? (a_0.add 0)=some (.string s9)∧
 StrOk s9 0 n2∧
 ∃ s10:ByteArray,v.cell? (a_0.add 0)=some (.string s10)∧
 ((0:Int)≤n2∧n2≤(s10.size:Int))∧
 StoreAt v a_0 0 [.string (strCut s10 n2 (s10.size:Int))] fun w11=>
 Q (.string (strCut s9 0 n2)) w11)
theorem of111 (a_0:Addr) (v:World) (Q:QT) (h:vc111 a_0 v Q):Trip Tryz.prog 111 #[.pointer (some (a_0.add 0))] v Q:=
 trip_of_eq (args:=[.pt a_0 0]) (A:=aG) Tryz.func111 (by kernel_rfl) (by kernel_rfl) (by kernel_rfl:vc111 a_0 v Q=_) h
def vc113 (s_0:ByteArray) (v:World) (Q:QT):Prop:=
 ∃ s1:ByteArray,(Trip Tryz.prog 160 #[.string s_0,.string (ByteArray.mk #[48,49,50,51,52,53,54,55,56,57])] v fun r2 w3=>r2=.string s1∧Sub v w3)∧
 ∃ I4:Int→World→Prop,∃ m5:Int→World→Nat,I4 1 v∧
 ∀ n6:Int,∀ w7:World,I4 n6 w7→
 ((decide (n6≤13))=true→
 ∃ s8:ByteArray,∃ q9:Bool,(Trip Tryz.prog 105 #[.int .i64 n6] w7 fun r10 w11=>r10=.tuple #[.string s8,.bool q9]∧Sub w7 w11)∧
 (((s8.toList == (ByteArray.mk #[]).toList) || (!(s8.toList == s1.toList)))=true→
 ∃ n12:Int,Wr .i64 (n6+1) n12∧
 eqS (.num .i64 0)∧
 eqS (.num .i64 0)∧
 eqS (.sl (Sl.mk none 0 0))∧
 I4 n12 w7∧
 m5 n12 w7 < m5 n6 w7)∧
 (((s8.toList == (ByteArray.mk #[]).toList) || (!(s8.toList == s1.toList)))=false→
 ((!q9)=true→
 Q (.tuple #[.agg #[.int .i64 n6,.int .i64 0,.slice none 0 0],.bool (s_0.toList == s1.toList)]) w7)∧
 ((!q9)=false→
 ((0:Int)≤(s1.size:Int)∧(s1.size:Int)≤(s_0.size:Int))∧
 Trip Tryz.prog 93 #[.string (strCut s_0 (s1.size:Int) (s_0.size:Int))] w7 fun r13 w14=>
 ∃ n15:Int,∃ y16:Vl,r13=.tuple #[.int .i64 n15,y16.x]∧
 (∃ q17:Bool,PureT Tryz.prog (do eqGuard .eql 64 (.tmp 46) (.const (.nilIface)) (y16.x) ((Vl.mk Value.nilIface rfl).x);binOp .eql 64 (y16.x) ((Vl.mk Value.nilIface rfl).x)) w14 (.bool q17)∧
 Q (.tuple #[.agg #[.int .i64 n6,.int .i64 n15,.slice none 0 0],.bool q17]) w14)∧
 ∃ q18:Bool,PureT Tryz.prog (do eqGuard .eql 64 (.tmp 46) (.const (.nilIface)) (y16.x) ((Vl.mk Value.nilIface rfl).x);binOp .eql 64 (y16.x) ((Vl.mk Value.nilIface rfl).x)) w14 (.bool q18)∧
 Q (.tuple #[.agg #[.int .i64 n6,.int .i64 n15,.slice none 0 0],.bool q18]) w14)))∧
 ((decide (n6≤13))=false→
 Q (.tuple #[.agg #[.int .i64 0,.int .i64 0,.slice none 0 0],.bool false]) w7)
theorem of113 (s_0:ByteArray) (v:World) (Q:QT) (h:vc113 s_0 v Q):Trip Tryz.prog 113 #[.string s_0] v Q:=
 trip_of_eq (args:=[.st s_0]) (A:=⟨[(3,[(5,.int .i64)],[])],[],[(10,[])],[],psG⟩) Tryz.func113 (by kernel_rfl) (by kernel_rfl) (by kernel_rfl:vc113 s_0 v Q=_) h
def vc117 (a_0:Addr) (x1_0:Sl) (x1_1:Sl) (v:World) (Q:QT):Prop:=
 tI 61 #[.pointer (some (a_0.add 0)),.int .i64 (x1_1.n:Int)] v fun n3 w2=>
 IxOk x1_1 n3∧
 ldF w2 x1_1 n3 fun x4 n5 n6 n7 x8=>
 tI 61 #[.pointer (some (a_0.add 0)),.int .i64 24] w2 fun n11 w10=>
 ((decide (n11=0))=true→
 tE 102 #[.pointer (some (a_0.add 0)),.agg #[.int .i64 n6,.int .i64 n7,x8.val]] w10 fun n14 n15 x16 w13=>
 IxOk x1_1 n3∧
 StoreAt w13 (elA x1_1 n3 5) 0 [x4.val,.int .i64 n5,.int .i64 n14,.int .i64 n15,x16.val] fun w17=>
 Q (.agg #[x1_0.val,x1_1.val]) w17)∧
 ((decide (n11=0))=false→
 ((decide (n11=1))=true→
 bS 68 4 #[(0,(.int .i64 0)),(1,(.int .i64 1)),(2,(.int .i64 9)),(3,(.int .i64 (-1)))] w10 fun x20 w19=>
 tI 120 #[.pointer (some (a_0.add 0)),x20.val] w19 fun n23 w22=>
 bS 68 1 #[(0,(.int .i64 n23))] w22 fun x26 w25=>
 tS 136 #[x4.val,x26.val] w25 fun x29 w28=>
 IxOk x1_1 n3∧
 StoreAt w28 (elA x1_1 n3 5) 0 [x29.val,.int .i64 n5,.int .i64 n6,.int .i64 n7,x8.val] fun w30=>
 Q (.agg #[x1_0.val,x1_1.val]) w30)∧
 ((decide (n11=1))=false→
 ((decide (n11=2))=true→
 bS 68 5 #[(0,(.int .i64 0)),(1,(.int .i64 1)),(2,(.int .i64 3)),(3,(.int .i64 5)),(4,(.int .i64 (-1)))] w10 fun x33 w32=>
 tI 120 #[.pointer (some (a_0.add 0)),x33.val] w32 fun n36 w35=>
 IxOk x1_1 n3∧
 StoreAt w35 (elA x1_1 n3 5) 0 [x4.val,.int .i64 n36,.int .i64 n6,.int .i64 n7,x8.val] fun w37=>
 Q (.agg #[x1_0.val,x1_1.val]) w37)∧
 ((decide (n11=2))=false→
 ((decide (n11=3))=true→
 tS 161 #[.pointer (some (a_0.add 0))] w10 fun x40 w39=>
 Q (.agg #[x40.val,x1_1.val]) w39)∧
 ((decide (n11=3))=false→
 ((decide (n11=4))=true→
 bS 29 1 #[(0,(.agg #[x4.val,.int .i64 n5,.int .i64 n6,.int .i64 n7,x8.val]))] w10 fun x43 w42=>
 StepT Tryz.prog (Builtin.append_ #[29,29] 29 #[(x1_1.val),(x43.val)]) w42 fun r44 w45=>
 ∃ x46:Sl,r44=x46.val∧
 Q (.agg #[x1_0.val,x46.val]) w45)∧
 ((decide (n11=4))=false→
 Q (.agg #[x1_0.val,x1_1.val]) w10)))))
theorem of117 (a_0:Addr) (x1_0:Sl) (x1_1:Sl) (v:World) (Q:QT) (h:vc117 a_0 x1_0 x1_1 v Q):Trip Tryz.prog 117 #[.pointer (some (a_0.add 0)),.agg #[x1_0.val,x1_1.val]] v Q:=
 trip_of_eq (args:=[.pt a_0 0,.ag [.sl x1_0,.sl x1_1]]) (A:=⟨[],[],[(5,[]),(7,[]),(9,[])],[],psG⟩) Tryz.func117 (by kernel_rfl) (by kernel_rfl) (by kernel_rfl:vc117 a_0 x1_0 x1_1 v Q=_) h
def vc118 (a_0:Addr) (v:World) (Q:QT):Prop:=
 bS 68 0 #[] v fun x3 w2=>
 Trip Tryz.prog 162 #[x3.val] w2 fun r4 w5=>
 ∃ x6:Sl,r4=.agg #[x6.val]∧
 bS 68 2 #[(0,(.int .i64 0)),(1,(.int .i64 1))] w5 fun x9 w8=>
 Trip Tryz.prog 162 #[x9.val] w8 fun r10 w11=>
 ∃ x12:Sl,r10=.agg #[x12.val]∧
 bS 60 2 #[(0,(.agg #[x6.val])),(1,(.agg #[x12.val]))] w11 fun x15 w14=>
 bS 68 0 #[] w14 fun x18 w17=>
 Trip Tryz.prog 162 #[x18.val] w17 fun r19 w20=>
 ∃ x21:Sl,r19=.agg #[x21.val]∧
 bS 68 3 #[(0,(.int .i64 3)),(1,(.int .i64 0)),(2,(.int .i64 3))] w20 fun x24 w23=>
 Trip Tryz.prog 162 #[x24.val] w23 fun r25 w26=>
 ∃ x27:Sl,r25=.agg #[x27.val]∧
 bS 60 2 #[(0,(.agg #[x21.val])),(1,(.agg #[x27.val]))] w26 fun x30 w29=>
 bS 68 2 #[(0,(.int .i64 1)),(1,(.int .i64 3))] w29 fun x33 w32=>
 Trip Tryz.prog 162 #[x33.val] w32 fun r34 w35=>
 ∃ x36:Sl,r34=.agg #[x36.val]∧
 bS 60 1 #[(0,(.agg #[x36.val]))] w35 fun x39 w38=>
 bS 68 3 #[(0,(.int .i64 1)),(1,(.int .i64 1)),(2,(.int .i64 0))] w38 fun x42 w41=>
 Trip Tryz.prog 162 #[x42.val] w41 fun r43 w44=>
 ∃ x45:Sl,r43=.agg #[x45.val]∧
 bS 68 1 #[(0,(.int .i64 0))] w44 fun x48 w47=>
 Trip Tryz.prog 162 #[x48.val] w47 fun r49 w50=>
 ∃ x51:Sl,r49=.agg #[x51.val]∧
 bS 68 1 #[(0,(.int .i64 3))] w50 fun x54 w53=>
 Trip Tryz.prog 162 #[x54.val] w53 fun r55 w56=>
 ∃ x57:Sl,r55=.agg #[x57.val]∧
 bS 60 3 #[(0,(.agg #[x45.val])),(1,(.agg #[x51.val])),(2,(.agg #[x57.val]))] w56 fun x60 w59=>
 bS 28 4 #[(0,(.agg #[.int .i64 0,.int .i64 0,x39.val])),(1,(.agg #[.int .i64 1,.int .i64 0,.slice none 0 0])),(2,(.agg #[.int .i64 0,.int .i64 0,x60.val])),(3,(.agg #[.int .i64 0,.int .i64 1,.slice none 0 0]))] w59 fun x63 w62=>
 bS 28 3 #[(0,(.agg #[.int .i64 0,.int .i64 0,x15.val])),(1,(.agg #[.int .i64 0,.int .i64 0,.slice none 0 0])),(2,(.agg #[.int .i64 0,.int .i64 0,x30.val]))] w62 fun x66 w65=>
 tI 61 #[.pointer (some (a_0.add 0)),.int .i64 5] w65 fun n69 w68=>
 ((decide (n69 < 4))=true→
 IxOk x63 n69∧
 ldT w68 x63 n69 fun n70 n71 x72=>
 bS 28 1 #[(0,(.agg #[.int .i64 n70,.int .i64 n71,x72.val]))] w68 fun x75 w74=>
 StepT Tryz.prog (Builtin.append_ #[28,28] 28 #[(x66.val),(x75.val)]) w74 fun r76 w77=>
 ∃ x78:Sl,r76=x78.val∧
 Q (x78.val) w77)∧
 ((decide (n69 < 4))=false→
 Q (x66.val) w68)
theorem of118 (a_0:Addr) (v:World) (Q:QT) (h:vc118 a_0 v Q):Trip Tryz.prog 118 #[.pointer (some (a_0.add 0))] v Q:=
 trip_of_eq (args:=[.pt a_0 0]) (A:=aG) Tryz.func118 (by kernel_rfl) (by kernel_rfl) (by kernel_rfl:vc118 a_0 v Q=_) h
def vc119 (x_0:Sl) (n_1:Int) (v:World) (Q:QT):Prop:=
 Q (.agg #[x_0.val,.int .i64 n_1,.int .i64 0,.int .i64 0,.slice none 0 0]) v
theorem of119 (x_0:Sl) (n_1:Int) (v:World) (Q:QT) (h:vc119 x_0 n_1 v Q):Trip Tryz.prog 119 #[x_0.val,.int .i64 n_1] v Q:=
 trip_of_eq (args:=[.sl x_0,.num .i64 n_1]) (A:=aG) Tryz.func119 (by kernel_rfl) (by kernel_rfl) (by kernel_rfl:vc119 x_0 n_1 v Q=_) h
def vc120 (a_0:Addr) (x_1:Sl) (v:World) (Q:QT):Prop:=
 tI 61 #[.pointer (some (a_0.add 0)),.int .i64 (x_1.n:Int)] v fun n3 w2=>
 IxOk x_1 n3∧
 ∃ n4:Int,w2.cell? ((elA x_1 n3 1).add 0)=some (.int .i64 n4)∧
 Q (.int .i64 n4) w2
theorem of120 (a_0:Addr) (x_1:Sl) (v:World) (Q:QT) (h:vc120 a_0 x_1 v Q):Trip Tryz.prog 120 #[.pointer (some (a_0.add 0)),x_1.val] v Q:=
 trip_of_eq (args:=[.pt a_0 0,.sl x_1]) (A:=aG) Tryz.func120 (by kernel_rfl) (by kernel_rfl) (by kernel_rfl:vc120 a_0 x_1 v Q=_) h
def vc121 (a_0:Addr) (x1_0:Sl) (x1_1:Sl) (n_2:Int) (v:World) (Q:QT):Prop:=
 IxOk x1_1 n_2∧
 ∃ x1:Sl,v.cell? ((elA x1_1 n_2 5).add 0)=some (x1.val)∧
 IxOk x1_1 n_2∧
 ∃ n2:Int,v.cell? ((elA x1_1 n_2 5).add 1)=some (.int .i64 n2)∧
 ∃ n3:Int,(Trip Tryz.prog 163 #[x1.val,.int .i64 1] v fun r4 w5=>r4=.int .i64 n3∧Sub v w5)∧
 tE 156 #[.int .i64 0] v fun n8 n9 x10 w7=>
 tI 61 #[.pointer (some (a_0.add 0)),.int .i64 4] w7 fun n13 w12=>
 ∃ J14:Int→Int→Sl→World→Prop,((((decide (n13 < 3)) && (decide (n_2=0)))=true→
 tE 164 #[.pointer (some (a_0.add 0)),.agg #[x1_0.val,x1_1.val]] w12 fun n17 n18 x19 w16=>
 eqS (.sl x1_0)∧
 eqS (.sl x1_1)∧
 eqS (.num .i64 0)∧
 eqS (.num .i64 0)∧
 eqS (.sl (Sl.mk none 0 0))∧
 J14 n17 n18 x19 w16)∧
 (((decide (n13 < 3)) && (decide (n_2=0)))=false→
 ((((decide (n13 < 3)) && (decide (n3≥0))) && ((decide (n2=0)) || (decide (n2=1))))=true→
 tE 165 #[.pointer (some (a_0.add 0)),.agg #[x1_0.val,x1_1.val],.int .i64 n_2,.int .i64 n3] w12 fun n22 n23 x24 w21=>
 eqS (.sl x1_0)∧
 eqS (.sl x1_1)∧
 eqS (.num .i64 0)∧
 eqS (.num .i64 0)∧
 eqS (.sl (Sl.mk none 0 0))∧
 J14 n22 n23 x24 w21)∧
 ((((decide (n13 < 3)) && (decide (n3≥0))) && ((decide (n2=0)) || (decide (n2=1))))=false→
 (((decide (n13 < 3)) && (decide ((x1.n:Int) > 0)))=true→
 IxOk x1 0)∧
 ∃ n25:Int,(((decide (n13 < 3)) && (decide ((x1.n:Int) > 0)))=true→
 w12.cell? ((elA x1 0 1).add 0)=some (.int .i64 n25))∧
 (((((decide (n13 < 3)) && (decide ((x1.n:Int) > 0))) && (decide (n25=3))) && ((decide (n2=0)) || (decide (n2=3))))=true→
 tE 166 #[.pointer (some (a_0.add 0)),.agg #[x1_0.val,x1_1.val],.int .i64 n_2] w12 fun n28 n29 x30 w27=>
 eqS (.sl x1_0)∧
 eqS (.sl x1_1)∧
 eqS (.num .i64 0)∧
 eqS (.num .i64 0)∧
 eqS (.sl (Sl.mk none 0 0))∧
 J14 n28 n29 x30 w27)∧
 (((((decide (n13 < 3)) && (decide ((x1.n:Int) > 0))) && (decide (n25=3))) && ((decide (n2=0)) || (decide (n2=3))))=false→
 (((decide (n13 < 3)) && (decide ((x1.n:Int) > 0)))=true→
 IxOk x1 0)∧
 ∃ n31:Int,(((decide (n13 < 3)) && (decide ((x1.n:Int) > 0)))=true→
 w12.cell? ((elA x1 0 1).add 0)=some (.int .i64 n31))∧
 (((((decide (n13 < 3)) && (decide ((x1.n:Int) > 0))) && (decide (n31=0))) && ((decide (n2=0)) || (decide (n2=1))))=true→
 tE 167 #[.pointer (some (a_0.add 0)),.agg #[x1_0.val,x1_1.val],.int .i64 n_2] w12 fun n34 n35 x36 w33=>
 eqS (.sl x1_0)∧
 eqS (.sl x1_1)∧
 eqS (.num .i64 0)∧
 eqS (.num .i64 0)∧
 eqS (.sl (Sl.mk none 0 0))∧
 J14 n34 n35 x36 w33)∧
 (((((decide (n13 < 3)) && (decide ((x1.n:Int) > 0))) && (decide (n31=0))) && ((decide (n2=0)) || (decide (n2=1))))=false→
 tE 168 #[.pointer (some (a_0.add 0)),.agg #[x1_0.val,x1_1.val],x1.val,.int .i64 n2,.int .i64 18] w12 fun n39 n40 x41 w38=>
 eqS (.sl x1_0)∧
 eqS (.sl x1_1)∧
 eqS (.num .i64 0)∧
 eqS (.num .i64 0)∧
 eqS (.sl (Sl.mk none 0 0))∧
 J14 n39 n40 x41 w38)))))∧
 ∀ n42:Int,∀ n43:Int,∀ x44:Sl,∀ w45:World,J14 n42 n43 x44 w45→
 ∃ n46:Int,(Trip Tryz.prog 56 #[.agg #[.int .i64 n42,.int .i64 n43,x44.val]] w45 fun r47 w48=>r47=.int .i64 n46∧Sub w45 w48)∧
 ((decide (n46 < 0))=true→
 tE 168 #[.pointer (some (a_0.add 0)),.agg #[x1_0.val,x1_1.val],x1.val,.int .i64 n2,.int .i64 12] w45 fun n51 n52 x53 w50=>
 Q (.agg #[.int .i64 n51,.int .i64 n52,x53.val]) w50)∧
 ((decide (n46 < 0))=false→
 Q (.agg #[.int .i64 n42,.int .i64 n43,x44.val]) w45)
theorem of121 (a_0:Addr) (x1_0:Sl) (x1_1:Sl) (n_2:Int) (v:World) (Q:QT) (h:vc121 a_0 x1_0 x1_1 n_2 v Q):Trip Tryz.prog 121 #[.pointer (some (a_0.add 0)),.agg #[x1_0.val,x1_1.val],.int .i64 n_2] v Q:=
 trip_of_eq (args:=[.pt a_0 0,.ag [.sl x1_0,.sl x1_1],.num .i64 n_2]) (A:=⟨[],[(15,[],[(2,0,.int .i64),(2,1,.int .i64),(2,2,.sl)])],[],[],psG⟩) Tryz.func121 (by kernel_rfl) (by kernel_rfl) (by kernel_rfl:vc121 a_0 x1_0 x1_1 n_2 v Q=_) h
end Go.Vc
