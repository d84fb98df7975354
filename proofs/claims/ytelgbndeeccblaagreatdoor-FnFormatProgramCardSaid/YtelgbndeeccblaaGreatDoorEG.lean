/- Part of the proofs about the heaps and memories: a law is joined in the text whose name ends in W and the law. -/
import Derived.Test.YtelgbndeeccblaaGreatDoorEGa
set_option linter.all false
namespace Go.Vc
open Go Go.Proofs
def vc122 (x_0:Sl) (x_1:Sl) (v:World) (Q:QT):Prop:=
 ∃ q1:Bool,(Trip Tryz.prog 169 #[x_0.val] v fun r2 w3=>r2=.bool q1∧Sub v w3)∧
 ((((!q1) || (decide ((x_1.n:Int) < 1))) || (decide ((x_1.n:Int) > 4)))=false→
 IxOk x_1 0)∧
 ∃ x4:Sl,((((!q1) || (decide ((x_1.n:Int) < 1))) || (decide ((x_1.n:Int) > 4)))=false→
 v.cell? ((elA x_1 0 3).add 0)=some (x4.val))∧
 (((((!q1) || (decide ((x_1.n:Int) < 1))) || (decide ((x_1.n:Int) > 4))) || (decide ((x4.n:Int) > 0)))=false→
 IxOk x_1 0)∧
 ∃ n5:Int,(((((!q1) || (decide ((x_1.n:Int) < 1))) || (decide ((x_1.n:Int) > 4))) || (decide ((x4.n:Int) > 0)))=false→
 v.cell? ((elA x_1 0 3).add 2)=some (.int .i64 n5))∧
 ((((((!q1) || (decide ((x_1.n:Int) < 1))) || (decide ((x_1.n:Int) > 4))) || (decide ((x4.n:Int) > 0))) || (!decide (n5=0)))=true→
 Q (.bool false) v)∧
 ((((((!q1) || (decide ((x_1.n:Int) < 1))) || (decide ((x_1.n:Int) > 4))) || (decide ((x4.n:Int) > 0))) || (!decide (n5=0)))=false→
 ∃ I6:Int→World→Prop,∃ m7:Int→World→Nat,I6 0 v∧
 ∀ n8:Int,∀ w9:World,I6 n8 w9→
 ((decide (n8 < (x_1.n:Int)))=true→
 IxOk x_1 n8∧
 ∃ x10:Sl,∃ x11:Sl,∃ n12:Int,(w9.cell? ((elA x_1 n8 3).add 0)=some (x10.val)∧
 w9.cell? ((elA x_1 n8 3).add 1)=some (x11.val)∧
 w9.cell? ((elA x_1 n8 3).add 2)=some (.int .i64 n12))∧
 ∃ q13:Bool,((decide ((x10.n:Int) > 3))=false→
 (Trip Tryz.prog 123 #[x_0.val,x10.val] w9 fun r14 w15=>r14=.bool q13∧Sub w9 w15))∧
 ∃ q16:Bool,(((decide ((x10.n:Int) > 3)) || (!q13))=false→
 (Trip Tryz.prog 170 #[x_0.val,.int .i64 n12] w9 fun r17 w18=>r17=.bool q16∧Sub w9 w18))∧
 ((((decide ((x10.n:Int) > 3)) || (!q13)) || (!q16))=true→
 Q (.bool false) w9)∧
 ((((decide ((x10.n:Int) > 3)) || (!q13)) || (!q16))=false→
 ∃ I19:Int→World→Prop,∃ m20:Int→World→Nat,I19 0 w9∧
 ∀ n21:Int,∀ w22:World,I19 n21 w22→
 ((decide (n21 < (x11.n:Int)))=true→
 IxOk x11 n21∧
 ∃ n23:Int,w22.cell? ((elA x11 n21 1).add 0)=some (.int .i64 n23)∧
 (((decide (n23 < 0)) || (decide (n23≥(x10.n:Int))))=false→
 IxOk x10 n23)∧
 ∃ n24:Int,(((decide (n23 < 0)) || (decide (n23≥(x10.n:Int))))=false→
 w22.cell? ((elA x10 n23 1).add 0)=some (.int .i64 n24))∧
 ∃ n25:Int,((decide (n21 > 0))=true→
 (((decide (n23 < 0)) || (decide (n23≥(x10.n:Int)))) || (decide (n24=0)))=false→
 Wr .i64 (n21 - 1) n25)∧
 ((decide (n21 > 0))=true→
 (((decide (n23 < 0)) || (decide (n23≥(x10.n:Int)))) || (decide (n24=0)))=false→
 IxOk x11 n25)∧
 ∃ n26:Int,((decide (n21 > 0))=true→
 (((decide (n23 < 0)) || (decide (n23≥(x10.n:Int)))) || (decide (n24=0)))=false→
 w22.cell? ((elA x11 n25 1).add 0)=some (.int .i64 n26))∧
 (((((decide (n23 < 0)) || (decide (n23≥(x10.n:Int)))) || (decide (n24=0))) || ((decide (n21 > 0)) && (decide (n23≤n26))))=true→
 Q (.bool false) w22)∧
 (((((decide (n23 < 0)) || (decide (n23≥(x10.n:Int)))) || (decide (n24=0))) || ((decide (n21 > 0)) && (decide (n23≤n26))))=false→
 ∃ n27:Int,Wr .i64 (n21+1) n27∧
 eqS (.sl x10)∧
 eqS (.sl x11)∧
 eqS (.num .i64 n12)∧
 I19 n27 w22∧
 m20 n27 w22 < m20 n21 w22))∧
 ((decide (n21 < (x11.n:Int)))=false→
 ∃ n28:Int,Wr .i64 (n8+1) n28∧
 I6 n28 w22∧
 m7 n28 w22 < m7 n8 w9)))∧
 ((decide (n8 < (x_1.n:Int)))=false→
 Q (.bool true) w9))
theorem of122 (x_0:Sl) (x_1:Sl) (v:World) (Q:QT) (h:vc122 x_0 x_1 v Q):Trip Tryz.prog 122 #[x_0.val,x_1.val] v Q:=
 trip_of_eq (args:=[.sl x_0,.sl x_1]) (A:=⟨[(4,[(39,.int .i64)],[]),(9,[(64,.int .i64)],[])],[],[],[],psG⟩) Tryz.func122 (by kernel_rfl) (by kernel_rfl) (by kernel_rfl:vc122 x_0 x_1 v Q=_) h
def vc123 (x_0:Sl) (x_1:Sl) (v:World) (Q:QT):Prop:=
 ∃ I1:Int→World→Prop,∃ m2:Int→World→Nat,I1 0 v∧
 ∀ n3:Int,∀ w4:World,I1 n3 w4→
 ((decide (n3 < (x_1.n:Int)))=true→
 IxOk x_1 n3∧
 ∃ n5:Int,w4.cell? ((elA x_1 n3 1).add 0)=some (.int .i64 n5)∧
 ∃ q6:Bool,(Trip Tryz.prog 170 #[x_0.val,.int .i64 n5] w4 fun r7 w8=>r7=.bool q6∧Sub w4 w8)∧
 ((!q6)=true→
 Q (.bool false) w4)∧
 ((!q6)=false→
 ∃ n9:Int,Wr .i64 (n3+1) n9∧
 I1 n9 w4∧
 m2 n9 w4 < m2 n3 w4))∧
 ((decide (n3 < (x_1.n:Int)))=false→
 Q (.bool true) w4)
theorem of123 (x_0:Sl) (x_1:Sl) (v:World) (Q:QT) (h:vc123 x_0 x_1 v Q):Trip Tryz.prog 123 #[x_0.val,x_1.val] v Q:=
 trip_of_eq (args:=[.sl x_0,.sl x_1]) (A:=⟨[(2,[(9,.int .i64)],[])],[],[],[],psG⟩) Tryz.func123 (by kernel_rfl) (by kernel_rfl) (by kernel_rfl:vc123 x_0 x_1 v Q=_) h
def vc124 (x0_0:Sl) (x0_1:Sl) (v:World) (Q:QT):Prop:=
 ∃ I1:Int→Sl→World→Prop,∃ m2:Int→Sl→World→Nat,I1 0 (Sl.mk none 0 0) v∧
 ∀ n3:Int,∀ x4:Sl,∀ w5:World,I1 n3 x4 w5→
 ((decide (n3 < (x0_1.n:Int)))=true→
 IxOk x0_1 n3∧
 ldF w5 x0_1 n3 fun x6 n7 n8 n9 x10=>
 bS 153 1 #[(0,(.agg #[x6.val,.slice none 0 0,.int .i64 n7]))] w5 fun x13 w12=>
 StepT Tryz.prog (Builtin.append_ #[153,153] 153 #[(x4.val),(x13.val)]) w12 fun r14 w15=>
 ∃ x16:Sl,r14=x16.val∧
 ∃ n17:Int,Wr .i64 (n3+1) n17∧
 eqS (.sl x0_0)∧
 eqS (.sl x0_1)∧
 eqS (.sl (Sl.mk none 0 0))∧
 eqS (.sl (Sl.mk none 0 0))∧
 eqS (.sl x0_0)∧
 I1 n17 x16 w15∧
 m2 n17 x16 w15 < m2 n3 x4 w5)∧
 ((decide (n3 < (x0_1.n:Int)))=false→
 Q (.agg #[x0_0.val,x4.val]) w5)
theorem of124 (x0_0:Sl) (x0_1:Sl) (v:World) (Q:QT) (h:vc124 x0_0 x0_1 v Q):Trip Tryz.prog 124 #[.agg #[x0_0.val,x0_1.val]] v Q:=
 trip_of_eq (args:=[.ag [.sl x0_0,.sl x0_1]]) (A:=⟨[(3,[(12,.int .i64)],[(2,1,.sl)])],[],[],[],psG⟩) Tryz.func124 (by kernel_rfl) (by kernel_rfl) (by kernel_rfl:vc124 x0_0 x0_1 v Q=_) h
def vc125 (x0_0:Sl) (x0_1:Sl) (x_1:Sl) (n2_0:Int) (n2_1:Int) (x2_2:Sl) (v:World) (Q:QT):Prop:=
 ((decide (n2_0=12))=true→
 ((((decide ((x2_2.n:Int) > 0)) || (decide (n2_1 < 0))) || (decide (n2_1≥(x_1.n:Int))))=true→
 Q (.int .i64 (-1)) v)∧
 ((((decide ((x2_2.n:Int) > 0)) || (decide (n2_1 < 0))) || (decide (n2_1≥(x_1.n:Int))))=false→
 IxOk x_1 n2_1∧
 ∃ n1:Int,v.cell? ((elA x_1 n2_1 1).add 0)=some (.int .i64 n1)∧
 Q (.int .i64 n1) v))∧
 ((decide (n2_0=12))=false→
 ((decide (n2_0=13))=true→
 (((!decide ((x2_2.n:Int)=2)) || (!decide (n2_1=0)))=true→
 Q (.int .i64 (-1)) v)∧
 (((!decide ((x2_2.n:Int)=2)) || (!decide (n2_1=0)))=false→
 IxOk x2_2 0∧
 ldT v x2_2 0 fun n2 n3 x4=>
 tI 125 #[.agg #[x0_0.val,x0_1.val],x_1.val,.agg #[.int .i64 n2,.int .i64 n3,x4.val]] v fun n7 w6=>
 ((decide (n7 < 0))=true→
 Q (.int .i64 (-1)) w6)∧
 ((decide (n7 < 0))=false→
 (bS 68 1 #[(0,(.int .i64 n7))] w6 fun x10 w9=>
 (StepT Tryz.prog (Builtin.append_ #[68,68] 68 #[(x_1.val),(x10.val)]) w9 fun r11 w12=>
 ∃ x13:Sl,r11=x13.val∧
 IxOk x2_2 1∧
 ldT w12 x2_2 1 fun n14 n15 x16=>
 tI 125 #[.agg #[x0_0.val,x0_1.val],x13.val,.agg #[.int .i64 n14,.int .i64 n15,x16.val]] w12 fun n19 w18=>
 Q (.int .i64 n19) w18)∧
 IxOk x2_2 1∧
 (StepT Tryz.prog (Builtin.append_ #[68,68] 68 #[(x_1.val),(x10.val)]) w9 fun r20 w21=>
 ∃ x22:Sl,r20=x22.val∧
 ldT w21 x2_2 1 fun n23 n24 x25=>
 tI 125 #[.agg #[x0_0.val,x0_1.val],x22.val,.agg #[.int .i64 n23,.int .i64 n24,x25.val]] w21 fun n28 w27=>
 Q (.int .i64 n28) w27)∧
 ldT w9 x2_2 1 fun n29 n30 x31=>
 StepT Tryz.prog (Builtin.append_ #[68,68] 68 #[(x_1.val),(x10.val)]) w9 fun r32 w33=>
 ∃ x34:Sl,r32=x34.val∧
 tI 125 #[.agg #[x0_0.val,x0_1.val],x34.val,.agg #[.int .i64 n29,.int .i64 n30,x31.val]] w33 fun n37 w36=>
 Q (.int .i64 n37) w36)∧
 IxOk x2_2 1∧
 (bS 68 1 #[(0,(.int .i64 n7))] w6 fun x40 w39=>
 (StepT Tryz.prog (Builtin.append_ #[68,68] 68 #[(x_1.val),(x40.val)]) w39 fun r41 w42=>
 ∃ x43:Sl,r41=x43.val∧
 ldT w42 x2_2 1 fun n44 n45 x46=>
 tI 125 #[.agg #[x0_0.val,x0_1.val],x43.val,.agg #[.int .i64 n44,.int .i64 n45,x46.val]] w42 fun n49 w48=>
 Q (.int .i64 n49) w48)∧
 ldT w39 x2_2 1 fun n50 n51 x52=>
 StepT Tryz.prog (Builtin.append_ #[68,68] 68 #[(x_1.val),(x40.val)]) w39 fun r53 w54=>
 ∃ x55:Sl,r53=x55.val∧
 tI 125 #[.agg #[x0_0.val,x0_1.val],x55.val,.agg #[.int .i64 n50,.int .i64 n51,x52.val]] w54 fun n58 w57=>
 Q (.int .i64 n58) w57)∧
 ldT w6 x2_2 1 fun n59 n60 x61=>
 bS 68 1 #[(0,(.int .i64 n7))] w6 fun x64 w63=>
 StepT Tryz.prog (Builtin.append_ #[68,68] 68 #[(x_1.val),(x64.val)]) w63 fun r65 w66=>
 ∃ x67:Sl,r65=x67.val∧
 tI 125 #[.agg #[x0_0.val,x0_1.val],x67.val,.agg #[.int .i64 n59,.int .i64 n60,x61.val]] w66 fun n70 w69=>
 Q (.int .i64 n70) w69)))∧
 ((decide (n2_0=13))=false→
 ((decide (n2_0=7))=true→
 (((!decide ((x2_2.n:Int)=3)) || (!decide (n2_1=0)))=false→
 IxOk x2_2 0)∧
 ∃ n71:Int,∃ n72:Int,∃ x73:Sl,(((!decide ((x2_2.n:Int)=3)) || (!decide (n2_1=0)))=false→
 v.cell? ((elA x2_2 0 3).add 0)=some (.int .i64 n71)∧
 v.cell? ((elA x2_2 0 3).add 1)=some (.int .i64 n72)∧
 v.cell? ((elA x2_2 0 3).add 2)=some (x73.val))∧
 (((!decide ((x2_2.n:Int)=3)) || (!decide (n2_1=0)))=false→
 tI 125 #[.agg #[x0_0.val,x0_1.val],x_1.val,.agg #[.int .i64 n71,.int .i64 n72,x73.val]] v fun n76 w75=>
 ((!decide (n76=0))=true→
 Q (.int .i64 (-1)) w75)∧
 ((!decide (n76=0))=false→
 ((0:Int)≤1∧1≤(x2_2.n:Int))∧
 StepT Tryz.prog (Instr.makeSlice 189 (.int .i64 2) (.int .i64 2)) w75 fun r77 w78=>
 ∃ x79:Sl,r77=x79.val∧
 Sub w75 w78∧
 tI 171 #[.agg #[x0_0.val,x0_1.val],x_1.val,(x2_2.cut 1 (x2_2.n:Int) 3).val,x79.val] w78 fun n82 w81=>
 Q (.int .i64 n82) w81))∧
 (((!decide ((x2_2.n:Int)=3)) || (!decide (n2_1=0)))=true→
 Q (.int .i64 (-1)) v))∧
 ((decide (n2_0=7))=false→
 ((decide (n2_0=8))=true→
 tS 172 #[x0_0.val,.int .i64 n2_1] v fun x85 w84=>
 ∃ n86:Int,((decide ((x85.n:Int)=0))=false→
 Wr .i64 (1+(x85.n:Int)) n86)∧
 (((decide ((x85.n:Int)=0)) || (!decide ((x2_2.n:Int)=n86)))=false→
 IxOk x2_2 0)∧
 ∃ n87:Int,∃ n88:Int,∃ x89:Sl,(((decide ((x85.n:Int)=0)) || (!decide ((x2_2.n:Int)=n86)))=false→
 w84.cell? ((elA x2_2 0 3).add 0)=some (.int .i64 n87)∧
 w84.cell? ((elA x2_2 0 3).add 1)=some (.int .i64 n88)∧
 w84.cell? ((elA x2_2 0 3).add 2)=some (x89.val))∧
 ((((decide ((x85.n:Int)=0)) || (!decide ((x2_2.n:Int)=n86)))=false→
 tI 125 #[.agg #[x0_0.val,x0_1.val],x_1.val,.agg #[.int .i64 n87,.int .i64 n88,x89.val]] w84 fun n92 w91=>
 ((!decide (n92=n2_1))=true→
 Q (.int .i64 (-1)) w91)∧
 ((!decide (n92=n2_1))=false→
 StepT Tryz.prog (Instr.makeSlice 189 (.int .i64 (x85.n:Int)) (.int .i64 (x85.n:Int))) w91 fun r93 w94=>
 ∃ x95:Sl,r93=x95.val∧
 ∃ I96:Int→World→Prop,∃ m97:Int→World→Nat,I96 0 w94∧
 ∀ n98:Int,∀ w99:World,I96 n98 w99→
 ((decide (n98 < (x85.n:Int)))=true→
 IxOk x85 n98∧
 ∃ n100:Int,w99.cell? ((elA x85 n98 1).add 0)=some (.int .i64 n100)∧
 ∃ x101:Sl,(Trip Tryz.prog 173 #[x0_0.val,.int .i64 n100] w99 fun r102 w103=>r102=x101.val∧Sub w99 w103)∧
 IxOk x95 n98∧
 StoreAt w99 (elA x95 n98 1) 0 [x101.val] fun w104=>
 ∃ n105:Int,Wr .i64 (n98+1) n105∧
 eqS (.sl x0_0)∧
 eqS (.sl x0_1)∧
 eqS (.num .i64 n2_0)∧
 eqS (.num .i64 n2_1)∧
 eqS (.sl x2_2)∧
 I96 n105 w104∧
 m97 n105 w104 < m97 n98 w99)∧
 ((decide (n98 < (x85.n:Int)))=false→
 ((0:Int)≤1∧1≤(x2_2.n:Int))∧
 tI 171 #[.agg #[x0_0.val,x0_1.val],x_1.val,(x2_2.cut 1 (x2_2.n:Int) 3).val,x95.val] w99 fun n108 w107=>
 Q (.int .i64 n108) w107)))∧
 (((decide ((x85.n:Int)=0)) || (!decide ((x2_2.n:Int)=n86)))=true→
 Q (.int .i64 (-1)) w84))∧
 ((((decide ((x85.n:Int)=0)) || (!decide ((x2_2.n:Int)=n86)))=false→
 tI 125 #[.agg #[x0_0.val,x0_1.val],x_1.val,.agg #[.int .i64 n87,.int .i64 n88,x89.val]] w84 fun n111 w110=>
 ((!decide (n111=n2_1))=true→
 Q (.int .i64 (-1)) w110)∧
 ((!decide (n111=n2_1))=false→
 StepT Tryz.prog (Instr.makeSlice 189 (.int .i64 (x85.n:Int)) (.int .i64 (x85.n:Int))) w110 fun r112 w113=>
 ∃ x114:Sl,r112=x114.val∧
 ∃ I115:Int→World→Prop,∃ m116:Int→World→Nat,I115 0 w113∧
 ∀ n117:Int,∀ w118:World,I115 n117 w118→
 ((decide (n117 < (x85.n:Int)))=true→
 IxOk x85 n117∧
 ∃ n119:Int,w118.cell? ((elA x85 n117 1).add 0)=some (.int .i64 n119)∧
 ∃ x120:Sl,(Trip Tryz.prog 173 #[x0_0.val,.int .i64 n119] w118 fun r121 w122=>r121=x120.val∧Sub w118 w122)∧
 IxOk x114 n117∧
 StoreAt w118 (elA x114 n117 1) 0 [x120.val] fun w123=>
 ∃ n124:Int,Wr .i64 (n117+1) n124∧
 eqS (.sl x0_0)∧
 eqS (.sl x0_1)∧
 eqS (.num .i64 n2_0)∧
 eqS (.num .i64 n2_1)∧
 eqS (.sl x2_2)∧
 I115 n124 w123∧
 m116 n124 w123 < m116 n117 w118)∧
 ((decide (n117 < (x85.n:Int)))=false→
 ((0:Int)≤1∧1≤(x2_2.n:Int))∧
 tI 171 #[.agg #[x0_0.val,x0_1.val],x_1.val,(x2_2.cut 1 (x2_2.n:Int) 3).val,x114.val] w118 fun n127 w126=>
 Q (.int .i64 n127) w126)))∧
 (((decide ((x85.n:Int)=0)) || (!decide ((x2_2.n:Int)=n86)))=true→
 Q (.int .i64 (-1)) w84))∧
 (((decide ((x85.n:Int)=0)) || (!decide ((x2_2.n:Int)=n86)))=false→
 tI 125 #[.agg #[x0_0.val,x0_1.val],x_1.val,.agg #[.int .i64 n87,.int .i64 n88,x89.val]] w84 fun n130 w129=>
 ((!decide (n130=n2_1))=true→
 Q (.int .i64 (-1)) w129)∧
 ((!decide (n130=n2_1))=false→
 StepT Tryz.prog (Instr.makeSlice 189 (.int .i64 (x85.n:Int)) (.int .i64 (x85.n:Int))) w129 fun r131 w132=>
 ∃ x133:Sl,r131=x133.val∧
 ∃ I134:Int→World→Prop,∃ m135:Int→World→Nat,I134 0 w132∧
 ∀ n136:Int,∀ w137:World,I134 n136 w137→
 ((decide (n136 < (x85.n:Int)))=true→
 IxOk x85 n136∧
 ∃ n138:Int,w137.cell? ((elA x85 n136 1).add 0)=some (.int .i64 n138)∧
 ∃ x139:Sl,(Trip Tryz.prog 173 #[x0_0.val,.int .i64 n138] w137 fun r140 w141=>r140=x139.val∧Sub w137 w141)∧
 IxOk x133 n136∧
 StoreAt w137 (elA x133 n136 1) 0 [x139.val] fun w142=>
 ∃ n143:Int,Wr .i64 (n136+1) n143∧
 eqS (.sl x0_0)∧
 eqS (.sl x0_1)∧
 eqS (.num .i64 n2_0)∧
 eqS (.num .i64 n2_1)∧
 eqS (.sl x2_2)∧
 I134 n143 w142∧
 m135 n143 w142 < m135 n136 w137)∧
 ((decide (n136 < (x85.n:Int)))=false→
 ((0:Int)≤1∧1≤(x2_2.n:Int))∧
 tI 171 #[.agg #[x0_0.val,x0_1.val],x_1.val,(x2_2.cut 1 (x2_2.n:Int) 3).val,x133.val] w137 fun n146 w145=>
 Q (.int .i64 n146) w145)))∧
 (((decide ((x85.n:Int)=0)) || (!decide ((x2_2.n:Int)=n86)))=true→
 Q (.int .i64 (-1)) w84))∧
 ((decide (n2_0=8))=false→
 StepT Tryz.prog (Instr.makeSlice 68 (.int .i64 (x2_2.n:Int)) (.int .i64 (x2_2.n:Int))) v fun r147 w148=>
 ∃ x149:Sl,r147=x149.val∧
 ∃ I150:Int→World→Prop,∃ m151:Int→World→Nat,I150 0 w148∧
 ∀ n152:Int,∀ w153:World,I150 n152 w153→
 ((decide (n152 < (x2_2.n:Int)))=true→
 IxOk x2_2 n152∧
 ldT w153 x2_2 n152 fun n154 n155 x156=>
 tI 125 #[.agg #[x0_0.val,x0_1.val],x_1.val,.agg #[.int .i64 n154,.int .i64 n155,x156.val]] w153 fun n159 w158=>
 IxOk x149 n152∧
 StoreAt w158 (elA x149 n152 1) 0 [.int .i64 n159] fun w160=>
 IxOk x149 n152∧
 ∃ n161:Int,w160.cell? ((elA x149 n152 1).add 0)=some (.int .i64 n161)∧
 ((decide (n161 < 0))=true→
 Q (.int .i64 (-1)) w160)∧
 ((decide (n161 < 0))=false→
 ∃ n162:Int,Wr .i64 (n152+1) n162∧
 eqS (.sl x0_0)∧
 eqS (.sl x0_1)∧
 eqS (.num .i64 n2_0)∧
 eqS (.num .i64 n2_1)∧
 eqS (.sl x2_2)∧
 I150 n162 w160∧
 m151 n162 w160 < m151 n152 w153))∧
 ((decide (n152 < (x2_2.n:Int)))=false→
 ∃ n163:Int,∃ q164:Bool,(Trip Tryz.prog 174 #[.agg #[x0_0.val,x0_1.val],.int .i64 n2_0,.int .i64 n2_1,x149.val] w153 fun r165 w166=>r165=.tuple #[.int .i64 n163,.bool q164]∧Sub w153 w166)∧
 ((!q164)=true→
 Q (.int .i64 (-1)) w153)∧
 ((!q164)=false→
 Q (.int .i64 n163) w153))))))
theorem of125 (x0_0:Sl) (x0_1:Sl) (x_1:Sl) (n2_0:Int) (n2_1:Int) (x2_2:Sl) (v:World) (Q:QT) (h:vc125 x0_0 x0_1 x_1 n2_0 n2_1 x2_2 v Q):Trip Tryz.prog 125 #[.agg #[x0_0.val,x0_1.val],x_1.val,.agg #[.int .i64 n2_0,.int .i64 n2_1,x2_2.val]] v Q:=
 trip_of_eq (args:=[.ag [.sl x0_0,.sl x0_1],.sl x_1,.ag [.num .i64 n2_0,.num .i64 n2_1,.sl x2_2]]) (A:=⟨[(23,[(136,.int .i64)],[]),(30,[(163,.int .i64)],[])],[],[(9,[]),(12,[]),(14,[]),(16,[5]),(19,[]),(27,[])],[],psG⟩) Tryz.func125 (by kernel_rfl) (by kernel_rfl) (by kernel_rfl:vc125 x0_0 x0_1 x_1 n2_0 n2_1 x2_2 v Q=_) h
def vc126 (x_0:Sl) (v:World) (Q:QT):Prop:=
 ∃ q1:Bool,PureT Tryz.prog (do eqGuard .eql 68 (.tmp 3) (.const (.slice none 0 0)) (x_0.val) (.slice none 0 0);binOp .eql 68 (x_0.val) (.slice none 0 0)) v (.bool q1)∧
 (q1=true→
 Q (.slice none 0 0) v)∧
 (q1=false→
 bS 68 0 #[] v fun x4 w3=>
 StepT Tryz.prog (Builtin.append_ #[68,68] 68 #[(x4.val),(x_0.val)]) w3 fun r5 w6=>
 ∃ x7:Sl,r5=x7.val∧
 Q (x7.val) w6)
theorem of126 (x_0:Sl) (v:World) (Q:QT) (h:vc126 x_0 v Q):Trip Tryz.prog 126 #[x_0.val] v Q:=
 trip_of_eq (args:=[.sl x_0]) (A:=aG) Tryz.func126 (by kernel_rfl) (by kernel_rfl) (by kernel_rfl:vc126 x_0 v Q=_) h
def vc130 (x_0:Sl) (v:World) (Q:QT):Prop:=
 ((decide ((x_0.n:Int) > 4))=true→
 Q (.bool false) v)∧
 ((decide ((x_0.n:Int) > 4))=false→
 ∃ I1:Int→World→Prop,∃ m2:Int→World→Nat,I1 0 v∧
 ∀ n3:Int,∀ w4:World,I1 n3 w4→
 ((decide (n3 < (x_0.n:Int)))=true→
 ∃ q5:Bool,(Trip Tryz.prog 177 #[x_0.val,.int .i64 n3] w4 fun r6 w7=>r6=.bool q5∧Sub w4 w7)∧
 ((!q5)=true→
 Q (.bool false) w4)∧
 ((!q5)=false→
 ∃ n8:Int,Wr .i64 (n3+1) n8∧
 I1 n8 w4∧
 m2 n8 w4 < m2 n3 w4))∧
 ((decide (n3 < (x_0.n:Int)))=false→
 Q (.bool true) w4))
theorem of130 (x_0:Sl) (v:World) (Q:QT) (h:vc130 x_0 v Q):Trip Tryz.prog 130 #[x_0.val] v Q:=
 trip_of_eq (args:=[.sl x_0]) (A:=⟨[(4,[(3,.int .i64)],[])],[],[],[],psG⟩) Tryz.func130 (by kernel_rfl) (by kernel_rfl) (by kernel_rfl:vc130 x_0 v Q=_) h
def vc131 (x_0:Sl) (x_1:Sl) (v:World) (Q:QT):Prop:=
 ∃ I1:Int→World→Prop,∃ m2:Int→World→Nat,I1 0 v∧
 ∀ n3:Int,∀ w4:World,I1 n3 w4→
 ((decide (n3 < (x_1.n:Int)))=true→
 IxOk x_1 n3∧
 ∃ n5:Int,w4.cell? ((elA x_1 n3 1).add 0)=some (.int .i64 n5)∧
 ∃ q6:Bool,(Trip Tryz.prog 107 #[.int .i64 n5,.int .i64 0,.int .i64 (x_0.n:Int)] w4 fun r7 w8=>r7=.bool q6∧Sub w4 w8)∧
 ((!q6)=true→
 Q (.bool false) w4)∧
 ((!q6)=false→
 ∃ n9:Int,Wr .i64 (n3+1) n9∧
 I1 n9 w4∧
 m2 n9 w4 < m2 n3 w4))∧
 ((decide (n3 < (x_1.n:Int)))=false→
 Q (.bool true) w4)
theorem of131 (x_0:Sl) (x_1:Sl) (v:World) (Q:QT) (h:vc131 x_0 x_1 v Q):Trip Tryz.prog 131 #[x_0.val,x_1.val] v Q:=
 trip_of_eq (args:=[.sl x_0,.sl x_1]) (A:=⟨[(2,[(5,.int .i64)],[])],[],[],[],psG⟩) Tryz.func131 (by kernel_rfl) (by kernel_rfl) (by kernel_rfl:vc131 x_0 x_1 v Q=_) h
def vc132 (x0_0:Sl) (x0_1:Sl) (x_1:Sl) (x_2:Sl) (n_3:Int) (v:World) (Q:QT):Prop:=
 ((!decide ((x_2.n:Int)=n_3))=true→
 Q (.bool false) v)∧
 ((!decide ((x_2.n:Int)=n_3))=false→
 ∃ I1:Int→World→Prop,∃ m2:Int→World→Nat,I1 0 v∧
 ∀ n3:Int,∀ w4:World,I1 n3 w4→
 ((decide (n3 < n_3))=true→
 IxOk x_2 n3∧
 ldT w4 x_2 n3 fun n5 n6 x7=>
 ∃ n8:Int,(Trip Tryz.prog 74 #[.agg #[x0_0.val,x0_1.val],x_1.val,.agg #[.int .i64 n5,.int .i64 n6,x7.val]] w4 fun r9 w10=>r9=.int .i64 n8∧Sub w4 w10)∧
 ((!decide (n8=0))=true→
 Q (.bool false) w4)∧
 ((!decide (n8=0))=false→
 ∃ n11:Int,Wr .i64 (n3+1) n11∧
 eqS (.sl x0_0)∧
 eqS (.sl x0_1)∧
 I1 n11 w4∧
 m2 n11 w4 < m2 n3 w4))∧
 ((decide (n3 < n_3))=false→
 Q (.bool true) w4))
theorem of132 (x0_0:Sl) (x0_1:Sl) (x_1:Sl) (x_2:Sl) (n_3:Int) (v:World) (Q:QT) (h:vc132 x0_0 x0_1 x_1 x_2 n_3 v Q):Trip Tryz.prog 132 #[.agg #[x0_0.val,x0_1.val],x_1.val,x_2.val,.int .i64 n_3] v Q:=
 trip_of_eq (args:=[.ag [.sl x0_0,.sl x0_1],.sl x_1,.sl x_2,.num .i64 n_3]) (A:=⟨[(4,[(9,.int .i64)],[])],[],[],[],psG⟩) Tryz.func132 (by kernel_rfl) (by kernel_rfl) (by kernel_rfl:vc132 x0_0 x0_1 x_1 x_2 n_3 v Q=_) h
def vc133 (x_0:Sl) (n_1:Int) (v:World) (Q:QT):Prop:=
 ∃ I1:Int→World→Prop,∃ m2:Int→World→Nat,I1 0 v∧
 ∀ n3:Int,∀ w4:World,I1 n3 w4→
 ((decide (n3 < (x_0.n:Int)))=true→
 ∃ n5:Int,(Trip Tryz.prog 178 #[x_0.val,.int .i64 n3] w4 fun r6 w7=>r6=.int .i64 n5∧Sub w4 w7)∧
 IxOk x_0 n3∧
 ∃ x8:Sl,w4.cell? ((elA x_0 n3 3).add 2)=some (x8.val)∧
 ∃ n9:Int,Wr .i64 (n5+(x8.n:Int)) n9∧
 ∃ n10:Int,Wr .i64 (n9 - 1) n10∧
 ∃ q11:Bool,(Trip Tryz.prog 107 #[.int .i64 n_1,.int .i64 n5,.int .i64 n10] w4 fun r12 w13=>r12=.bool q11∧Sub w4 w13)∧
 (q11=true→
 ∃ n14:Int,Wr .i64 (n3+1) n14∧
 Q (.int .i64 n14) w4)∧
 (q11=false→
 ∃ n15:Int,Wr .i64 (n3+1) n15∧
 I1 n15 w4∧
 m2 n15 w4 < m2 n3 w4))∧
 ((decide (n3 < (x_0.n:Int)))=false→
 Q (.int .i64 (-1)) w4)
theorem of133 (x_0:Sl) (n_1:Int) (v:World) (Q:QT) (h:vc133 x_0 n_1 v Q):Trip Tryz.prog 133 #[x_0.val,.int .i64 n_1] v Q:=
 trip_of_eq (args:=[.sl x_0,.num .i64 n_1]) (A:=⟨[(2,[(5,.int .i64)],[])],[],[],[],psG⟩) Tryz.func133 (by kernel_rfl) (by kernel_rfl) (by kernel_rfl:vc133 x_0 n_1 v Q=_) h
def vc134 (x0_0:Sl) (x0_1:Sl) (x_1:Sl) (x_2:Sl) (x_3:Sl) (v:World) (Q:QT):Prop:=
 ((!decide ((x_2.n:Int)=(x_3.n:Int)))=true→
 Q (.bool false) v)∧
 ((!decide ((x_2.n:Int)=(x_3.n:Int)))=false→
 ∃ I1:Int→World→Prop,∃ m2:Int→World→Nat,I1 0 v∧
 ∀ n3:Int,∀ w4:World,I1 n3 w4→
 ((decide (n3 < (x_3.n:Int)))=true→
 IxOk x_2 n3∧
 ldT w4 x_2 n3 fun n5 n6 x7=>
 ∃ n8:Int,(Trip Tryz.prog 74 #[.agg #[x0_0.val,x0_1.val],x_1.val,.agg #[.int .i64 n5,.int .i64 n6,x7.val]] w4 fun r9 w10=>r9=.int .i64 n8∧Sub w4 w10)∧
 IxOk x_3 n3∧
 ∃ n11:Int,w4.cell? ((elA x_3 n3 1).add 0)=some (.int .i64 n11)∧
 ((!decide (n8=n11))=true→
 Q (.bool false) w4)∧
 ((!decide (n8=n11))=false→
 ∃ n12:Int,Wr .i64 (n3+1) n12∧
 eqS (.sl x0_0)∧
 eqS (.sl x0_1)∧
 I1 n12 w4∧
 m2 n12 w4 < m2 n3 w4))∧
 ((decide (n3 < (x_3.n:Int)))=false→
 Q (.bool true) w4))
theorem of134 (x0_0:Sl) (x0_1:Sl) (x_1:Sl) (x_2:Sl) (x_3:Sl) (v:World) (Q:QT) (h:vc134 x0_0 x0_1 x_1 x_2 x_3 v Q):Trip Tryz.prog 134 #[.agg #[x0_0.val,x0_1.val],x_1.val,x_2.val,x_3.val] v Q:=
 trip_of_eq (args:=[.ag [.sl x0_0,.sl x0_1],.sl x_1,.sl x_2,.sl x_3]) (A:=⟨[(4,[(9,.int .i64)],[])],[],[],[],psG⟩) Tryz.func134 (by kernel_rfl) (by kernel_rfl) (by kernel_rfl:vc134 x0_0 x0_1 x_1 x_2 x_3 v Q=_) h
def vc135 (x_0:Sl) (n_1:Int) (v:World) (Q:QT):Prop:=
 ∃ n1:Int,(Trip Tryz.prog 133 #[x_0.val,.int .i64 n_1] v fun r2 w3=>r2=.int .i64 n1∧Sub v w3)∧
 ((decide (n1 < 1))=true→
 bS 68 0 #[] v fun x6 w5=>
 Q (x6.val) w5)∧
 ((decide (n1 < 1))=false→
 ∃ n7:Int,Wr .i64 (n1 - 1) n7∧
 IxOk x_0 n7∧
 ∃ x8:Sl,v.cell? ((elA x_0 n7 3).add 2)=some (x8.val)∧
 ∃ n9:Int,Wr .i64 (n1 - 1) n9∧
 ∃ n10:Int,(Trip Tryz.prog 178 #[x_0.val,.int .i64 n9] v fun r11 w12=>r11=.int .i64 n10∧Sub v w12)∧
 ∃ n13:Int,Wr .i64 (n_1 - n10) n13∧
 IxOk x8 n13∧
 ∃ x14:Sl,v.cell? ((elA x8 n13 1).add 0)=some (x14.val)∧
 Q (x14.val) v)
theorem of135 (x_0:Sl) (n_1:Int) (v:World) (Q:QT) (h:vc135 x_0 n_1 v Q):Trip Tryz.prog 135 #[x_0.val,.int .i64 n_1] v Q:=
 trip_of_eq (args:=[.sl x_0,.num .i64 n_1]) (A:=aG) Tryz.func135 (by kernel_rfl) (by kernel_rfl) (by kernel_rfl:vc135 x_0 n_1 v Q=_) h
def vc136 (x_0:Sl) (x_1:Sl) (v:World) (Q:QT):Prop:=
 tS 179 #[x_0.val] v fun x3 w2=>
 StepT Tryz.prog (Builtin.append_ #[68,68] 68 #[(x3.val),(x_1.val)]) w2 fun r4 w5=>
 ∃ x6:Sl,r4=x6.val∧
 Q (x6.val) w5
theorem of136 (x_0:Sl) (x_1:Sl) (v:World) (Q:QT) (h:vc136 x_0 x_1 v Q):Trip Tryz.prog 136 #[x_0.val,x_1.val] v Q:=
 trip_of_eq (args:=[.sl x_0,.sl x_1]) (A:=aG) Tryz.func136 (by kernel_rfl) (by kernel_rfl) (by kernel_rfl:vc136 x_0 x_1 v Q=_) h
def vc137 (x0_0:Sl) (x0_1:Sl) (x_1:Sl) (n2_0:Int) (n2_1:Int) (x2_2:Sl) (v:World) (Q:QT):Prop:=
 tS 180 #[x0_0.val,.int .i64 n2_1] v fun x3 w2=>
 ∃ n4:Int,((decide ((x3.n:Int)=0))=false→
 Wr .i64 (1+(x3.n:Int)) n4)∧
 (((decide ((x3.n:Int)=0)) || (!decide ((x2_2.n:Int)=n4)))=false→
 IxOk x2_2 0)∧
 ∃ n5:Int,∃ n6:Int,∃ x7:Sl,(((decide ((x3.n:Int)=0)) || (!decide ((x2_2.n:Int)=n4)))=false→
 w2.cell? ((elA x2_2 0 3).add 0)=some (.int .i64 n5)∧
 w2.cell? ((elA x2_2 0 3).add 1)=some (.int .i64 n6)∧
 w2.cell? ((elA x2_2 0 3).add 2)=some (x7.val))∧
 ∃ n8:Int,(((decide ((x3.n:Int)=0)) || (!decide ((x2_2.n:Int)=n4)))=false→
 (Trip Tryz.prog 74 #[.agg #[x0_0.val,x0_1.val],x_1.val,.agg #[.int .i64 n5,.int .i64 n6,x7.val]] w2 fun r9 w10=>r9=.int .i64 n8∧Sub w2 w10))∧
 ((((decide ((x3.n:Int)=0)) || (!decide ((x2_2.n:Int)=n4))) || (!decide (n8=n2_1)))=true→
 Q (.int .i64 (-1)) w2)∧
 ((((decide ((x3.n:Int)=0)) || (!decide ((x2_2.n:Int)=n4))) || (!decide (n8=n2_1)))=false→
 IxOk x3 0∧
 ∃ n11:Int,w2.cell? ((elA x3 0 1).add 0)=some (.int .i64 n11)∧
 IxOk x2_2 1∧
 ldT w2 x2_2 1 fun n12 n13 x14=>
 tS 135 #[x0_0.val,.int .i64 n11] w2 fun x17 w16=>
 Sub w2 w16∧
 tS 136 #[x_1.val,x17.val] w16 fun x20 w19=>
 Sub w16 w19∧
 ∃ n21:Int,(Trip Tryz.prog 74 #[.agg #[x0_0.val,x0_1.val],x20.val,.agg #[.int .i64 n12,.int .i64 n13,x14.val]] w19 fun r22 w23=>r22=.int .i64 n21∧Sub w19 w23)∧
 ∃ I24:Int→World→Prop,∃ m25:Int→World→Nat,I24 1 w19∧
 ∀ n26:Int,∀ w27:World,I24 n26 w27→
 ((decide (n26 < (x3.n:Int)))=true→
 IxOk x3 n26∧
 ∃ n28:Int,w27.cell? ((elA x3 n26 1).add 0)=some (.int .i64 n28)∧
 ∃ n29:Int,Wr .i64 (1+n26) n29∧
 IxOk x2_2 n29∧
 ldT w27 x2_2 n29 fun n30 n31 x32=>
 tS 135 #[x0_0.val,.int .i64 n28] w27 fun x35 w34=>
 Sub w27 w34∧
 tS 136 #[x_1.val,x35.val] w34 fun x38 w37=>
 Sub w34 w37∧
 ∃ n39:Int,(Trip Tryz.prog 74 #[.agg #[x0_0.val,x0_1.val],x38.val,.agg #[.int .i64 n30,.int .i64 n31,x32.val]] w37 fun r40 w41=>r40=.int .i64 n39∧Sub w37 w41)∧
 ((!decide (n39=n21))=true→
 Q (.int .i64 (-1)) w37)∧
 ((!decide (n39=n21))=false→
 ∃ n42:Int,Wr .i64 (n26+1) n42∧
 eqS (.sl x0_0)∧
 eqS (.sl x0_1)∧
 eqS (.num .i64 n2_0)∧
 eqS (.num .i64 n2_1)∧
 eqS (.sl x2_2)∧
 I24 n42 w37∧
 m25 n42 w37 < m25 n26 w27))∧
 ((decide (n26 < (x3.n:Int)))=false→
 Q (.int .i64 n21) w27))
theorem of137 (x0_0:Sl) (x0_1:Sl) (x_1:Sl) (n2_0:Int) (n2_1:Int) (x2_2:Sl) (v:World) (Q:QT) (h:vc137 x0_0 x0_1 x_1 n2_0 n2_1 x2_2 v Q):Trip Tryz.prog 137 #[.agg #[x0_0.val,x0_1.val],x_1.val,.agg #[.int .i64 n2_0,.int .i64 n2_1,x2_2.val]] v Q:=
 trip_of_eq (args:=[.ag [.sl x0_0,.sl x0_1],.sl x_1,.ag [.num .i64 n2_0,.num .i64 n2_1,.sl x2_2]]) (A:=⟨[(6,[(9,.int .i64)],[])],[],[(4,[7,8]),(8,[8,9])],[],psG⟩) Tryz.func137 (by kernel_rfl) (by kernel_rfl) (by kernel_rfl:vc137 x0_0 x0_1 x_1 n2_0 n2_1 x2_2 v Q=_) h
def vc138 (x0_0:Sl) (x0_1:Sl) (x_1:Sl) (n2_0:Int) (n2_1:Int) (x2_2:Sl) (v:World) (Q:QT):Prop:=
 ∃ n1:Int,Wr .i64 ((x0_1.n:Int) - 1) n1∧
 ∃ q2:Bool,(Trip Tryz.prog 107 #[.int .i64 n2_1,.int .i64 0,.int .i64 n1] v fun r3 w4=>r3=.bool q2∧Sub v w4)∧
 ((!q2)=true→
 Q (.int .i64 (-1)) v)∧
 ((!q2)=false→
 IxOk x0_1 n2_1∧
 ldF v x0_1 n2_1 fun x5 n6 n7 n8 x9=>
 ((decide (n2_0=9))=true→
 ∃ q10:Bool,(Trip Tryz.prog 134 #[.agg #[x0_0.val,x0_1.val],x_1.val,x2_2.val,x5.val] v fun r11 w12=>r11=.bool q10∧Sub v w12)∧
 ((!q10)=true→
 Q (.int .i64 (-1)) v)∧
 ((!q10)=false→
 Q (.int .i64 n6) v))∧
 ((decide (n2_0=9))=false→
 ∃ n13:Int,((decide ((x5.n:Int)=0))=false→
 Wr .i64 ((x5.n:Int) - 1) n13)∧
 ((decide ((x5.n:Int)=0))=false→
 CutOk x5 0 n13)∧
 ∃ q14:Bool,((decide ((x5.n:Int)=0))=false→
 (Trip Tryz.prog 134 #[.agg #[x0_0.val,x0_1.val],x_1.val,x2_2.val,(x5.cut 0 n13 1).val] v fun r15 w16=>r15=.bool q14∧Sub v w16))∧
 (((decide ((x5.n:Int)=0)) || (!q14))=true→
 Q (.int .i64 (-1)) v)∧
 (((decide ((x5.n:Int)=0)) || (!q14))=false→
 ∃ n17:Int,Wr .i64 ((x5.n:Int) - 1) n17∧
 IxOk x5 n17∧
 ∃ n18:Int,v.cell? ((elA x5 n17 1).add 0)=some (.int .i64 n18)∧
 ∃ n19:Int,(Trip Tryz.prog 181 #[x0_0.val,.int .i64 n18,.int .i64 n6] v fun r20 w21=>r20=.int .i64 n19∧Sub v w21)∧
 Q (.int .i64 n19) v)))
theorem of138 (x0_0:Sl) (x0_1:Sl) (x_1:Sl) (n2_0:Int) (n2_1:Int) (x2_2:Sl) (v:World) (Q:QT) (h:vc138 x0_0 x0_1 x_1 n2_0 n2_1 x2_2 v Q):Trip Tryz.prog 138 #[.agg #[x0_0.val,x0_1.val],x_1.val,.agg #[.int .i64 n2_0,.int .i64 n2_1,x2_2.val]] v Q:=
 trip_of_eq (args:=[.ag [.sl x0_0,.sl x0_1],.sl x_1,.ag [.num .i64 n2_0,.num .i64 n2_1,.sl x2_2]]) (A:=aG) Tryz.func138 (by kernel_rfl) (by kernel_rfl) (by kernel_rfl:vc138 x0_0 x0_1 x_1 n2_0 n2_1 x2_2 v Q=_) h
def vc139 (x_0:Sl) (n_1:Int) (v:World) (Q:QT):Prop:=
 ∃ q1:Bool,(Trip Tryz.prog 107 #[.int .i64 n_1,.int .i64 1,.int .i64 (x_0.n:Int)] v fun r2 w3=>r2=.bool q1∧Sub v w3)∧
 ∃ n4:Int,(q1=true→
 Wr .i64 (n_1 - 1) n4)∧
 (q1=true→
 IxOk x_0 n4)∧
 ∃ x5:Sl,(q1=true→
 v.cell? ((elA x_0 n4 3).add 2)=some (x5.val))∧
 Q (.bool (q1 && (decide ((x5.n:Int)=0)))) v
theorem of139 (x_0:Sl) (n_1:Int) (v:World) (Q:QT) (h:vc139 x_0 n_1 v Q):Trip Tryz.prog 139 #[x_0.val,.int .i64 n_1] v Q:=
 trip_of_eq (args:=[.sl x_0,.num .i64 n_1]) (A:=aG) Tryz.func139 (by kernel_rfl) (by kernel_rfl) (by kernel_rfl:vc139 x_0 n_1 v Q=_) h
def vc155 (x_0:Sl) (v:World) (Q:QT):Prop:=
 bS 40 0 #[] v fun x3 w2=>
 ∃ I4:Sl→Int→World→Prop,∃ m5:Sl→Int→World→Nat,I4 x3 0 w2∧
 ∀ x6:Sl,∀ n7:Int,∀ w8:World,I4 x6 n7 w8→
 ((decide (n7 < (x_0.n:Int)))=true→
 IxOk x_0 n7∧
 ldT w8 x_0 n7 fun n9 n10 x11=>
 tE 200 #[.agg #[.int .i64 n9,.int .i64 n10,x11.val]] w8 fun n14 n15 x16 w13=>
 bS 40 1 #[(0,(.agg #[.int .i64 n14,.int .i64 n15,x16.val]))] w13 fun x19 w18=>
 StepT Tryz.prog (Builtin.append_ #[40,40] 40 #[(x6.val),(x19.val)]) w18 fun r20 w21=>
 ∃ x22:Sl,r20=x22.val∧
 ∃ n23:Int,Wr .i64 (n7+1) n23∧
 I4 x22 n23 w21∧
 m5 x22 n23 w21 < m5 x6 n7 w8)∧
 ((decide (n7 < (x_0.n:Int)))=false→
 Q (x6.val) w8)
theorem of155 (x_0:Sl) (v:World) (Q:QT) (h:vc155 x_0 v Q):Trip Tryz.prog 155 #[x_0.val] v Q:=
 trip_of_eq (args:=[.sl x_0]) (A:=⟨[(3,[(3,.sl),(4,.int .i64)],[])],[],[],[],psG⟩) Tryz.func155 (by kernel_rfl) (by kernel_rfl) (by kernel_rfl:vc155 x_0 v Q=_) h
def vc156 (n_0:Int) (v:World) (Q:QT):Prop:=
 bS 40 0 #[] v fun x3 w2=>
 Q (.agg #[.int .i64 0,.int .i64 n_0,x3.val]) w2
theorem of156 (n_0:Int) (v:World) (Q:QT) (h:vc156 n_0 v Q):Trip Tryz.prog 156 #[.int .i64 n_0] v Q:=
 trip_of_eq (args:=[.num .i64 n_0]) (A:=aG) Tryz.func156 (by kernel_rfl) (by kernel_rfl) (by kernel_rfl:vc156 n_0 v Q=_) h
def vc157 (n_0:Int) (v:World) (Q:QT):Prop:=
 bS 40 0 #[] v fun x3 w2=>
 Q (.agg #[.int .i64 12,.int .i64 n_0,x3.val]) w2
theorem of157 (n_0:Int) (v:World) (Q:QT) (h:vc157 n_0 v Q):Trip Tryz.prog 157 #[.int .i64 n_0] v Q:=
 trip_of_eq (args:=[.num .i64 n_0]) (A:=aG) Tryz.func157 (by kernel_rfl) (by kernel_rfl) (by kernel_rfl:vc157 n_0 v Q=_) h
def vc161 (a_0:Addr) (v:World) (Q:QT):Prop:=
 tS 118 #[.pointer (some (a_0.add 0))] v fun x3 w2=>
 tI 61 #[.pointer (some (a_0.add 0)),.int .i64 (x3.n:Int)] w2 fun n6 w5=>
 tI 61 #[.pointer (some (a_0.add 0)),.int .i64 14] w5 fun n9 w8=>
 ((decide (n9=0))=true→
 bS 68 4 #[(0,(.int .i64 (-1))),(1,(.int .i64 5)),(2,(.int .i64 0)),(3,(.int .i64 2))] w8 fun x12 w11=>
 tI 120 #[.pointer (some (a_0.add 0)),x12.val] w11 fun n15 w14=>
 bS 68 3 #[(0,(.int .i64 0)),(1,(.int .i64 1)),(2,(.int .i64 5))] w14 fun x18 w17=>
 tI 120 #[.pointer (some (a_0.add 0)),x18.val] w17 fun n21 w20=>
 IxOk x3 n6∧
 StoreAt w20 (elA x3 n6 3) 0 [.int .i64 n15,.int .i64 n21,.slice none 0 0] fun w22=>
 Q (x3.val) w22)∧
 ((decide (n9=0))=false→
 ((decide (n9=1))=true→
 bS 68 4 #[(0,(.int .i64 (-1))),(1,(.int .i64 0)),(2,(.int .i64 4)),(3,(.int .i64 5))] w8 fun x25 w24=>
 tI 120 #[.pointer (some (a_0.add 0)),x25.val] w24 fun n28 w27=>
 bS 68 1 #[(0,(.int .i64 n28))] w27 fun x31 w30=>
 Trip Tryz.prog 162 #[x31.val] w30 fun r32 w33=>
 ∃ x34:Sl,r32=.agg #[x34.val]∧
 bS 68 4 #[(0,(.int .i64 0)),(1,(.int .i64 0)),(2,(.int .i64 0)),(3,(.int .i64 0))] w33 fun x37 w36=>
 Trip Tryz.prog 162 #[x37.val] w36 fun r38 w39=>
 ∃ x40:Sl,r38=.agg #[x40.val]∧
 bS 68 0 #[] w39 fun x43 w42=>
 Trip Tryz.prog 162 #[x43.val] w42 fun r44 w45=>
 ∃ x46:Sl,r44=.agg #[x46.val]∧
 bS 60 3 #[(0,(.agg #[x34.val])),(1,(.agg #[x40.val])),(2,(.agg #[x46.val]))] w45 fun x49 w48=>
 IxOk x3 n6∧
 StoreAt w48 (elA x3 n6 3) 0 [.int .i64 0,.int .i64 0,x49.val] fun w50=>
 Q (x3.val) w50)∧
 ((decide (n9=1))=false→
 ((decide (n9=2))=true→
 ∃ n51:Int,Wr .i64 (n6+1) n51∧
 bS 68 1 #[(0,(.int .i64 n51))] w8 fun x54 w53=>
 Trip Tryz.prog 162 #[x54.val] w53 fun r55 w56=>
 ∃ x57:Sl,r55=.agg #[x57.val]∧
 bS 60 1 #[(0,(.agg #[x57.val]))] w56 fun x60 w59=>
 IxOk x3 n6∧
 StoreAt w59 (elA x3 n6 3) 0 [.int .i64 0,.int .i64 0,x60.val] fun w61=>
 Q (x3.val) w61)∧
 ((decide (n9=2))=false→
 ((decide (n9=3))=true→
 bS 68 3 #[(0,(.int .i64 0)),(1,(.int .i64 2)),(2,(.int .i64 1))] w8 fun x64 w63=>
 tI 120 #[.pointer (some (a_0.add 0)),x64.val] w63 fun n67 w66=>
 bS 28 1 #[(0,(.agg #[.int .i64 2,.int .i64 n67,.slice none 0 0]))] w66 fun x70 w69=>
 StepT Tryz.prog (Builtin.append_ #[28,28] 28 #[(x3.val),(x70.val)]) w69 fun r71 w72=>
 ∃ x73:Sl,r71=x73.val∧
 Q (x73.val) w72)∧
 ((decide (n9=3))=false→
 ((decide (n9=4))=true→
 tI 61 #[.pointer (some (a_0.add 0)),.int .i64 2] w8 fun n76 w75=>
 bS 68 0 #[] w75 fun x79 w78=>
 Trip Tryz.prog 162 #[x79.val] w78 fun r80 w81=>
 ∃ x82:Sl,r80=.agg #[x82.val]∧
 bS 68 1 #[(0,(.int .i64 2))] w81 fun x85 w84=>
 Trip Tryz.prog 162 #[x85.val] w84 fun r86 w87=>
 ∃ x88:Sl,r86=.agg #[x88.val]∧
 bS 68 0 #[] w87 fun x91 w90=>
 Trip Tryz.prog 162 #[x91.val] w90 fun r92 w93=>
 ∃ x94:Sl,r92=.agg #[x94.val]∧
 bS 68 0 #[] w93 fun x97 w96=>
 Trip Tryz.prog 162 #[x97.val] w96 fun r98 w99=>
 ∃ x100:Sl,r98=.agg #[x100.val]∧
 bS 60 4 #[(0,(.agg #[x82.val])),(1,(.agg #[x88.val])),(2,(.agg #[x94.val])),(3,(.agg #[x100.val]))] w99 fun x103 w102=>
 tI 61 #[.pointer (some (a_0.add 0)),.int .i64 3] w102 fun n106 w105=>
 ((0:Int)≤n106∧n106≤(x103.n:Int))∧
 IxOk x3 n6∧
 StoreAt w105 (elA x3 n6 3) 0 [.int .i64 n76,.int .i64 0,(x103.cut n106 (x103.n:Int) 1).val] fun w107=>
 Q (x3.val) w107)∧
 ((decide (n9=4))=false→
 ((decide (n9=5))=true→
 bS 28 2 #[(0,(.agg #[.int .i64 0,.int .i64 0,.slice none 0 0])),(1,(.agg #[.int .i64 3,.int .i64 0,.slice none 0 0]))] w8 fun x110 w109=>
 StepT Tryz.prog (Builtin.append_ #[28,28] 28 #[(x3.val),(x110.val)]) w109 fun r111 w112=>
 ∃ x113:Sl,r111=x113.val∧
 Q (x113.val) w112)∧
 ((decide (n9=5))=false→
 Q (x3.val) w8))))))
theorem of161 (a_0:Addr) (v:World) (Q:QT) (h:vc161 a_0 v Q):Trip Tryz.prog 161 #[.pointer (some (a_0.add 0))] v Q:=
 trip_of_eq (args:=[.pt a_0 0]) (A:=aG) Tryz.func161 (by kernel_rfl) (by kernel_rfl) (by kernel_rfl:vc161 a_0 v Q=_) h
def vc162 (x_0:Sl) (v:World) (Q:QT):Prop:=
 Q (.agg #[x_0.val]) v
theorem of162 (x_0:Sl) (v:World) (Q:QT) (h:vc162 x_0 v Q):Trip Tryz.prog 162 #[x_0.val] v Q:=
 trip_of_eq (args:=[.sl x_0]) (A:=aG) Tryz.func162 (by kernel_rfl) (by kernel_rfl) (by kernel_rfl:vc162 x_0 v Q=_) h
def vc163 (x_0:Sl) (n_1:Int) (v:World) (Q:QT):Prop:=
 ∃ I1:Int→World→Prop,∃ m2:Int→World→Nat,I1 0 v∧
 ∀ n3:Int,∀ w4:World,I1 n3 w4→
 ((decide (n3 < (x_0.n:Int)))=true→
 IxOk x_0 n3∧
 ∃ n5:Int,w4.cell? ((elA x_0 n3 1).add 0)=some (.int .i64 n5)∧
 ((decide (n5=n_1))=true→
 Q (.int .i64 n3) w4)∧
 ((decide (n5=n_1))=false→
 ∃ n6:Int,Wr .i64 (n3+1) n6∧
 I1 n6 w4∧
 m2 n6 w4 < m2 n3 w4))∧
 ((decide (n3 < (x_0.n:Int)))=false→
 Q (.int .i64 (-1)) w4)
theorem of163 (x_0:Sl) (n_1:Int) (v:World) (Q:QT) (h:vc163 x_0 n_1 v Q):Trip Tryz.prog 163 #[x_0.val,.int .i64 n_1] v Q:=
 trip_of_eq (args:=[.sl x_0,.num .i64 n_1]) (A:=⟨[(2,[(5,.int .i64)],[])],[],[],[],psG⟩) Tryz.func163 (by kernel_rfl) (by kernel_rfl) (by kernel_rfl:vc163 x_0 n_1 v Q=_) h
def vc164 (a_0:Addr) (x1_0:Sl) (x1_1:Sl) (v:World) (Q:QT):Prop:=
 bS 68 3 #[(0,(.int .i64 1)),(1,(.int .i64 1)),(2,(.int .i64 3))] v fun x3 w2=>
 tI 120 #[.pointer (some (a_0.add 0)),x3.val] w2 fun n6 w5=>
 bS 68 1 #[(0,(.int .i64 n6))] w5 fun x9 w8=>
 tE 209 #[.pointer (some (a_0.add 0)),.agg #[x1_0.val,x1_1.val],x9.val,.int .i64 0,.int .i64 16] w8 fun n12 n13 x14 w11=>
 tI 61 #[.pointer (some (a_0.add 0)),.int .i64 3] w11 fun n17 w16=>
 ((decide (n17=0))=true→
 bS 40 1 #[(0,(.agg #[.int .i64 n12,.int .i64 n13,x14.val]))] w16 fun x20 w19=>
 tE 103 #[.int .i64 5,.int .i64 0,x20.val] w19 fun n23 n24 x25 w22=>
 tE 210 #[.pointer (some (a_0.add 0)),.int .i64 n6] w22 fun n28 n29 x30 w27=>
 bS 40 2 #[(0,(.agg #[.int .i64 n28,.int .i64 n29,x30.val])),(1,(.agg #[.int .i64 n23,.int .i64 n24,x25.val]))] w27 fun x33 w32=>
 tE 103 #[.int .i64 13,.int .i64 0,x33.val] w32 fun n36 n37 x38 w35=>
 Q (.agg #[.int .i64 n36,.int .i64 n37,x38.val]) w35)∧
 ((decide (n17=0))=false→
 tE 210 #[.pointer (some (a_0.add 0)),.int .i64 n6] w16 fun n41 n42 x43 w40=>
 bS 40 2 #[(0,(.agg #[.int .i64 n41,.int .i64 n42,x43.val])),(1,(.agg #[.int .i64 n12,.int .i64 n13,x14.val]))] w40 fun x46 w45=>
 tE 103 #[.int .i64 13,.int .i64 0,x46.val] w45 fun n49 n50 x51 w48=>
 Q (.agg #[.int .i64 n49,.int .i64 n50,x51.val]) w48)
theorem of164 (a_0:Addr) (x1_0:Sl) (x1_1:Sl) (v:World) (Q:QT) (h:vc164 a_0 x1_0 x1_1 v Q):Trip Tryz.prog 164 #[.pointer (some (a_0.add 0)),.agg #[x1_0.val,x1_1.val]] v Q:=
 trip_of_eq (args:=[.pt a_0 0,.ag [.sl x1_0,.sl x1_1]]) (A:=⟨[],[],[(5,[])],[],psG⟩) Tryz.func164 (by kernel_rfl) (by kernel_rfl) (by kernel_rfl:vc164 a_0 x1_0 x1_1 v Q=_) h
def vc165 (a_0:Addr) (x1_0:Sl) (x1_1:Sl) (n_2:Int) (n_3:Int) (v:World) (Q:QT):Prop:=
 IxOk x1_1 n_2∧
 ∃ x1:Sl,v.cell? ((elA x1_1 n_2 5).add 0)=some (x1.val)∧
 bS 68 2 #[(0,(.int .i64 0)),(1,(.int .i64 1))] v fun x4 w3=>
 tS 136 #[x1.val,x4.val] w3 fun x7 w6=>
 bS 40 0 #[] w6 fun x10 w9=>
 ∃ I11:Sl→Int→World→Prop,∃ m12:Sl→Int→World→Nat,I11 x10 0 w9∧
 ∀ x13:Sl,∀ n14:Int,∀ w15:World,I11 x13 n14 w15→
 ((decide (n14 < (x1.n:Int)))=true→
 ((decide (n14=n_3))=true→
 ∃ n16:Int,Wr .i64 ((x1.n:Int)+1) n16∧
 tE 157 #[.int .i64 n16] w15 fun n19 n20 x21 w18=>
 bS 40 1 #[(0,(.agg #[.int .i64 n19,.int .i64 n20,x21.val]))] w18 fun x24 w23=>
 StepT Tryz.prog (Builtin.append_ #[40,40] 40 #[(x13.val),(x24.val)]) w23 fun r25 w26=>
 ∃ x27:Sl,r25=x27.val∧
 ∃ n28:Int,Wr .i64 (n14+1) n28∧
 eqS (.sl x1_0)∧
 eqS (.sl x1_1)∧
 eqS (.num .i64 0)∧
 eqS (.num .i64 0)∧
 eqS (.sl (Sl.mk none 0 0))∧
 I11 x27 n28 w26∧
 m12 x27 n28 w26 < m12 x13 n14 w15)∧
 ((decide (n14=n_3))=false→
 IxOk x1 n14∧
 ∃ n29:Int,w15.cell? ((elA x1 n14 1).add 0)=some (.int .i64 n29)∧
 ((decide (n29=0))=true→
 tI 61 #[.pointer (some (a_0.add 0)),.int .i64 2] w15 fun n32 w31=>
 ((decide (n32=0))=true→
 tE 157 #[.int .i64 n14] w31 fun n35 n36 x37 w34=>
 tE 157 #[.int .i64 (x1.n:Int)] w34 fun n40 n41 x42 w39=>
 bS 40 2 #[(0,(.agg #[.int .i64 n35,.int .i64 n36,x37.val])),(1,(.agg #[.int .i64 n40,.int .i64 n41,x42.val]))] w39 fun x45 w44=>
 tE 103 #[.int .i64 1,.int .i64 0,x45.val] w44 fun n48 n49 x50 w47=>
 bS 40 1 #[(0,(.agg #[.int .i64 n48,.int .i64 n49,x50.val]))] w47 fun x53 w52=>
 StepT Tryz.prog (Builtin.append_ #[40,40] 40 #[(x13.val),(x53.val)]) w52 fun r54 w55=>
 ∃ x56:Sl,r54=x56.val∧
 ∃ n57:Int,Wr .i64 (n14+1) n57∧
 eqS (.sl x1_0)∧
 eqS (.sl x1_1)∧
 eqS (.num .i64 0)∧
 eqS (.num .i64 0)∧
 eqS (.sl (Sl.mk none 0 0))∧
 I11 x56 n57 w55∧
 m12 x56 n57 w55 < m12 x13 n14 w15)∧
 ((decide (n32=0))=false→
 tE 157 #[.int .i64 n14] w31 fun n60 n61 x62 w59=>
 bS 40 1 #[(0,(.agg #[.int .i64 n60,.int .i64 n61,x62.val]))] w59 fun x65 w64=>
 StepT Tryz.prog (Builtin.append_ #[40,40] 40 #[(x13.val),(x65.val)]) w64 fun r66 w67=>
 ∃ x68:Sl,r66=x68.val∧
 ∃ n69:Int,Wr .i64 (n14+1) n69∧
 eqS (.sl x1_0)∧
 eqS (.sl x1_1)∧
 eqS (.num .i64 0)∧
 eqS (.num .i64 0)∧
 eqS (.sl (Sl.mk none 0 0))∧
 I11 x68 n69 w67∧
 m12 x68 n69 w67 < m12 x13 n14 w15))∧
 ((decide (n29=0))=false→
 tE 157 #[.int .i64 n14] w15 fun n72 n73 x74 w71=>
 bS 40 1 #[(0,(.agg #[.int .i64 n72,.int .i64 n73,x74.val]))] w71 fun x77 w76=>
 StepT Tryz.prog (Builtin.append_ #[40,40] 40 #[(x13.val),(x77.val)]) w76 fun r78 w79=>
 ∃ x80:Sl,r78=x80.val∧
 ∃ n81:Int,Wr .i64 (n14+1) n81∧
 eqS (.sl x1_0)∧
 eqS (.sl x1_1)∧
 eqS (.num .i64 0)∧
 eqS (.num .i64 0)∧
 eqS (.sl (Sl.mk none 0 0))∧
 I11 x80 n81 w79∧
 m12 x80 n81 w79 < m12 x13 n14 w15)))∧
 ((decide (n14 < (x1.n:Int)))=false→
 tE 103 #[.int .i64 9,.int .i64 n_2,x13.val] w15 fun n84 n85 x86 w83=>
 ∃ J87:Int→Int→Sl→World→Prop,(∃ J88:Bool→World→Prop,(IxOk x1_1 n_2∧
 ∃ n89:Int,w83.cell? ((elA x1_1 n_2 5).add 1)=some (.int .i64 n89)∧
 ((decide (n89=1))=true→
 tI 61 #[.pointer (some (a_0.add 0)),.int .i64 5] w83 fun n92 w91=>
 eqS (.sl x1_0)∧
 eqS (.sl x1_1)∧
 eqS (.num .i64 0)∧
 eqS (.num .i64 0)∧
 eqS (.sl (Sl.mk none 0 0))∧
 eqS (.num .i64 n84)∧
 eqS (.num .i64 n85)∧
 eqS (.sl x86)∧
 eqS (.num .i64 n84)∧
 eqS (.num .i64 n85)∧
 eqS (.sl x86)∧
 J88 (decide (n92 > 0)) w91)∧
 ((decide (n89=1))=false→
 eqS (.sl x1_0)∧
 eqS (.sl x1_1)∧
 eqS (.num .i64 0)∧
 eqS (.num .i64 0)∧
 eqS (.sl (Sl.mk none 0 0))∧
 eqS (.num .i64 n84)∧
 eqS (.num .i64 n85)∧
 eqS (.sl x86)∧
 eqS (.num .i64 n84)∧
 eqS (.num .i64 n85)∧
 eqS (.sl x86)∧
 J88 false w83))∧
 ∀ q93:Bool,∀ w94:World,J88 q93 w94→
 (q93=true→
 tE 209 #[.pointer (some (a_0.add 0)),.agg #[x1_0.val,x1_1.val],x7.val,.int .i64 0,.int .i64 4] w94 fun n97 n98 x99 w96=>
 ((decide ((x1.n:Int) > 1))=true→
 IxOk x1 0)∧
 ∃ n100:Int,((decide ((x1.n:Int) > 1))=true→
 w96.cell? ((elA x1 0 1).add 0)=some (.int .i64 n100))∧
 (((decide ((x1.n:Int) > 1)) && (decide (n100=2)))=true→
 tE 157 #[.int .i64 0] w96 fun n103 n104 x105 w102=>
 tE 157 #[.int .i64 (x1.n:Int)] w102 fun n108 n109 x110 w107=>
 bS 40 2 #[(0,(.agg #[.int .i64 n103,.int .i64 n104,x105.val])),(1,(.agg #[.int .i64 n108,.int .i64 n109,x110.val]))] w107 fun x113 w112=>
 tE 103 #[.int .i64 11,.int .i64 0,x113.val] w112 fun n116 n117 x118 w115=>
 bS 40 2 #[(0,(.agg #[.int .i64 n116,.int .i64 n117,x118.val])),(1,(.agg #[.int .i64 n84,.int .i64 n85,x86.val]))] w115 fun x121 w120=>
 tE 103 #[.int .i64 6,.int .i64 1,x121.val] w120 fun n124 n125 x126 w123=>
 eqS (.sl x1_0)∧
 eqS (.sl x1_1)∧
 eqS (.num .i64 0)∧
 eqS (.num .i64 0)∧
 eqS (.sl (Sl.mk none 0 0))∧
 eqS (.num .i64 n84)∧
 eqS (.num .i64 n85)∧
 eqS (.sl x86)∧
 J87 n124 n125 x126 w123)∧
 (((decide ((x1.n:Int) > 1)) && (decide (n100=2)))=false→
 bS 40 2 #[(0,(.agg #[.int .i64 n97,.int .i64 n98,x99.val])),(1,(.agg #[.int .i64 n84,.int .i64 n85,x86.val]))] w96 fun x129 w128=>
 tE 103 #[.int .i64 6,.int .i64 1,x129.val] w128 fun n132 n133 x134 w131=>
 eqS (.sl x1_0)∧
 eqS (.sl x1_1)∧
 eqS (.num .i64 0)∧
 eqS (.num .i64 0)∧
 eqS (.sl (Sl.mk none 0 0))∧
 eqS (.num .i64 n84)∧
 eqS (.num .i64 n85)∧
 eqS (.sl x86)∧
 J87 n132 n133 x134 w131))∧
 (q93=false→
 IxOk x1_1 n_2∧
 ∃ n135:Int,w94.cell? ((elA x1_1 n_2 5).add 1)=some (.int .i64 n135)∧
 ((decide (n135=0))=true→
 bS 68 2 #[(0,(.int .i64 1)),(1,(.int .i64 2))] w94 fun x138 w137=>
 tI 120 #[.pointer (some (a_0.add 0)),x138.val] w137 fun n141 w140=>
 tE 209 #[.pointer (some (a_0.add 0)),.agg #[x1_0.val,x1_1.val],x7.val,.int .i64 0,.int .i64 4] w140 fun n144 n145 x146 w143=>
 bS 40 2 #[(0,(.agg #[.int .i64 n144,.int .i64 n145,x146.val])),(1,(.agg #[.int .i64 n84,.int .i64 n85,x86.val]))] w143 fun x149 w148=>
 tE 103 #[.int .i64 n141,.int .i64 0,x149.val] w148 fun n152 n153 x154 w151=>
 eqS (.sl x1_0)∧
 eqS (.sl x1_1)∧
 eqS (.num .i64 0)∧
 eqS (.num .i64 0)∧
 eqS (.sl (Sl.mk none 0 0))∧
 eqS (.num .i64 n84)∧
 eqS (.num .i64 n85)∧
 eqS (.sl x86)∧
 J87 n152 n153 x154 w151)∧
 ((decide (n135=0))=false→
 eqS (.sl x1_0)∧
 eqS (.sl x1_1)∧
 eqS (.num .i64 0)∧
 eqS (.num .i64 0)∧
 eqS (.sl (Sl.mk none 0 0))∧
 eqS (.num .i64 n84)∧
 eqS (.num .i64 n85)∧
 eqS (.sl x86)∧
 J87 n84 n85 x86 w94)))∧
 ∀ n155:Int,∀ n156:Int,∀ x157:Sl,∀ w158:World,J87 n155 n156 x157 w158→
 IxOk x1_1 n_2∧
 ∃ n159:Int,w158.cell? ((elA x1_1 n_2 5).add 1)=some (.int .i64 n159)∧
 tE 157 #[.int .i64 n_3] w158 fun n162 n163 x164 w161=>
 Sub w158 w161∧
 tE 209 #[.pointer (some (a_0.add 0)),.agg #[x1_0.val,x1_1.val],x1.val,.int .i64 n159,.int .i64 4] w161 fun n167 n168 x169 w166=>
 bS 40 3 #[(0,(.agg #[.int .i64 n162,.int .i64 n163,x164.val])),(1,(.agg #[.int .i64 n167,.int .i64 n168,x169.val])),(2,(.agg #[.int .i64 n155,.int .i64 n156,x157.val]))] w166 fun x172 w171=>
 tE 103 #[.int .i64 8,.int .i64 1,x172.val] w171 fun n175 n176 x177 w174=>
 Q (.agg #[.int .i64 n175,.int .i64 n176,x177.val]) w174)
theorem of165 (a_0:Addr) (x1_0:Sl) (x1_1:Sl) (n_2:Int) (n_3:Int) (v:World) (Q:QT) (h:vc165 a_0 x1_0 x1_1 n_2 n_3 v Q):Trip Tryz.prog 165 #[.pointer (some (a_0.add 0)),.agg #[x1_0.val,x1_1.val],.int .i64 n_2,.int .i64 n_3] v Q:=
 trip_of_eq (args:=[.pt a_0 0,.ag [.sl x1_0,.sl x1_1],.num .i64 n_2,.num .i64 n_3]) (A:=⟨[(6,[(12,.sl),(13,.int .i64)],[])],[(16,[(82,.bool)],[]),(22,[],[(3,0,.int .i64),(3,1,.int .i64),(3,2,.sl)])],[(21,[]),(22,[1])],[],psG⟩) Tryz.func165 (by kernel_rfl) (by kernel_rfl) (by kernel_rfl:vc165 a_0 x1_0 x1_1 n_2 n_3 v Q=_) h
def vc166 (a_0:Addr) (x1_0:Sl) (x1_1:Sl) (n_2:Int) (v:World) (Q:QT):Prop:=
 IxOk x1_1 n_2∧
 ∃ x1:Sl,v.cell? ((elA x1_1 n_2 5).add 0)=some (x1.val)∧
 tE 157 #[.int .i64 (x1.n:Int)] v fun n4 n5 x6 w3=>
 bS 40 1 #[(0,(.agg #[.int .i64 n4,.int .i64 n5,x6.val]))] w3 fun x9 w8=>
 ∃ n10:Int,Wr .i64 ((x1.n:Int)+2) n10∧
 tE 157 #[.int .i64 n10] w8 fun n13 n14 x15 w12=>
 bS 40 1 #[(0,(.agg #[.int .i64 n13,.int .i64 n14,x15.val]))] w12 fun x18 w17=>
 ∃ I19:Sl→Sl→Int→World→Prop,∃ m20:Sl→Sl→Int→World→Nat,I19 x9 x18 1 w17∧
 ∀ x21:Sl,∀ x22:Sl,∀ n23:Int,∀ w24:World,I19 x21 x22 n23 w24→
 ((decide (n23 < (x1.n:Int)))=true→
 tE 157 #[.int .i64 n23] w24 fun n27 n28 x29 w26=>
 bS 40 1 #[(0,(.agg #[.int .i64 n27,.int .i64 n28,x29.val]))] w26 fun x32 w31=>
 StepT Tryz.prog (Builtin.append_ #[40,40] 40 #[(x21.val),(x32.val)]) w31 fun r33 w34=>
 ∃ x35:Sl,r33=x35.val∧
 tE 157 #[.int .i64 n23] w34 fun n38 n39 x40 w37=>
 bS 40 1 #[(0,(.agg #[.int .i64 n38,.int .i64 n39,x40.val]))] w37 fun x43 w42=>
 StepT Tryz.prog (Builtin.append_ #[40,40] 40 #[(x22.val),(x43.val)]) w42 fun r44 w45=>
 ∃ x46:Sl,r44=x46.val∧
 ∃ n47:Int,Wr .i64 (n23+1) n47∧
 eqS (.sl x1_0)∧
 eqS (.sl x1_1)∧
 eqS (.num .i64 0)∧
 eqS (.num .i64 0)∧
 eqS (.sl (Sl.mk none 0 0))∧
 I19 x35 x46 n47 w45∧
 m20 x35 x46 n47 w45 < m20 x21 x22 n23 w24)∧
 ((decide (n23 < (x1.n:Int)))=false→
 tE 103 #[.int .i64 9,.int .i64 n_2,x21.val] w24 fun n50 n51 x52 w49=>
 tE 103 #[.int .i64 9,.int .i64 n_2,x22.val] w49 fun n55 n56 x57 w54=>
 (bS 68 3 #[(0,(.int .i64 3)),(1,(.int .i64 0)),(2,(.int .i64 3))] w54 fun x60 w59=>
 Sub w54 w59∧
 (tS 136 #[x1.val,x60.val] w59 fun x63 w62=>
 Sub w59 w62∧
 (tE 209 #[.pointer (some (a_0.add 0)),.agg #[x1_0.val,x1_1.val],x63.val,.int .i64 0,.int .i64 4] w62 fun n66 n67 x68 w65=>
 (bS 40 2 #[(0,(.agg #[.int .i64 n66,.int .i64 n67,x68.val])),(1,(.agg #[.int .i64 n55,.int .i64 n56,x57.val]))] w65 fun x71 w70=>
 (tE 103 #[.int .i64 1,.int .i64 0,x71.val] w70 fun n74 n75 x76 w73=>
 (bS 40 2 #[(0,(.agg #[.int .i64 n50,.int .i64 n51,x52.val])),(1,(.agg #[.int .i64 n74,.int .i64 n75,x76.val]))] w73 fun x79 w78=>
 (tE 103 #[.int .i64 1,.int .i64 0,x79.val] w78 fun n82 n83 x84 w81=>
 Sub w81 w81∧
 IxOk x1_1 n_2∧
 ∃ n85:Int,w81.cell? ((elA x1_1 n_2 5).add 1)=some (.int .i64 n85)∧
 ((decide (n85=3))=true→
 ∃ n86:Int,Wr .i64 ((x1.n:Int)+2) n86∧
 bS 68 3 #[(0,(.int .i64 3)),(1,(.int .i64 0)),(2,(.int .i64 3))] w81 fun x89 w88=>
 Sub w81 w88∧
 tS 136 #[x1.val,x89.val] w88 fun x92 w91=>
 Sub w88 w91∧
 tE 209 #[.pointer (some (a_0.add 0)),.agg #[x1_0.val,x1_1.val],x92.val,.int .i64 0,.int .i64 4] w91 fun n95 n96 x97 w94=>
 tE 157 #[.int .i64 n86] w94 fun n100 n101 x102 w99=>
 bS 40 3 #[(0,(.agg #[.int .i64 n50,.int .i64 n51,x52.val])),(1,(.agg #[.int .i64 n95,.int .i64 n96,x97.val])),(2,(.agg #[.int .i64 n100,.int .i64 n101,x102.val]))] w99 fun x105 w104=>
 tE 103 #[.int .i64 6,.int .i64 3,x105.val] w104 fun n108 n109 x110 w107=>
 IxOk x1_1 n_2∧
 ∃ n111:Int,w107.cell? ((elA x1_1 n_2 5).add 1)=some (.int .i64 n111)∧
 tE 157 #[.int .i64 0] w107 fun n114 n115 x116 w113=>
 Sub w107 w113∧
 tE 209 #[.pointer (some (a_0.add 0)),.agg #[x1_0.val,x1_1.val],x1.val,.int .i64 n111,.int .i64 4] w113 fun n119 n120 x121 w118=>
 bS 40 3 #[(0,(.agg #[.int .i64 n114,.int .i64 n115,x116.val])),(1,(.agg #[.int .i64 n119,.int .i64 n120,x121.val])),(2,(.agg #[.int .i64 n108,.int .i64 n109,x110.val]))] w118 fun x124 w123=>
 tE 103 #[.int .i64 8,.int .i64 3,x124.val] w123 fun n127 n128 x129 w126=>
 Q (.agg #[.int .i64 n127,.int .i64 n128,x129.val]) w126)∧
 ((decide (n85=3))=false→
 IxOk x1_1 n_2∧
 ∃ n130:Int,w81.cell? ((elA x1_1 n_2 5).add 1)=some (.int .i64 n130)∧
 tE 157 #[.int .i64 0] w81 fun n133 n134 x135 w132=>
 Sub w81 w132∧
 tE 209 #[.pointer (some (a_0.add 0)),.agg #[x1_0.val,x1_1.val],x1.val,.int .i64 n130,.int .i64 4] w132 fun n138 n139 x140 w137=>
 bS 40 3 #[(0,(.agg #[.int .i64 n133,.int .i64 n134,x135.val])),(1,(.agg #[.int .i64 n138,.int .i64 n139,x140.val])),(2,(.agg #[.int .i64 n82,.int .i64 n83,x84.val]))] w137 fun x143 w142=>
 tE 103 #[.int .i64 8,.int .i64 3,x143.val] w142 fun n146 n147 x148 w145=>
 Q (.agg #[.int .i64 n146,.int .i64 n147,x148.val]) w145))∧
 Sub w78 w78∧
 tE 103 #[.int .i64 1,.int .i64 0,x79.val] w78 fun n151 n152 x153 w150=>
 IxOk x1_1 n_2∧
 ∃ n154:Int,w150.cell? ((elA x1_1 n_2 5).add 1)=some (.int .i64 n154)∧
 ((decide (n154=3))=true→
 ∃ n155:Int,Wr .i64 ((x1.n:Int)+2) n155∧
 bS 68 3 #[(0,(.int .i64 3)),(1,(.int .i64 0)),(2,(.int .i64 3))] w150 fun x158 w157=>
 Sub w150 w157∧
 tS 136 #[x1.val,x158.val] w157 fun x161 w160=>
 Sub w157 w160∧
 tE 209 #[.pointer (some (a_0.add 0)),.agg #[x1_0.val,x1_1.val],x161.val,.int .i64 0,.int .i64 4] w160 fun n164 n165 x166 w163=>
 tE 157 #[.int .i64 n155] w163 fun n169 n170 x171 w168=>
 bS 40 3 #[(0,(.agg #[.int .i64 n50,.int .i64 n51,x52.val])),(1,(.agg #[.int .i64 n164,.int .i64 n165,x166.val])),(2,(.agg #[.int .i64 n169,.int .i64 n170,x171.val]))] w168 fun x174 w173=>
 tE 103 #[.int .i64 6,.int .i64 3,x174.val] w173 fun n177 n178 x179 w176=>
 IxOk x1_1 n_2∧
 ∃ n180:Int,w176.cell? ((elA x1_1 n_2 5).add 1)=some (.int .i64 n180)∧
 tE 157 #[.int .i64 0] w176 fun n183 n184 x185 w182=>
 Sub w176 w182∧
 tE 209 #[.pointer (some (a_0.add 0)),.agg #[x1_0.val,x1_1.val],x1.val,.int .i64 n180,.int .i64 4] w182 fun n188 n189 x190 w187=>
 bS 40 3 #[(0,(.agg #[.int .i64 n183,.int .i64 n184,x185.val])),(1,(.agg #[.int .i64 n188,.int .i64 n189,x190.val])),(2,(.agg #[.int .i64 n177,.int .i64 n178,x179.val]))] w187 fun x193 w192=>
 tE 103 #[.int .i64 8,.int .i64 3,x193.val] w192 fun n196 n197 x198 w195=>
 Q (.agg #[.int .i64 n196,.int .i64 n197,x198.val]) w195)∧
 ((decide (n154=3))=false→
 IxOk x1_1 n_2∧
 ∃ n199:Int,w150.cell? ((elA x1_1 n_2 5).add 1)=some (.int .i64 n199)∧
 tE 157 #[.int .i64 0] w150 fun n202 n203 x204 w201=>
 Sub w150 w201∧
 tE 209 #[.pointer (some (a_0.add 0)),.agg #[x1_0.val,x1_1.val],x1.val,.int .i64 n199,.int .i64 4] w201 fun n207 n208 x209 w206=>
 bS 40 3 #[(0,(.agg #[.int .i64 n202,.int .i64 n203,x204.val])),(1,(.agg #[.int .i64 n207,.int .i64 n208,x209.val])),(2,(.agg #[.int .i64 n151,.int .i64 n152,x153.val]))] w206 fun x212 w211=>
 tE 103 #[.int .i64 8,.int .i64 3,x212.val] w211 fun n215 n216 x217 w214=>
 Q (.agg #[.int .i64 n215,.int .i64 n216,x217.val]) w214))∧
 Sub w73 w73∧
 bS 40 2 #[(0,(.agg #[.int .i64 n50,.int .i64 n51,x52.val])),(1,(.agg #[.int .i64 n74,.int .i64 n75,x76.val]))] w73 fun x220 w219=>
 tE 103 #[.int .i64 1,.int .i64 0,x220.val] w219 fun n223 n224 x225 w222=>
 IxOk x1_1 n_2∧
 ∃ n226:Int,w222.cell? ((elA x1_1 n_2 5).add 1)=some (.int .i64 n226)∧
 ((decide (n226=3))=true→
 ∃ n227:Int,Wr .i64 ((x1.n:Int)+2) n227∧
 bS 68 3 #[(0,(.int .i64 3)),(1,(.int .i64 0)),(2,(.int .i64 3))] w222 fun x230 w229=>
 Sub w222 w229∧
 tS 136 #[x1.val,x230.val] w229 fun x233 w232=>
 Sub w229 w232∧
 tE 209 #[.pointer (some (a_0.add 0)),.agg #[x1_0.val,x1_1.val],x233.val,.int .i64 0,.int .i64 4] w232 fun n236 n237 x238 w235=>
 tE 157 #[.int .i64 n227] w235 fun n241 n242 x243 w240=>
 bS 40 3 #[(0,(.agg #[.int .i64 n50,.int .i64 n51,x52.val])),(1,(.agg #[.int .i64 n236,.int .i64 n237,x238.val])),(2,(.agg #[.int .i64 n241,.int .i64 n242,x243.val]))] w240 fun x246 w245=>
 tE 103 #[.int .i64 6,.int .i64 3,x246.val] w245 fun n249 n250 x251 w248=>
 IxOk x1_1 n_2∧
 ∃ n252:Int,w248.cell? ((elA x1_1 n_2 5).add 1)=some (.int .i64 n252)∧
 tE 157 #[.int .i64 0] w248 fun n255 n256 x257 w254=>
 Sub w248 w254∧
 tE 209 #[.pointer (some (a_0.add 0)),.agg #[x1_0.val,x1_1.val],x1.val,.int .i64 n252,.int .i64 4] w254 fun n260 n261 x262 w259=>
 bS 40 3 #[(0,(.agg #[.int .i64 n255,.int .i64 n256,x257.val])),(1,(.agg #[.int .i64 n260,.int .i64 n261,x262.val])),(2,(.agg #[.int .i64 n249,.int .i64 n250,x251.val]))] w259 fun x265 w264=>
 tE 103 #[.int .i64 8,.int .i64 3,x265.val] w264 fun n268 n269 x270 w267=>
 Q (.agg #[.int .i64 n268,.int .i64 n269,x270.val]) w267)∧
 ((decide (n226=3))=false→
 IxOk x1_1 n_2∧
 ∃ n271:Int,w222.cell? ((elA x1_1 n_2 5).add 1)=some (.int .i64 n271)∧
 tE 157 #[.int .i64 0] w222 fun n274 n275 x276 w273=>
 Sub w222 w273∧
 tE 209 #[.pointer (some (a_0.add 0)),.agg #[x1_0.val,x1_1.val],x1.val,.int .i64 n271,.int .i64 4] w273 fun n279 n280 x281 w278=>
 bS 40 3 #[(0,(.agg #[.int .i64 n274,.int .i64 n275,x276.val])),(1,(.agg #[.int .i64 n279,.int .i64 n280,x281.val])),(2,(.agg #[.int .i64 n223,.int .i64 n224,x225.val]))] w278 fun x284 w283=>
 tE 103 #[.int .i64 8,.int .i64 3,x284.val] w283 fun n287 n288 x289 w286=>
 Q (.agg #[.int .i64 n287,.int .i64 n288,x289.val]) w286))∧
 Sub w70 w70∧
 tE 103 #[.int .i64 1,.int .i64 0,x71.val] w70 fun n292 n293 x294 w291=>
 bS 40 2 #[(0,(.agg #[.int .i64 n50,.int .i64 n51,x52.val])),(1,(.agg #[.int .i64 n292,.int .i64 n293,x294.val]))] w291 fun x297 w296=>
 tE 103 #[.int .i64 1,.int .i64 0,x297.val] w296 fun n300 n301 x302 w299=>
 IxOk x1_1 n_2∧
 ∃ n303:Int,w299.cell? ((elA x1_1 n_2 5).add 1)=some (.int .i64 n303)∧
 ((decide (n303=3))=true→
 ∃ n304:Int,Wr .i64 ((x1.n:Int)+2) n304∧
 bS 68 3 #[(0,(.int .i64 3)),(1,(.int .i64 0)),(2,(.int .i64 3))] w299 fun x307 w306=>
 Sub w299 w306∧
 tS 136 #[x1.val,x307.val] w306 fun x310 w309=>
 Sub w306 w309∧
 tE 209 #[.pointer (some (a_0.add 0)),.agg #[x1_0.val,x1_1.val],x310.val,.int .i64 0,.int .i64 4] w309 fun n313 n314 x315 w312=>
 tE 157 #[.int .i64 n304] w312 fun n318 n319 x320 w317=>
 bS 40 3 #[(0,(.agg #[.int .i64 n50,.int .i64 n51,x52.val])),(1,(.agg #[.int .i64 n313,.int .i64 n314,x315.val])),(2,(.agg #[.int .i64 n318,.int .i64 n319,x320.val]))] w317 fun x323 w322=>
 tE 103 #[.int .i64 6,.int .i64 3,x323.val] w322 fun n326 n327 x328 w325=>
 IxOk x1_1 n_2∧
 ∃ n329:Int,w325.cell? ((elA x1_1 n_2 5).add 1)=some (.int .i64 n329)∧
 tE 157 #[.int .i64 0] w325 fun n332 n333 x334 w331=>
 Sub w325 w331∧
 tE 209 #[.pointer (some (a_0.add 0)),.agg #[x1_0.val,x1_1.val],x1.val,.int .i64 n329,.int .i64 4] w331 fun n337 n338 x339 w336=>
 bS 40 3 #[(0,(.agg #[.int .i64 n332,.int .i64 n333,x334.val])),(1,(.agg #[.int .i64 n337,.int .i64 n338,x339.val])),(2,(.agg #[.int .i64 n326,.int .i64 n327,x328.val]))] w336 fun x342 w341=>
 tE 103 #[.int .i64 8,.int .i64 3,x342.val] w341 fun n345 n346 x347 w344=>
 Q (.agg #[.int .i64 n345,.int .i64 n346,x347.val]) w344)∧
 ((decide (n303=3))=false→
 IxOk x1_1 n_2∧
 ∃ n348:Int,w299.cell? ((elA x1_1 n_2 5).add 1)=some (.int .i64 n348)∧
 tE 157 #[.int .i64 0] w299 fun n351 n352 x353 w350=>
 Sub w299 w350∧
 tE 209 #[.pointer (some (a_0.add 0)),.agg #[x1_0.val,x1_1.val],x1.val,.int .i64 n348,.int .i64 4] w350 fun n356 n357 x358 w355=>
 bS 40 3 #[(0,(.agg #[.int .i64 n351,.int .i64 n352,x353.val])),(1,(.agg #[.int .i64 n356,.int .i64 n357,x358.val])),(2,(.agg #[.int .i64 n300,.int .i64 n301,x302.val]))] w355 fun x361 w360=>
 tE 103 #[.int .i64 8,.int .i64 3,x361.val] w360 fun n364 n365 x366 w363=>
 Q (.agg #[.int .i64 n364,.int .i64 n365,x366.val]) w363))∧
 Sub w65 w65∧
 bS 40 2 #[(0,(.agg #[.int .i64 n66,.int .i64 n67,x68.val])),(1,(.agg #[.int .i64 n55,.int .i64 n56,x57.val]))] w65 fun x369 w368=>
 tE 103 #[.int .i64 1,.int .i64 0,x369.val] w368 fun n372 n373 x374 w371=>
 bS 40 2 #[(0,(.agg #[.int .i64 n50,.int .i64 n51,x52.val])),(1,(.agg #[.int .i64 n372,.int .i64 n373,x374.val]))] w371 fun x377 w376=>
 tE 103 #[.int .i64 1,.int .i64 0,x377.val] w376 fun n380 n381 x382 w379=>
 IxOk x1_1 n_2∧
 ∃ n383:Int,w379.cell? ((elA x1_1 n_2 5).add 1)=some (.int .i64 n383)∧
 ((decide (n383=3))=true→
 ∃ n384:Int,Wr .i64 ((x1.n:Int)+2) n384∧
 bS 68 3 #[(0,(.int .i64 3)),(1,(.int .i64 0)),(2,(.int .i64 3))] w379 fun x387 w386=>
 Sub w379 w386∧
 tS 136 #[x1.val,x387.val] w386 fun x390 w389=>
 Sub w386 w389∧
 tE 209 #[.pointer (some (a_0.add 0)),.agg #[x1_0.val,x1_1.val],x390.val,.int .i64 0,.int .i64 4] w389 fun n393 n394 x395 w392=>
 tE 157 #[.int .i64 n384] w392 fun n398 n399 x400 w397=>
 bS 40 3 #[(0,(.agg #[.int .i64 n50,.int .i64 n51,x52.val])),(1,(.agg #[.int .i64 n393,.int .i64 n394,x395.val])),(2,(.agg #[.int .i64 n398,.int .i64 n399,x400.val]))] w397 fun x403 w402=>
 tE 103 #[.int .i64 6,.int .i64 3,x403.val] w402 fun n406 n407 x408 w405=>
 IxOk x1_1 n_2∧
 ∃ n409:Int,w405.cell? ((elA x1_1 n_2 5).add 1)=some (.int .i64 n409)∧
 tE 157 #[.int .i64 0] w405 fun n412 n413 x414 w411=>
 Sub w405 w411∧
 tE 209 #[.pointer (some (a_0.add 0)),.agg #[x1_0.val,x1_1.val],x1.val,.int .i64 n409,.int .i64 4] w411 fun n417 n418 x419 w416=>
 bS 40 3 #[(0,(.agg #[.int .i64 n412,.int .i64 n413,x414.val])),(1,(.agg #[.int .i64 n417,.int .i64 n418,x419.val])),(2,(.agg #[.int .i64 n406,.int .i64 n407,x408.val]))] w416 fun x422 w421=>
 tE 103 #[.int .i64 8,.int .i64 3,x422.val] w421 fun n425 n426 x427 w424=>
 Q (.agg #[.int .i64 n425,.int .i64 n426,x427.val]) w424)∧
 ((decide (n383=3))=false→
 IxOk x1_1 n_2∧
 ∃ n428:Int,w379.cell? ((elA x1_1 n_2 5).add 1)=some (.int .i64 n428)∧
 tE 157 #[.int .i64 0] w379 fun n431 n432 x433 w430=>
 Sub w379 w430∧
 tE 209 #[.pointer (some (a_0.add 0)),.agg #[x1_0.val,x1_1.val],x1.val,.int .i64 n428,.int .i64 4] w430 fun n436 n437 x438 w435=>
 bS 40 3 #[(0,(.agg #[.int .i64 n431,.int .i64 n432,x433.val])),(1,(.agg #[.int .i64 n436,.int .i64 n437,x438.val])),(2,(.agg #[.int .i64 n380,.int .i64 n381,x382.val]))] w435 fun x441 w440=>
 tE 103 #[.int .i64 8,.int .i64 3,x441.val] w440 fun n444 n445 x446 w443=>
 Q (.agg #[.int .i64 n444,.int .i64 n445,x446.val]) w443))∧
 Sub w62 w62∧
 tE 209 #[.pointer (some (a_0.add 0)),.agg #[x1_0.val,x1_1.val],x63.val,.int .i64 0,.int .i64 4] w62 fun n449 n450 x451 w448=>
 bS 40 2 #[(0,(.agg #[.int .i64 n449,.int .i64 n450,x451.val])),(1,(.agg #[.int .i64 n55,.int .i64 n56,x57.val]))] w448 fun x454 w453=>
 tE 103 #[.int .i64 1,.int .i64 0,x454.val] w453 fun n457 n458 x459 w456=>
 bS 40 2 #[(0,(.agg #[.int .i64 n50,.int .i64 n51,x52.val])),(1,(.agg #[.int .i64 n457,.int .i64 n458,x459.val]))] w456 fun x462 w461=>
 tE 103 #[.int .i64 1,.int .i64 0,x462.val] w461 fun n465 n466 x467 w464=>
 IxOk x1_1 n_2∧
 ∃ n468:Int,w464.cell? ((elA x1_1 n_2 5).add 1)=some (.int .i64 n468)∧
 ((decide (n468=3))=true→
 ∃ n469:Int,Wr .i64 ((x1.n:Int)+2) n469∧
 bS 68 3 #[(0,(.int .i64 3)),(1,(.int .i64 0)),(2,(.int .i64 3))] w464 fun x472 w471=>
 Sub w464 w471∧
 tS 136 #[x1.val,x472.val] w471 fun x475 w474=>
 Sub w471 w474∧
 tE 209 #[.pointer (some (a_0.add 0)),.agg #[x1_0.val,x1_1.val],x475.val,.int .i64 0,.int .i64 4] w474 fun n478 n479 x480 w477=>
 tE 157 #[.int .i64 n469] w477 fun n483 n484 x485 w482=>
 bS 40 3 #[(0,(.agg #[.int .i64 n50,.int .i64 n51,x52.val])),(1,(.agg #[.int .i64 n478,.int .i64 n479,x480.val])),(2,(.agg #[.int .i64 n483,.int .i64 n484,x485.val]))] w482 fun x488 w487=>
 tE 103 #[.int .i64 6,.int .i64 3,x488.val] w487 fun n491 n492 x493 w490=>
 IxOk x1_1 n_2∧
 ∃ n494:Int,w490.cell? ((elA x1_1 n_2 5).add 1)=some (.int .i64 n494)∧
 tE 157 #[.int .i64 0] w490 fun n497 n498 x499 w496=>
 Sub w490 w496∧
 tE 209 #[.pointer (some (a_0.add 0)),.agg #[x1_0.val,x1_1.val],x1.val,.int .i64 n494,.int .i64 4] w496 fun n502 n503 x504 w501=>
 bS 40 3 #[(0,(.agg #[.int .i64 n497,.int .i64 n498,x499.val])),(1,(.agg #[.int .i64 n502,.int .i64 n503,x504.val])),(2,(.agg #[.int .i64 n491,.int .i64 n492,x493.val]))] w501 fun x507 w506=>
 tE 103 #[.int .i64 8,.int .i64 3,x507.val] w506 fun n510 n511 x512 w509=>
 Q (.agg #[.int .i64 n510,.int .i64 n511,x512.val]) w509)∧
 ((decide (n468=3))=false→
 IxOk x1_1 n_2∧
 ∃ n513:Int,w464.cell? ((elA x1_1 n_2 5).add 1)=some (.int .i64 n513)∧
 tE 157 #[.int .i64 0] w464 fun n516 n517 x518 w515=>
 Sub w464 w515∧
 tE 209 #[.pointer (some (a_0.add 0)),.agg #[x1_0.val,x1_1.val],x1.val,.int .i64 n513,.int .i64 4] w515 fun n521 n522 x523 w520=>
 bS 40 3 #[(0,(.agg #[.int .i64 n516,.int .i64 n517,x518.val])),(1,(.agg #[.int .i64 n521,.int .i64 n522,x523.val])),(2,(.agg #[.int .i64 n465,.int .i64 n466,x467.val]))] w520 fun x526 w525=>
 tE 103 #[.int .i64 8,.int .i64 3,x526.val] w525 fun n529 n530 x531 w528=>
 Q (.agg #[.int .i64 n529,.int .i64 n530,x531.val]) w528))∧
 Sub w59 w59∧
 tS 136 #[x1.val,x60.val] w59 fun x534 w533=>
 Sub w59 w533∧
 tE 209 #[.pointer (some (a_0.add 0)),.agg #[x1_0.val,x1_1.val],x534.val,.int .i64 0,.int .i64 4] w533 fun n537 n538 x539 w536=>
 bS 40 2 #[(0,(.agg #[.int .i64 n537,.int .i64 n538,x539.val])),(1,(.agg #[.int .i64 n55,.int .i64 n56,x57.val]))] w536 fun x542 w541=>
 tE 103 #[.int .i64 1,.int .i64 0,x542.val] w541 fun n545 n546 x547 w544=>
 bS 40 2 #[(0,(.agg #[.int .i64 n50,.int .i64 n51,x52.val])),(1,(.agg #[.int .i64 n545,.int .i64 n546,x547.val]))] w544 fun x550 w549=>
 tE 103 #[.int .i64 1,.int .i64 0,x550.val] w549 fun n553 n554 x555 w552=>
 IxOk x1_1 n_2∧
 ∃ n556:Int,w552.cell? ((elA x1_1 n_2 5).add 1)=some (.int .i64 n556)∧
 ((decide (n556=3))=true→
 ∃ n557:Int,Wr .i64 ((x1.n:Int)+2) n557∧
 bS 68 3 #[(0,(.int .i64 3)),(1,(.int .i64 0)),(2,(.int .i64 3))] w552 fun x560 w559=>
 Sub w552 w559∧
 tS 136 #[x1.val,x560.val] w559 fun x563 w562=>
 Sub w559 w562∧
 tE 209 #[.pointer (some (a_0.add 0)),.agg #[x1_0.val,x1_1.val],x563.val,.int .i64 0,.int .i64 4] w562 fun n566 n567 x568 w565=>
 tE 157 #[.int .i64 n557] w565 fun n571 n572 x573 w570=>
 bS 40 3 #[(0,(.agg #[.int .i64 n50,.int .i64 n51,x52.val])),(1,(.agg #[.int .i64 n566,.int .i64 n567,x568.val])),(2,(.agg #[.int .i64 n571,.int .i64 n572,x573.val]))] w570 fun x576 w575=>
 tE 103 #[.int .i64 6,.int .i64 3,x576.val] w575 fun n579 n580 x581 w578=>
 IxOk x1_1 n_2∧
 ∃ n582:Int,w578.cell? ((elA x1_1 n_2 5).add 1)=some (.int .i64 n582)∧
 tE 157 #[.int .i64 0] w578 fun n585 n586 x587 w584=>
 Sub w578 w584∧
 tE 209 #[.pointer (some (a_0.add 0)),.agg #[x1_0.val,x1_1.val],x1.val,.int .i64 n582,.int .i64 4] w584 fun n590 n591 x592 w589=>
 bS 40 3 #[(0,(.agg #[.int .i64 n585,.int .i64 n586,x587.val])),(1,(.agg #[.int .i64 n590,.int .i64 n591,x592.val])),(2,(.agg #[.int .i64 n579,.int .i64 n580,x581.val]))] w589 fun x595 w594=>
 tE 103 #[.int .i64 8,.int .i64 3,x595.val] w594 fun n598 n599 x600 w597=>
 Q (.agg #[.int .i64 n598,.int .i64 n599,x600.val]) w597)∧
 ((decide (n556=3))=false→
 IxOk x1_1 n_2∧
 ∃ n601:Int,w552.cell? ((elA x1_1 n_2 5).add 1)=some (.int .i64 n601)∧
 tE 157 #[.int .i64 0] w552 fun n604 n605 x606 w603=>
 Sub w552 w603∧
 tE 209 #[.pointer (some (a_0.add 0)),.agg #[x1_0.val,x1_1.val],x1.val,.int .i64 n601,.int .i64 4] w603 fun n609 n610 x611 w608=>
 bS 40 3 #[(0,(.agg #[.int .i64 n604,.int .i64 n605,x606.val])),(1,(.agg #[.int .i64 n609,.int .i64 n610,x611.val])),(2,(.agg #[.int .i64 n553,.int .i64 n554,x555.val]))] w608 fun x614 w613=>
 tE 103 #[.int .i64 8,.int .i64 3,x614.val] w613 fun n617 n618 x619 w616=>
 Q (.agg #[.int .i64 n617,.int .i64 n618,x619.val]) w616))∧
 Sub w54 w54∧
 bS 68 3 #[(0,(.int .i64 3)),(1,(.int .i64 0)),(2,(.int .i64 3))] w54 fun x622 w621=>
 Sub w54 w621∧
 tS 136 #[x1.val,x622.val] w621 fun x625 w624=>
 Sub w621 w624∧
 tE 209 #[.pointer (some (a_0.add 0)),.agg #[x1_0.val,x1_1.val],x625.val,.int .i64 0,.int .i64 4] w624 fun n628 n629 x630 w627=>
 bS 40 2 #[(0,(.agg #[.int .i64 n628,.int .i64 n629,x630.val])),(1,(.agg #[.int .i64 n55,.int .i64 n56,x57.val]))] w627 fun x633 w632=>
 tE 103 #[.int .i64 1,.int .i64 0,x633.val] w632 fun n636 n637 x638 w635=>
 bS 40 2 #[(0,(.agg #[.int .i64 n50,.int .i64 n51,x52.val])),(1,(.agg #[.int .i64 n636,.int .i64 n637,x638.val]))] w635 fun x641 w640=>
 tE 103 #[.int .i64 1,.int .i64 0,x641.val] w640 fun n644 n645 x646 w643=>
 IxOk x1_1 n_2∧
 ∃ n647:Int,w643.cell? ((elA x1_1 n_2 5).add 1)=some (.int .i64 n647)∧
 ((decide (n647=3))=true→
 ∃ n648:Int,Wr .i64 ((x1.n:Int)+2) n648∧
 bS 68 3 #[(0,(.int .i64 3)),(1,(.int .i64 0)),(2,(.int .i64 3))] w643 fun x651 w650=>
 Sub w643 w650∧
 tS 136 #[x1.val,x651.val] w650 fun x654 w653=>
 Sub w650 w653∧
 tE 209 #[.pointer (some (a_0.add 0)),.agg #[x1_0.val,x1_1.val],x654.val,.int .i64 0,.int .i64 4] w653 fun n657 n658 x659 w656=>
 tE 157 #[.int .i64 n648] w656 fun n662 n663 x664 w661=>
 bS 40 3 #[(0,(.agg #[.int .i64 n50,.int .i64 n51,x52.val])),(1,(.agg #[.int .i64 n657,.int .i64 n658,x659.val])),(2,(.agg #[.int .i64 n662,.int .i64 n663,x664.val]))] w661 fun x667 w666=>
 tE 103 #[.int .i64 6,.int .i64 3,x667.val] w666 fun n670 n671 x672 w669=>
 IxOk x1_1 n_2∧
 ∃ n673:Int,w669.cell? ((elA x1_1 n_2 5).add 1)=some (.int .i64 n673)∧
 tE 157 #[.int .i64 0] w669 fun n676 n677 x678 w675=>
 Sub w669 w675∧
 tE 209 #[.pointer (some (a_0.add 0)),.agg #[x1_0.val,x1_1.val],x1.val,.int .i64 n673,.int .i64 4] w675 fun n681 n682 x683 w680=>
 bS 40 3 #[(0,(.agg #[.int .i64 n676,.int .i64 n677,x678.val])),(1,(.agg #[.int .i64 n681,.int .i64 n682,x683.val])),(2,(.agg #[.int .i64 n670,.int .i64 n671,x672.val]))] w680 fun x686 w685=>
 tE 103 #[.int .i64 8,.int .i64 3,x686.val] w685 fun n689 n690 x691 w688=>
 Q (.agg #[.int .i64 n689,.int .i64 n690,x691.val]) w688)∧
 ((decide (n647=3))=false→
 IxOk x1_1 n_2∧
 ∃ n692:Int,w643.cell? ((elA x1_1 n_2 5).add 1)=some (.int .i64 n692)∧
 tE 157 #[.int .i64 0] w643 fun n695 n696 x697 w694=>
 Sub w643 w694∧
 tE 209 #[.pointer (some (a_0.add 0)),.agg #[x1_0.val,x1_1.val],x1.val,.int .i64 n692,.int .i64 4] w694 fun n700 n701 x702 w699=>
 bS 40 3 #[(0,(.agg #[.int .i64 n695,.int .i64 n696,x697.val])),(1,(.agg #[.int .i64 n700,.int .i64 n701,x702.val])),(2,(.agg #[.int .i64 n644,.int .i64 n645,x646.val]))] w699 fun x705 w704=>
 tE 103 #[.int .i64 8,.int .i64 3,x705.val] w704 fun n708 n709 x710 w707=>
 Q (.agg #[.int .i64 n708,.int .i64 n709,x710.val]) w707))
theorem of166 (a_0:Addr) (x1_0:Sl) (x1_1:Sl) (n_2:Int) (v:World) (Q:QT) (h:vc166 a_0 x1_0 x1_1 n_2 v Q):Trip Tryz.prog 166 #[.pointer (some (a_0.add 0)),.agg #[x1_0.val,x1_1.val],.int .i64 n_2] v Q:=
 trip_of_eq (args:=[.pt a_0 0,.ag [.sl x1_0,.sl x1_1],.num .i64 n_2]) (A:=⟨[(6,[(9,.sl),(10,.sl),(11,.int .i64)],[])],[],[(12,[4,5,12]),(14,[4,5]),(15,[0])],[],psG⟩) Tryz.func166 (by kernel_rfl) (by kernel_rfl) (by kernel_rfl:vc166 a_0 x1_0 x1_1 n_2 v Q=_) h
def vc167 (a_0:Addr) (x1_0:Sl) (x1_1:Sl) (n_2:Int) (v:World) (Q:QT):Prop:=
 IxOk x1_1 n_2∧
 ∃ x1:Sl,v.cell? ((elA x1_1 n_2 5).add 0)=some (x1.val)∧
 tE 157 #[.int .i64 0] v fun n4 n5 x6 w3=>
 tE 156 #[.int .i64 1] w3 fun n9 n10 x11 w8=>
 bS 40 2 #[(0,(.agg #[.int .i64 n4,.int .i64 n5,x6.val])),(1,(.agg #[.int .i64 n9,.int .i64 n10,x11.val]))] w8 fun x14 w13=>
 tE 103 #[.int .i64 2,.int .i64 0,x14.val] w13 fun n17 n18 x19 w16=>
 bS 40 1 #[(0,(.agg #[.int .i64 n17,.int .i64 n18,x19.val]))] w16 fun x22 w21=>
 ∃ I23:Sl→Int→World→Prop,∃ m24:Sl→Int→World→Nat,I23 x22 1 w21∧
 ∀ x25:Sl,∀ n26:Int,∀ w27:World,I23 x25 n26 w27→
 ((decide (n26 < (x1.n:Int)))=true→
 IxOk x1 n26∧
 ∃ n28:Int,w27.cell? ((elA x1 n26 1).add 0)=some (.int .i64 n28)∧
 tE 211 #[.pointer (some (a_0.add 0)),.agg #[x1_0.val,x1_1.val],x1.val,.int .i64 n28] w27 fun n31 n32 x33 w30=>
 bS 40 1 #[(0,(.agg #[.int .i64 n31,.int .i64 n32,x33.val]))] w30 fun x36 w35=>
 StepT Tryz.prog (Builtin.append_ #[40,40] 40 #[(x25.val),(x36.val)]) w35 fun r37 w38=>
 ∃ x39:Sl,r37=x39.val∧
 ∃ n40:Int,Wr .i64 (n26+1) n40∧
 eqS (.sl x1_0)∧
 eqS (.sl x1_1)∧
 eqS (.num .i64 0)∧
 eqS (.num .i64 0)∧
 eqS (.sl (Sl.mk none 0 0))∧
 I23 x39 n40 w38∧
 m24 x39 n40 w38 < m24 x25 n26 w27)∧
 ((decide (n26 < (x1.n:Int)))=false→
 tE 103 #[.int .i64 9,.int .i64 n_2,x25.val] w27 fun n43 n44 x45 w42=>
 IxOk x1_1 n_2∧
 ∃ n46:Int,w42.cell? ((elA x1_1 n_2 5).add 1)=some (.int .i64 n46)∧
 ((decide (n46=1))=true→
 tE 209 #[.pointer (some (a_0.add 0)),.agg #[x1_0.val,x1_1.val],x1.val,.int .i64 0,.int .i64 3] w42 fun n49 n50 x51 w48=>
 bS 40 2 #[(0,(.agg #[.int .i64 n49,.int .i64 n50,x51.val])),(1,(.agg #[.int .i64 n43,.int .i64 n44,x45.val]))] w48 fun x54 w53=>
 tE 103 #[.int .i64 6,.int .i64 1,x54.val] w53 fun n57 n58 x59 w56=>
 tE 156 #[.int .i64 0] w56 fun n62 n63 x64 w61=>
 tE 157 #[.int .i64 0] w61 fun n67 n68 x69 w66=>
 bS 40 2 #[(0,(.agg #[.int .i64 n62,.int .i64 n63,x64.val])),(1,(.agg #[.int .i64 n67,.int .i64 n68,x69.val]))] w66 fun x72 w71=>
 tE 103 #[.int .i64 4,.int .i64 0,x72.val] w71 fun n75 n76 x77 w74=>
 IxOk x1_1 n_2∧
 ∃ n78:Int,w74.cell? ((elA x1_1 n_2 5).add 1)=some (.int .i64 n78)∧
 tE 209 #[.pointer (some (a_0.add 0)),.agg #[x1_0.val,x1_1.val],x1.val,.int .i64 n78,.int .i64 4] w74 fun n81 n82 x83 w80=>
 bS 40 3 #[(0,(.agg #[.int .i64 n75,.int .i64 n76,x77.val])),(1,(.agg #[.int .i64 n57,.int .i64 n58,x59.val])),(2,(.agg #[.int .i64 n81,.int .i64 n82,x83.val]))] w80 fun x86 w85=>
 tE 103 #[.int .i64 7,.int .i64 0,x86.val] w85 fun n89 n90 x91 w88=>
 Q (.agg #[.int .i64 n89,.int .i64 n90,x91.val]) w88)∧
 ((decide (n46=1))=false→
 tE 156 #[.int .i64 0] w42 fun n94 n95 x96 w93=>
 tE 157 #[.int .i64 0] w93 fun n99 n100 x101 w98=>
 bS 40 2 #[(0,(.agg #[.int .i64 n94,.int .i64 n95,x96.val])),(1,(.agg #[.int .i64 n99,.int .i64 n100,x101.val]))] w98 fun x104 w103=>
 tE 103 #[.int .i64 4,.int .i64 0,x104.val] w103 fun n107 n108 x109 w106=>
 IxOk x1_1 n_2∧
 ∃ n110:Int,w106.cell? ((elA x1_1 n_2 5).add 1)=some (.int .i64 n110)∧
 tE 209 #[.pointer (some (a_0.add 0)),.agg #[x1_0.val,x1_1.val],x1.val,.int .i64 n110,.int .i64 4] w106 fun n113 n114 x115 w112=>
 bS 40 3 #[(0,(.agg #[.int .i64 n107,.int .i64 n108,x109.val])),(1,(.agg #[.int .i64 n43,.int .i64 n44,x45.val])),(2,(.agg #[.int .i64 n113,.int .i64 n114,x115.val]))] w112 fun x118 w117=>
 tE 103 #[.int .i64 7,.int .i64 0,x118.val] w117 fun n121 n122 x123 w120=>
 Q (.agg #[.int .i64 n121,.int .i64 n122,x123.val]) w120))
theorem of167 (a_0:Addr) (x1_0:Sl) (x1_1:Sl) (n_2:Int) (v:World) (Q:QT) (h:vc167 a_0 x1_0 x1_1 n_2 v Q):Trip Tryz.prog 167 #[.pointer (some (a_0.add 0)),.agg #[x1_0.val,x1_1.val],.int .i64 n_2] v Q:=
 trip_of_eq (args:=[.pt a_0 0,.ag [.sl x1_0,.sl x1_1],.num .i64 n_2]) (A:=⟨[(4,[(8,.sl),(9,.int .i64)],[])],[],[(6,[]),(9,[]),(11,[])],[],psG⟩) Tryz.func167 (by kernel_rfl) (by kernel_rfl) (by kernel_rfl:vc167 a_0 x1_0 x1_1 n_2 v Q=_) h
def vc168 (a_0:Addr) (x1_0:Sl) (x1_1:Sl) (x_2:Sl) (n_3:Int) (n_4:Int) (v:World) (Q:QT):Prop:=
 tE 209 #[.pointer (some (a_0.add 0)),.agg #[x1_0.val,x1_1.val],x_2.val,.int .i64 n_3,.int .i64 n_4] v fun n3 n4 x5 w2=>
 ∃ I6:Int→Int→Int→Sl→World→Prop,∃ m7:Int→Int→Int→Sl→World→Nat,I6 n_4 n3 n4 x5 w2∧
 ∀ n8:Int,∀ n9:Int,∀ n10:Int,∀ x11:Sl,∀ w12:World,I6 n8 n9 n10 x11 w12→
 ∃ n13:Int,(Trip Tryz.prog 56 #[.agg #[.int .i64 n9,.int .i64 n10,x11.val]] w12 fun r14 w15=>r14=.int .i64 n13∧Sub w12 w15)∧
 (((decide (n13 < 0)) && (decide (n8 > 2)))=true→
 ∃ n16:Int,((2:Int)≠0∧Wr .i64 (Int.tdiv n8 2) n16)∧
 tE 209 #[.pointer (some (a_0.add 0)),.agg #[x1_0.val,x1_1.val],x_2.val,.int .i64 n_3,.int .i64 n16] w12 fun n19 n20 x21 w18=>
 eqS (.sl x1_0)∧
 eqS (.sl x1_1)∧
 eqS (.num .i64 0)∧
 eqS (.num .i64 0)∧
 eqS (.sl (Sl.mk none 0 0))∧
 I6 n16 n19 n20 x21 w18∧
 m7 n16 n19 n20 x21 w18 < m7 n8 n9 n10 x11 w12)∧
 (((decide (n13 < 0)) && (decide (n8 > 2)))=false→
 Q (.agg #[.int .i64 n9,.int .i64 n10,x11.val]) w12)
theorem of168 (a_0:Addr) (x1_0:Sl) (x1_1:Sl) (x_2:Sl) (n_3:Int) (n_4:Int) (v:World) (Q:QT) (h:vc168 a_0 x1_0 x1_1 x_2 n_3 n_4 v Q):Trip Tryz.prog 168 #[.pointer (some (a_0.add 0)),.agg #[x1_0.val,x1_1.val],x_2.val,.int .i64 n_3,.int .i64 n_4] v Q:=
 trip_of_eq (args:=[.pt a_0 0,.ag [.sl x1_0,.sl x1_1],.sl x_2,.num .i64 n_3,.num .i64 n_4]) (A:=⟨[(2,[(4,.int .i64)],[(2,0,.int .i64),(2,1,.int .i64),(2,2,.sl)])],[],[],[],psG⟩) Tryz.func168 (by kernel_rfl) (by kernel_rfl) (by kernel_rfl:vc168 a_0 x1_0 x1_1 x_2 n_3 n_4 v Q=_) h
def vc169 (x_0:Sl) (v:World) (Q:QT):Prop:=
 ((decide ((x_0.n:Int) > 4))=true→
 Q (.bool false) v)∧
 ((decide ((x_0.n:Int) > 4))=false→
 ∃ I1:Int→World→Prop,∃ m2:Int→World→Nat,I1 0 v∧
 ∀ n3:Int,∀ w4:World,I1 n3 w4→
 ((decide (n3 < (x_0.n:Int)))=true→
 IxOk x_0 n3∧
 ldT w4 x_0 n3 fun n5 n6 x7=>
 ∃ q8:Bool,(Trip Tryz.prog 170 #[x_0.val,.int .i64 n5] w4 fun r9 w10=>r9=.bool q8∧Sub w4 w10)∧
 ∃ q11:Bool,((!q8)=false→
 (Trip Tryz.prog 170 #[x_0.val,.int .i64 n6] w4 fun r12 w13=>r12=.bool q11∧Sub w4 w13))∧
 (((((!q8) || (!q11)) || (decide ((x7.n:Int) > 3))) || ((decide ((x7.n:Int) > 0)) && ((!decide (n5=0)) || (!decide (n6=0)))))=true→
 Q (.bool false) w4)∧
 (((((!q8) || (!q11)) || (decide ((x7.n:Int) > 3))) || ((decide ((x7.n:Int) > 0)) && ((!decide (n5=0)) || (!decide (n6=0)))))=false→
 ∃ I14:Int→World→Prop,∃ m15:Int→World→Nat,I14 0 w4∧
 ∀ n16:Int,∀ w17:World,I14 n16 w17→
 ((decide (n16 < (x7.n:Int)))=true→
 IxOk x7 n16∧
 ∃ x18:Sl,w17.cell? ((elA x7 n16 1).add 0)=some (x18.val)∧
 ∃ q19:Bool,((decide ((x18.n:Int) > 3))=false→
 (Trip Tryz.prog 123 #[x_0.val,x18.val] w17 fun r20 w21=>r20=.bool q19∧Sub w17 w21))∧
 (((decide ((x18.n:Int) > 3)) || (!q19))=true→
 Q (.bool false) w17)∧
 (((decide ((x18.n:Int) > 3)) || (!q19))=false→
 ∃ n22:Int,Wr .i64 (n16+1) n22∧
 eqS (.num .i64 n5)∧
 eqS (.num .i64 n6)∧
 eqS (.sl x7)∧
 I14 n22 w17∧
 m15 n22 w17 < m15 n16 w17))∧
 ((decide (n16 < (x7.n:Int)))=false→
 CutOk x_0 0 n3∧
 ∃ I23:Int→World→Prop,∃ m24:Int→World→Nat,I23 0 w17∧
 ∀ n25:Int,∀ w26:World,I23 n25 w26→
 ((decide (n25 < ((x_0.cut 0 n3 3).n:Int)))=true→
 IxOk (x_0.cut 0 n3 3) n25∧
 ldT w26 (x_0.cut 0 n3 3) n25 fun n27 n28 x29=>
 (((((decide ((x7.n:Int)=0)) && (decide ((x29.n:Int)=0))) && (decide (n27=n5))) && (decide (n28=n6)))=true→
 Q (.bool false) w26)∧
 (((((decide ((x7.n:Int)=0)) && (decide ((x29.n:Int)=0))) && (decide (n27=n5))) && (decide (n28=n6)))=false→
 ∃ n30:Int,Wr .i64 (n25+1) n30∧
 eqS (.num .i64 n5)∧
 eqS (.num .i64 n6)∧
 eqS (.sl x7)∧
 I23 n30 w26∧
 m24 n30 w26 < m24 n25 w26))∧
 ((decide (n25 < ((x_0.cut 0 n3 3).n:Int)))=false→
 ∃ n31:Int,Wr .i64 (n3+1) n31∧
 I1 n31 w26∧
 m2 n31 w26 < m2 n3 w4))))∧
 ((decide (n3 < (x_0.n:Int)))=false→
 Q (.bool true) w4))
theorem of169 (x_0:Sl) (v:World) (Q:QT) (h:vc169 x_0 v Q):Trip Tryz.prog 169 #[x_0.val] v Q:=
 trip_of_eq (args:=[.sl x_0]) (A:=⟨[(4,[(14,.int .i64)],[]),(9,[(56,.int .i64)],[]),(15,[(76,.int .i64)],[])],[],[],[],psG⟩) Tryz.func169 (by kernel_rfl) (by kernel_rfl) (by kernel_rfl:vc169 x_0 v Q=_) h
def vc170 (x_0:Sl) (n_1:Int) (v:World) (Q:QT):Prop:=
 Q (.bool ((decide (n_1≥0)) && (decide (n_1≤(x_0.n:Int))))) v
theorem of170 (x_0:Sl) (n_1:Int) (v:World) (Q:QT) (h:vc170 x_0 n_1 v Q):Trip Tryz.prog 170 #[x_0.val,.int .i64 n_1] v Q:=
 trip_of_eq (args:=[.sl x_0,.num .i64 n_1]) (A:=aG) Tryz.func170 (by kernel_rfl) (by kernel_rfl) (by kernel_rfl:vc170 x_0 n_1 v Q=_) h
def vc171 (x0_0:Sl) (x0_1:Sl) (x_1:Sl) (x_2:Sl) (x_3:Sl) (v:World) (Q:QT):Prop:=
 ∃ I1:Int→Int→World→Prop,∃ m2:Int→Int→World→Nat,I1 (-1) 0 v∧
 ∀ n3:Int,∀ n4:Int,∀ w5:World,I1 n3 n4 w5→
 ((decide (n4 < (x_2.n:Int)))=true→
 IxOk x_2 n4∧
 ldT w5 x_2 n4 fun n6 n7 x8=>
 IxOk x_3 n4∧
 ∃ x9:Sl,w5.cell? ((elA x_3 n4 1).add 0)=some (x9.val)∧
 bS 189 2 #[(0,(x_1.val)),(1,(x9.val))] w5 fun x12 w11=>
 Sub w5 w11∧
 tS 212 #[x12.val] w11 fun x15 w14=>
 Sub w11 w14∧
 tI 125 #[.agg #[x0_0.val,x0_1.val],x15.val,.agg #[.int .i64 n6,.int .i64 n7,x8.val]] w14 fun n18 w17=>
 (((decide (n18 < 0)) || ((decide (n4 > 0)) && (!decide (n18=n3))))=true→
 Q (.int .i64 (-1)) w17)∧
 (((decide (n18 < 0)) || ((decide (n4 > 0)) && (!decide (n18=n3))))=false→
 ∃ n19:Int,Wr .i64 (n4+1) n19∧
 eqS (.sl x0_0)∧
 eqS (.sl x0_1)∧
 I1 n18 n19 w17∧
 m2 n18 n19 w17 < m2 n3 n4 w5))∧
 ((decide (n4 < (x_2.n:Int)))=false→
 Q (.int .i64 n3) w5)
theorem of171 (x0_0:Sl) (x0_1:Sl) (x_1:Sl) (x_2:Sl) (x_3:Sl) (v:World) (Q:QT) (h:vc171 x0_0 x0_1 x_1 x_2 x_3 v Q):Trip Tryz.prog 171 #[.agg #[x0_0.val,x0_1.val],x_1.val,x_2.val,x_3.val] v Q:=
 trip_of_eq (args:=[.ag [.sl x0_0,.sl x0_1],.sl x_1,.sl x_2,.sl x_3]) (A:=⟨[(3,[(9,.int .i64),(15,.int .i64)],[])],[],[(5,[6,7])],[],psG⟩) Tryz.func171 (by kernel_rfl) (by kernel_rfl) (by kernel_rfl:vc171 x0_0 x0_1 x_1 x_2 x_3 v Q=_) h
def vc172 (x_0:Sl) (n_1:Int) (v:World) (Q:QT):Prop:=
 (((decide (n_1 < 1)) || (decide (n_1 > (x_0.n:Int))))=true→
 Q (.slice none 0 0) v)∧
 (((decide (n_1 < 1)) || (decide (n_1 > (x_0.n:Int))))=false→
 ∃ n1:Int,Wr .i64 (n_1 - 1) n1∧
 CutOk x_0 0 n1∧
 ∃ n2:Int,(Trip Tryz.prog 213 #[(x_0.cut 0 n1 3).val] v fun r3 w4=>r3=.int .i64 n2∧Sub v w4)∧
 ∃ n5:Int,Wr .i64 (n_1 - 1) n5∧
 IxOk x_0 n5∧
 ∃ x6:Sl,v.cell? ((elA x_0 n5 3).add 2)=some (x6.val)∧
 ∃ I7:Sl→Int→World→Prop,∃ m8:Sl→Int→World→Nat,I7 (Sl.mk none 0 0) 0 v∧
 ∀ x9:Sl,∀ n10:Int,∀ w11:World,I7 x9 n10 w11→
 ((decide (n10 < (x6.n:Int)))=true→
 ∃ n12:Int,Wr .i64 (n2+n10) n12∧
 bS 68 1 #[(0,(.int .i64 n12))] w11 fun x15 w14=>
 StepT Tryz.prog (Builtin.append_ #[68,68] 68 #[(x9.val),(x15.val)]) w14 fun r16 w17=>
 ∃ x18:Sl,r16=x18.val∧
 ∃ n19:Int,Wr .i64 (n10+1) n19∧
 I7 x18 n19 w17∧
 m8 x18 n19 w17 < m8 x9 n10 w11)∧
 ((decide (n10 < (x6.n:Int)))=false→
 Q (x9.val) w11))
theorem of172 (x_0:Sl) (n_1:Int) (v:World) (Q:QT) (h:vc172 x_0 n_1 v Q):Trip Tryz.prog 172 #[x_0.val,.int .i64 n_1] v Q:=
 trip_of_eq (args:=[.sl x_0,.num .i64 n_1]) (A:=⟨[(6,[(6,.sl),(28,.int .i64)],[])],[],[],[],psG⟩) Tryz.func172 (by kernel_rfl) (by kernel_rfl) (by kernel_rfl:vc172 x_0 n_1 v Q=_) h
def vc173 (x_0:Sl) (n_1:Int) (v:World) (Q:QT):Prop:=
 ∃ n1:Int,∃ x2:Sl,(Trip Tryz.prog 214 #[x_0.val,.int .i64 n_1] v fun r3 w4=>r3=.tuple #[.int .i64 n1,.agg #[x2.val]]∧Sub v w4)∧
 Q (x2.val) v
theorem of173 (x_0:Sl) (n_1:Int) (v:World) (Q:QT) (h:vc173 x_0 n_1 v Q):Trip Tryz.prog 173 #[x_0.val,.int .i64 n_1] v Q:=
 trip_of_eq (args:=[.sl x_0,.num .i64 n_1]) (A:=aG) Tryz.func173 (by kernel_rfl) (by kernel_rfl) (by kernel_rfl:vc173 x_0 n_1 v Q=_) h
def vc174 (x0_0:Sl) (x0_1:Sl) (n_1:Int) (n_2:Int) (x_3:Sl) (v:World) (Q:QT):Prop:=
 ((decide (n_1=0))=true→
 Q (.tuple #[.int .i64 0,.bool (((decide (n_2≥(-999))) && (decide (n_2≤999))) && (decide ((x_3.n:Int)=0)))]) v)∧
 ((decide (n_1=0))=false→
 ((decide (n_1=1))=true→
 bS 68 2 #[(0,(.int .i64 0)),(1,(.int .i64 0))] v fun x3 w2=>
 ∃ q4:Bool,((decide (n_2=0))=true→
 (Trip Tryz.prog 216 #[x_3.val,x3.val] w2 fun r5 w6=>r5=.bool q4∧Sub w2 w6))∧
 Q (.tuple #[.int .i64 0,.bool ((decide (n_2=0)) && q4)]) w2)∧
 ((decide (n_1=1))=false→
 ((decide (n_1=2))=true→
 bS 68 2 #[(0,(.int .i64 0)),(1,(.int .i64 0))] v fun x9 w8=>
 ∃ q10:Bool,((decide (n_2=0))=true→
 (Trip Tryz.prog 216 #[x_3.val,x9.val] w8 fun r11 w12=>r11=.bool q10∧Sub w8 w12))∧
 Q (.tuple #[.int .i64 0,.bool ((decide (n_2=0)) && q10)]) w8)∧
 ((decide (n_1=2))=false→
 ((decide (n_1=3))=true→
 bS 68 2 #[(0,(.int .i64 0)),(1,(.int .i64 0))] v fun x15 w14=>
 ∃ q16:Bool,((decide (n_2=0))=true→
 (Trip Tryz.prog 216 #[x_3.val,x15.val] w14 fun r17 w18=>r17=.bool q16∧Sub w14 w18))∧
 Q (.tuple #[.int .i64 0,.bool ((decide (n_2=0)) && q16)]) w14)∧
 ((decide (n_1=3))=false→
 ((decide (n_1=4))=true→
 bS 68 2 #[(0,(.int .i64 0)),(1,(.int .i64 0))] v fun x21 w20=>
 ∃ q22:Bool,((decide (n_2=0))=true→
 (Trip Tryz.prog 216 #[x_3.val,x21.val] w20 fun r23 w24=>r23=.bool q22∧Sub w20 w24))∧
 Q (.tuple #[.int .i64 0,.bool ((decide (n_2=0)) && q22)]) w20)∧
 ((decide (n_1=4))=false→
 ((decide (n_1=5))=true→
 bS 68 1 #[(0,(.int .i64 0))] v fun x27 w26=>
 ∃ q28:Bool,((decide (n_2=0))=true→
 (Trip Tryz.prog 216 #[x_3.val,x27.val] w26 fun r29 w30=>r29=.bool q28∧Sub w26 w30))∧
 Q (.tuple #[.int .i64 0,.bool ((decide (n_2=0)) && q28)]) w26)∧
 ((decide (n_1=5))=false→
 ((decide (n_1=11))=true→
 ((!decide ((x_3.n:Int)=2))=true→
 Q (.tuple #[.int .i64 (-1),.bool false]) v)∧
 ((!decide ((x_3.n:Int)=2))=false→
 IxOk x_3 0∧
 ∃ n31:Int,v.cell? ((elA x_3 0 1).add 0)=some (.int .i64 n31)∧
 ∃ n32:Int,∃ n33:Int,∃ x34:Sl,∃ q35:Bool,(Trip Tryz.prog 215 #[x0_0.val,.int .i64 n31] v fun r36 w37=>r36=.tuple #[.agg #[.int .i64 n32,.int .i64 n33,x34.val],.bool q35]∧Sub v w37)∧
 Sub v v∧
 (q35=true→
 IxOk x_3 1)∧
 ∃ n38:Int,(q35=true→
 v.cell? ((elA x_3 1 1).add 0)=some (.int .i64 n38))∧
 Q (.tuple #[.int .i64 n33,.bool ((q35 && (decide (n38=n32))) && (decide (n_2=0)))]) v))∧
 ((decide (n_1=11))=false→
 ((decide (n_1=6))=true→
 ∃ n39:Int,∃ x40:Sl,(Trip Tryz.prog 214 #[x0_0.val,.int .i64 n_2] v fun r41 w42=>r41=.tuple #[.int .i64 n39,.agg #[x40.val]]∧Sub v w42)∧
 ∃ q43:Bool,((decide (n39≥0))=true→
 (Trip Tryz.prog 216 #[x_3.val,x40.val] v fun r44 w45=>r44=.bool q43∧Sub v w45))∧
 Q (.tuple #[.int .i64 n39,.bool ((decide (n39≥0)) && q43)]) v)∧
 ((decide (n_1=6))=false→
 ((decide (n_1=9))=true→
 (((decide (n_2 < 0)) || (decide (n_2≥(x0_1.n:Int))))=true→
 Q (.tuple #[.int .i64 (-1),.bool false]) v)∧
 (((decide (n_2 < 0)) || (decide (n_2≥(x0_1.n:Int))))=false→
 IxOk x0_1 n_2∧
 ∃ x46:Sl,v.cell? ((elA x0_1 n_2 3).add 0)=some (x46.val)∧
 IxOk x0_1 n_2∧
 ∃ n47:Int,v.cell? ((elA x0_1 n_2 3).add 2)=some (.int .i64 n47)∧
 ((decide (n_1=9))=true→
 ∃ q48:Bool,(Trip Tryz.prog 216 #[x_3.val,x46.val] v fun r49 w50=>r49=.bool q48∧Sub v w50)∧
 Q (.tuple #[.int .i64 n47,.bool q48]) v)∧
 ((decide (n_1=9))=false→
 ∃ n51:Int,Wr .i64 ((x46.n:Int) - 1) n51∧
 ((decide (n51 < 0))=true→
 Q (.tuple #[.int .i64 (-1),.bool false]) v)∧
 ((decide (n51 < 0))=false→
 IxOk x46 n51∧
 ∃ n52:Int,v.cell? ((elA x46 n51 1).add 0)=some (.int .i64 n52)∧
 ∃ n53:Int,(Trip Tryz.prog 217 #[x0_0.val,.int .i64 n52,.int .i64 n47] v fun r54 w55=>r54=.int .i64 n53∧Sub v w55)∧
 ((decide (n53≥0))=true→
 CutOk x46 0 n51)∧
 ∃ q56:Bool,((decide (n53≥0))=true→
 (Trip Tryz.prog 216 #[x_3.val,(x46.cut 0 n51 1).val] v fun r57 w58=>r57=.bool q56∧Sub v w58))∧
 Q (.tuple #[.int .i64 n53,.bool ((decide (n53≥0)) && q56)]) v))))∧
 ((decide (n_1=9))=false→
 ((decide (n_1=10))=true→
 (((decide (n_2 < 0)) || (decide (n_2≥(x0_1.n:Int))))=true→
 Q (.tuple #[.int .i64 (-1),.bool false]) v)∧
 (((decide (n_2 < 0)) || (decide (n_2≥(x0_1.n:Int))))=false→
 IxOk x0_1 n_2∧
 ∃ x59:Sl,v.cell? ((elA x0_1 n_2 3).add 0)=some (x59.val)∧
 IxOk x0_1 n_2∧
 ∃ n60:Int,v.cell? ((elA x0_1 n_2 3).add 2)=some (.int .i64 n60)∧
 ((decide (n_1=9))=true→
 ∃ q61:Bool,(Trip Tryz.prog 216 #[x_3.val,x59.val] v fun r62 w63=>r62=.bool q61∧Sub v w63)∧
 Q (.tuple #[.int .i64 n60,.bool q61]) v)∧
 ((decide (n_1=9))=false→
 ∃ n64:Int,Wr .i64 ((x59.n:Int) - 1) n64∧
 ((decide (n64 < 0))=true→
 Q (.tuple #[.int .i64 (-1),.bool false]) v)∧
 ((decide (n64 < 0))=false→
 IxOk x59 n64∧
 ∃ n65:Int,v.cell? ((elA x59 n64 1).add 0)=some (.int .i64 n65)∧
 ∃ n66:Int,(Trip Tryz.prog 217 #[x0_0.val,.int .i64 n65,.int .i64 n60] v fun r67 w68=>r67=.int .i64 n66∧Sub v w68)∧
 ((decide (n66≥0))=true→
 CutOk x59 0 n64)∧
 ∃ q69:Bool,((decide (n66≥0))=true→
 (Trip Tryz.prog 216 #[x_3.val,(x59.cut 0 n64 1).val] v fun r70 w71=>r70=.bool q69∧Sub v w71))∧
 Q (.tuple #[.int .i64 n66,.bool ((decide (n66≥0)) && q69)]) v))))∧
 ((decide (n_1=10))=false→
 Q (.tuple #[.int .i64 (-1),.bool false]) v))))))))))
theorem of174 (x0_0:Sl) (x0_1:Sl) (n_1:Int) (n_2:Int) (x_3:Sl) (v:World) (Q:QT) (h:vc174 x0_0 x0_1 n_1 n_2 x_3 v Q):Trip Tryz.prog 174 #[.agg #[x0_0.val,x0_1.val],.int .i64 n_1,.int .i64 n_2,x_3.val] v Q:=
 trip_of_eq (args:=[.ag [.sl x0_0,.sl x0_1],.num .i64 n_1,.num .i64 n_2,.sl x_3]) (A:=⟨[],[],[(16,[9])],[999999],psG⟩) Tryz.func174 (by kernel_rfl) (by kernel_rfl) (by kernel_rfl:vc174 x0_0 x0_1 n_1 n_2 x_3 v Q=_) h
def vc177 (x_0:Sl) (n_1:Int) (v:World) (Q:QT):Prop:=
 IxOk x_0 n_1∧
 ldT v x_0 n_1 fun n1 n2 x3=>
 ((decide ((x3.n:Int) > 0))=true→
 ((((decide ((x3.n:Int) > 3)) || (!decide (n1=0))) || (!decide (n2=0)))=true→
 Q (.bool false) v)∧
 ((((decide ((x3.n:Int) > 3)) || (!decide (n1=0))) || (!decide (n2=0)))=false→
 ∃ I4:Int→World→Prop,∃ m5:Int→World→Nat,I4 0 v∧
 ∀ n6:Int,∀ w7:World,I4 n6 w7→
 ((decide (n6 < (x3.n:Int)))=true→
 IxOk x3 n6∧
 ∃ x8:Sl,w7.cell? ((elA x3 n6 1).add 0)=some (x8.val)∧
 ((decide ((x8.n:Int) > 3))=false→
 IxOk x3 n6)∧
 ∃ x9:Sl,((decide ((x8.n:Int) > 3))=false→
 w7.cell? ((elA x3 n6 1).add 0)=some (x9.val))∧
 ∃ q10:Bool,((decide ((x8.n:Int) > 3))=false→
 (Trip Tryz.prog 131 #[x_0.val,x9.val] w7 fun r11 w12=>r11=.bool q10∧Sub w7 w12))∧
 (((decide ((x8.n:Int) > 3)) || (!q10))=true→
 Q (.bool false) w7)∧
 (((decide ((x8.n:Int) > 3)) || (!q10))=false→
 ∃ n13:Int,Wr .i64 (n6+1) n13∧
 eqS (.num .i64 n1)∧
 eqS (.num .i64 n2)∧
 eqS (.sl x3)∧
 I4 n13 w7∧
 m5 n13 w7 < m5 n6 w7))∧
 ((decide (n6 < (x3.n:Int)))=false→
 Q (.bool true) w7)))∧
 ((decide ((x3.n:Int) > 0))=false→
 ∃ I14:Int→World→Prop,∃ m15:Int→World→Nat,I14 0 v∧
 ∀ n16:Int,∀ w17:World,I14 n16 w17→
 ((decide (n16 < n_1))=true→
 IxOk x_0 n16∧
 ∃ x18:Sl,w17.cell? ((elA x_0 n16 3).add 2)=some (x18.val)∧
 ((decide ((x18.n:Int)=0))=true→
 IxOk x_0 n16)∧
 ∃ n19:Int,((decide ((x18.n:Int)=0))=true→
 w17.cell? ((elA x_0 n16 3).add 0)=some (.int .i64 n19))∧
 (((decide ((x18.n:Int)=0)) && (decide (n19=n1)))=true→
 IxOk x_0 n16)∧
 ∃ n20:Int,(((decide ((x18.n:Int)=0)) && (decide (n19=n1)))=true→
 w17.cell? ((elA x_0 n16 3).add 1)=some (.int .i64 n20))∧
 ((((decide ((x18.n:Int)=0)) && (decide (n19=n1))) && (decide (n20=n2)))=true→
 Q (.bool false) w17)∧
 ((((decide ((x18.n:Int)=0)) && (decide (n19=n1))) && (decide (n20=n2)))=false→
 ∃ n21:Int,Wr .i64 (n16+1) n21∧
 eqS (.num .i64 n1)∧
 eqS (.num .i64 n2)∧
 eqS (.sl x3)∧
 I14 n21 w17∧
 m15 n21 w17 < m15 n16 w17))∧
 ((decide (n16 < n_1))=false→
 ∃ q22:Bool,(Trip Tryz.prog 107 #[.int .i64 n1,.int .i64 0,.int .i64 (x_0.n:Int)] w17 fun r23 w24=>r23=.bool q22∧Sub w17 w24)∧
 ∃ q25:Bool,(q22=true→
 (Trip Tryz.prog 107 #[.int .i64 n2,.int .i64 0,.int .i64 (x_0.n:Int)] w17 fun r26 w27=>r26=.bool q25∧Sub w17 w27))∧
 Q (.bool (q22 && q25)) w17))
theorem of177 (x_0:Sl) (n_1:Int) (v:World) (Q:QT) (h:vc177 x_0 n_1 v Q):Trip Tryz.prog 177 #[x_0.val,.int .i64 n_1] v Q:=
 trip_of_eq (args:=[.sl x_0,.num .i64 n_1]) (A:=⟨[(6,[(6,.int .i64)],[]),(12,[(7,.int .i64)],[])],[],[],[],psG⟩) Tryz.func177 (by kernel_rfl) (by kernel_rfl) (by kernel_rfl:vc177 x_0 n_1 v Q=_) h
def vc178 (x_0:Sl) (n_1:Int) (v:World) (Q:QT):Prop:=
 ∃ I1:Int→Int→World→Prop,∃ m2:Int→Int→World→Nat,I1 0 0 v∧
 ∀ n3:Int,∀ n4:Int,∀ w5:World,I1 n3 n4 w5→
 ((decide (n4 < n_1))=true→
 IxOk x_0 n4∧
 ∃ x6:Sl,w5.cell? ((elA x_0 n4 3).add 2)=some (x6.val)∧
 ∃ n7:Int,Wr .i64 (n3+(x6.n:Int)) n7∧
 ∃ n8:Int,Wr .i64 (n4+1) n8∧
 I1 n7 n8 w5∧
 m2 n7 n8 w5 < m2 n3 n4 w5)∧
 ((decide (n4 < n_1))=false→
 Q (.int .i64 n3) w5)
theorem of178 (x_0:Sl) (n_1:Int) (v:World) (Q:QT) (h:vc178 x_0 n_1 v Q):Trip Tryz.prog 178 #[x_0.val,.int .i64 n_1] v Q:=
 trip_of_eq (args:=[.sl x_0,.num .i64 n_1]) (A:=⟨[(3,[(5,.int .i64),(6,.int .i64)],[])],[],[],[],psG⟩) Tryz.func178 (by kernel_rfl) (by kernel_rfl) (by kernel_rfl:vc178 x_0 n_1 v Q=_) h
def vc179 (x_0:Sl) (v:World) (Q:QT):Prop:=
 bS 68 0 #[] v fun x3 w2=>
 StepT Tryz.prog (Builtin.append_ #[68,68] 68 #[(x3.val),(x_0.val)]) w2 fun r4 w5=>
 ∃ x6:Sl,r4=x6.val∧
 Q (x6.val) w5
theorem of179 (x_0:Sl) (v:World) (Q:QT) (h:vc179 x_0 v Q):Trip Tryz.prog 179 #[x_0.val] v Q:=
 trip_of_eq (args:=[.sl x_0]) (A:=aG) Tryz.func179 (by kernel_rfl) (by kernel_rfl) (by kernel_rfl:vc179 x_0 v Q=_) h
def vc180 (x_0:Sl) (n_1:Int) (v:World) (Q:QT):Prop:=
 bS 68 0 #[] v fun x3 w2=>
 ∃ q4:Bool,(Trip Tryz.prog 107 #[.int .i64 n_1,.int .i64 1,.int .i64 (x_0.n:Int)] w2 fun r5 w6=>r5=.bool q4∧Sub w2 w6)∧
 ((!q4)=true→
 Q (x3.val) w2)∧
 ((!q4)=false→
 ∃ I7:Sl→Int→World→Prop,∃ m8:Sl→Int→World→Nat,I7 x3 0 w2∧
 ∀ x9:Sl,∀ n10:Int,∀ w11:World,I7 x9 n10 w11→
 ∃ n12:Int,Wr .i64 (n_1 - 1) n12∧
 IxOk x_0 n12∧
 ∃ x13:Sl,w11.cell? ((elA x_0 n12 3).add 2)=some (x13.val)∧
 ((decide (n10 < (x13.n:Int)))=true→
 ∃ n14:Int,Wr .i64 (n_1 - 1) n14∧
 ∃ n15:Int,(Trip Tryz.prog 178 #[x_0.val,.int .i64 n14] w11 fun r16 w17=>r16=.int .i64 n15∧Sub w11 w17)∧
 ∃ n18:Int,Wr .i64 (n15+n10) n18∧
 bS 68 1 #[(0,(.int .i64 n18))] w11 fun x21 w20=>
 StepT Tryz.prog (Builtin.append_ #[68,68] 68 #[(x9.val),(x21.val)]) w20 fun r22 w23=>
 ∃ x24:Sl,r22=x24.val∧
 ∃ n25:Int,Wr .i64 (n10+1) n25∧
 I7 x24 n25 w23∧
 m8 x24 n25 w23 < m8 x9 n10 w11)∧
 ((decide (n10 < (x13.n:Int)))=false→
 Q (x9.val) w11))
theorem of180 (x_0:Sl) (n_1:Int) (v:World) (Q:QT) (h:vc180 x_0 n_1 v Q):Trip Tryz.prog 180 #[x_0.val,.int .i64 n_1] v Q:=
 trip_of_eq (args:=[.sl x_0,.num .i64 n_1]) (A:=⟨[(5,[(5,.sl),(6,.int .i64)],[])],[],[],[],psG⟩) Tryz.func180 (by kernel_rfl) (by kernel_rfl) (by kernel_rfl:vc180 x_0 n_1 v Q=_) h
def vc181 (x_0:Sl) (n_1:Int) (n_2:Int) (v:World) (Q:QT):Prop:=
 ∃ I1:Int→World→Prop,∃ m2:Int→World→Nat,I1 0 v∧
 ∀ n3:Int,∀ w4:World,I1 n3 w4→
 ((decide (n3 < (x_0.n:Int)))=true→
 IxOk x_0 n3∧
 ∃ x5:Sl,w4.cell? ((elA x_0 n3 3).add 2)=some (x5.val)∧
 ((decide ((x5.n:Int)=0))=true→
 IxOk x_0 n3)∧
 ∃ n6:Int,((decide ((x5.n:Int)=0))=true→
 w4.cell? ((elA x_0 n3 3).add 0)=some (.int .i64 n6))∧
 (((decide ((x5.n:Int)=0)) && (decide (n6=n_1)))=true→
 IxOk x_0 n3)∧
 ∃ n7:Int,(((decide ((x5.n:Int)=0)) && (decide (n6=n_1)))=true→
 w4.cell? ((elA x_0 n3 3).add 1)=some (.int .i64 n7))∧
 ((((decide ((x5.n:Int)=0)) && (decide (n6=n_1))) && (decide (n7=n_2)))=true→
 ∃ n8:Int,Wr .i64 (n3+1) n8∧
 Q (.int .i64 n8) w4)∧
 ((((decide ((x5.n:Int)=0)) && (decide (n6=n_1))) && (decide (n7=n_2)))=false→
 ∃ n9:Int,Wr .i64 (n3+1) n9∧
 I1 n9 w4∧
 m2 n9 w4 < m2 n3 w4))∧
 ((decide (n3 < (x_0.n:Int)))=false→
 Q (.int .i64 (-1)) w4)
theorem of181 (x_0:Sl) (n_1:Int) (n_2:Int) (v:World) (Q:QT) (h:vc181 x_0 n_1 n_2 v Q):Trip Tryz.prog 181 #[x_0.val,.int .i64 n_1,.int .i64 n_2] v Q:=
 trip_of_eq (args:=[.sl x_0,.num .i64 n_1,.num .i64 n_2]) (A:=⟨[(2,[(7,.int .i64)],[])],[],[],[],psG⟩) Tryz.func181 (by kernel_rfl) (by kernel_rfl) (by kernel_rfl:vc181 x_0 n_1 n_2 v Q=_) h
def vc200 (n0_0:Int) (n0_1:Int) (x0_2:Sl) (v:World) (Q:QT):Prop:=
 tS 155 #[x0_2.val] v fun x3 w2=>
 Sub v w2∧
 Q (.agg #[.int .i64 n0_0,.int .i64 n0_1,x3.val]) w2
theorem of200 (n0_0:Int) (n0_1:Int) (x0_2:Sl) (v:World) (Q:QT) (h:vc200 n0_0 n0_1 x0_2 v Q):Trip Tryz.prog 200 #[.agg #[.int .i64 n0_0,.int .i64 n0_1,x0_2.val]] v Q:=
 trip_of_eq (args:=[.ag [.num .i64 n0_0,.num .i64 n0_1,.sl x0_2]]) (A:=⟨[],[],[(1,[6])],[],psG⟩) Tryz.func200 (by kernel_rfl) (by kernel_rfl) (by kernel_rfl:vc200 n0_0 n0_1 x0_2 v Q=_) h
def vc209 (a_0:Addr) (x1_0:Sl) (x1_1:Sl) (x_2:Sl) (n_3:Int) (n_4:Int) (v:World) (Q:QT):Prop:=
 ((decide (n_4 < 3))=true→
 tE 211 #[.pointer (some (a_0.add 0)),.agg #[x1_0.val,x1_1.val],x_2.val,.int .i64 n_3] v fun n3 n4 x5 w2=>
 Q (.agg #[.int .i64 n3,.int .i64 n4,x5.val]) w2)∧
 ((decide (n_4 < 3))=false→
 tI 61 #[.pointer (some (a_0.add 0)),.int .i64 12] v fun n8 w7=>
 ((decide (n8=0))=true→
 tE 211 #[.pointer (some (a_0.add 0)),.agg #[x1_0.val,x1_1.val],x_2.val,.int .i64 n_3] w7 fun n11 n12 x13 w10=>
 Q (.agg #[.int .i64 n11,.int .i64 n12,x13.val]) w10)∧
 ((decide (n8=0))=false→
 ∃ J14:Bool→World→Prop,(((decide (n8=1))=true→
 eqS (.sl x1_0)∧
 eqS (.sl x1_1)∧
 eqS (.num .i64 0)∧
 eqS (.num .i64 0)∧
 eqS (.sl (Sl.mk none 0 0))∧
 J14 (decide (n8=1)) w7)∧
 ((decide (n8=1))=false→
 eqS (.sl x1_0)∧
 eqS (.sl x1_1)∧
 eqS (.num .i64 0)∧
 eqS (.num .i64 0)∧
 eqS (.sl (Sl.mk none 0 0))∧
 J14 (decide (n8=2)) w7))∧
 ∀ q15:Bool,∀ w16:World,J14 q15 w16→
 (q15=true→
 tI 236 #[.pointer (some (a_0.add 0)),.agg #[x1_0.val,x1_1.val],x_2.val] w16 fun n19 w18=>
 ∃ n20:Int,((2:Int)≠0∧Wr .i64 (Int.tdiv n_4 2) n20)∧
 ∃ n21:Int,((2:Int)≠0∧Wr .i64 (Int.tdiv n_4 2) n21)∧
 (tE 209 #[.pointer (some (a_0.add 0)),.agg #[x1_0.val,x1_1.val],x_2.val,.int .i64 n19,.int .i64 n20] w18 fun n24 n25 x26 w23=>
 bS 68 1 #[(0,(.int .i64 n19))] w23 fun x29 w28=>
 Sub w23 w28∧
 tS 136 #[x_2.val,x29.val] w28 fun x32 w31=>
 tE 209 #[.pointer (some (a_0.add 0)),.agg #[x1_0.val,x1_1.val],x32.val,.int .i64 n_3,.int .i64 n21] w31 fun n35 n36 x37 w34=>
 bS 40 2 #[(0,(.agg #[.int .i64 n24,.int .i64 n25,x26.val])),(1,(.agg #[.int .i64 n35,.int .i64 n36,x37.val]))] w34 fun x40 w39=>
 tE 103 #[.int .i64 13,.int .i64 0,x40.val] w39 fun n43 n44 x45 w42=>
 Q (.agg #[.int .i64 n43,.int .i64 n44,x45.val]) w42)∧
 bS 68 1 #[(0,(.int .i64 n19))] w18 fun x48 w47=>
 Sub w18 w47∧
 tE 209 #[.pointer (some (a_0.add 0)),.agg #[x1_0.val,x1_1.val],x_2.val,.int .i64 n19,.int .i64 n20] w47 fun n51 n52 x53 w50=>
 tS 136 #[x_2.val,x48.val] w50 fun x56 w55=>
 tE 209 #[.pointer (some (a_0.add 0)),.agg #[x1_0.val,x1_1.val],x56.val,.int .i64 n_3,.int .i64 n21] w55 fun n59 n60 x61 w58=>
 bS 40 2 #[(0,(.agg #[.int .i64 n51,.int .i64 n52,x53.val])),(1,(.agg #[.int .i64 n59,.int .i64 n60,x61.val]))] w58 fun x64 w63=>
 tE 103 #[.int .i64 13,.int .i64 0,x64.val] w63 fun n67 n68 x69 w66=>
 Q (.agg #[.int .i64 n67,.int .i64 n68,x69.val]) w66)∧
 (q15=false→
 ((decide (n8=3))=true→
 bS 68 3 #[(0,(.int .i64 0)),(1,(.int .i64 n_3)),(2,(.int .i64 n_3))] w16 fun x72 w71=>
 ∃ n73:Int,Wr .i64 (n_4 - 1) n73∧
 tS 237 #[.pointer (some (a_0.add 0)),.agg #[x1_0.val,x1_1.val],x_2.val,x72.val,.int .i64 n73] w71 fun x76 w75=>
 tE 103 #[.int .i64 7,.int .i64 0,x76.val] w75 fun n79 n80 x81 w78=>
 Q (.agg #[.int .i64 n79,.int .i64 n80,x81.val]) w78)∧
 ((decide (n8=3))=false→
 ∃ J82:Bool→World→Prop,(((decide (n8=4))=true→
 eqS (.sl x1_0)∧
 eqS (.sl x1_1)∧
 eqS (.num .i64 0)∧
 eqS (.num .i64 0)∧
 eqS (.sl (Sl.mk none 0 0))∧
 J82 (decide (n8=4)) w16)∧
 ((decide (n8=4))=false→
 ((decide (n8=5))=true→
 eqS (.sl x1_0)∧
 eqS (.sl x1_1)∧
 eqS (.num .i64 0)∧
 eqS (.num .i64 0)∧
 eqS (.sl (Sl.mk none 0 0))∧
 J82 (decide (n8=5)) w16)∧
 ((decide (n8=5))=false→
 eqS (.sl x1_0)∧
 eqS (.sl x1_1)∧
 eqS (.num .i64 0)∧
 eqS (.num .i64 0)∧
 eqS (.sl (Sl.mk none 0 0))∧
 J82 (decide (n8=6)) w16)))∧
 ∀ q83:Bool,∀ w84:World,J82 q83 w84→
 (q83=true→
 tE 238 #[.pointer (some (a_0.add 0)),.agg #[x1_0.val,x1_1.val],x_2.val,.int .i64 n_3,.int .i64 n_4] w84 fun n87 n88 x89 w86=>
 Q (.agg #[.int .i64 n87,.int .i64 n88,x89.val]) w86)∧
 (q83=false→
 ∃ J90:Bool→World→Prop,(((decide (n8=7))=true→
 eqS (.sl x1_0)∧
 eqS (.sl x1_1)∧
 eqS (.num .i64 0)∧
 eqS (.num .i64 0)∧
 eqS (.sl (Sl.mk none 0 0))∧
 J90 (decide (n8=7)) w84)∧
 ((decide (n8=7))=false→
 eqS (.sl x1_0)∧
 eqS (.sl x1_1)∧
 eqS (.num .i64 0)∧
 eqS (.num .i64 0)∧
 eqS (.sl (Sl.mk none 0 0))∧
 J90 (decide (n8=8)) w84))∧
 ∀ q91:Bool,∀ w92:World,J90 q91 w92→
 (q91=true→
 tS 239 #[.agg #[x1_0.val,x1_1.val],.int .i64 n_3] w92 fun x95 w94=>
 ((decide ((x95.n:Int) > 0))=true→
 tI 61 #[.pointer (some (a_0.add 0)),.int .i64 (x95.n:Int)] w94 fun n98 w97=>
 IxOk x95 n98∧
 ∃ n99:Int,w97.cell? ((elA x95 n98 1).add 0)=some (.int .i64 n99)∧
 IxOk x1_1 n99∧
 ∃ x100:Sl,w97.cell? ((elA x1_1 n99 5).add 0)=some (x100.val)∧
 ∃ n101:Int,Wr .i64 (n_4 - 1) n101∧
 tS 237 #[.pointer (some (a_0.add 0)),.agg #[x1_0.val,x1_1.val],x_2.val,x100.val,.int .i64 n101] w97 fun x104 w103=>
 tE 103 #[.int .i64 9,.int .i64 n99,x104.val] w103 fun n107 n108 x109 w106=>
 Q (.agg #[.int .i64 n107,.int .i64 n108,x109.val]) w106)∧
 ((decide ((x95.n:Int) > 0))=false→
 tE 240 #[.pointer (some (a_0.add 0)),.agg #[x1_0.val,x1_1.val],x_2.val,.int .i64 n_3,.int .i64 n_4] w94 fun n112 n113 x114 w111=>
 Q (.agg #[.int .i64 n112,.int .i64 n113,x114.val]) w111))∧
 (q91=false→
 tE 240 #[.pointer (some (a_0.add 0)),.agg #[x1_0.val,x1_1.val],x_2.val,.int .i64 n_3,.int .i64 n_4] w92 fun n117 n118 x119 w116=>
 Q (.agg #[.int .i64 n117,.int .i64 n118,x119.val]) w116))))))
theorem of209 (a_0:Addr) (x1_0:Sl) (x1_1:Sl) (x_2:Sl) (n_3:Int) (n_4:Int) (v:World) (Q:QT) (h:vc209 a_0 x1_0 x1_1 x_2 n_3 n_4 v Q):Trip Tryz.prog 209 #[.pointer (some (a_0.add 0)),.agg #[x1_0.val,x1_1.val],x_2.val,.int .i64 n_3,.int .i64 n_4] v Q:=
 trip_of_eq (args:=[.pt a_0 0,.ag [.sl x1_0,.sl x1_1],.sl x_2,.num .i64 n_3,.num .i64 n_4]) (A:=⟨[],[(8,[(30,.bool)],[]),(15,[(68,.bool)],[]),(18,[(78,.bool)],[])],[(9,[11]),(21,[])],[],psG⟩) Tryz.func209 (by kernel_rfl) (by kernel_rfl) (by kernel_rfl:vc209 a_0 x1_0 x1_1 x_2 n_3 n_4 v Q=_) h
def vc210 (a_0:Addr) (n_1:Int) (v:World) (Q:QT):Prop:=
 bS 40 0 #[] v fun x3 w2=>
 tE 103 #[.int .i64 6,.int .i64 0,x3.val] w2 fun n6 n7 x8 w5=>
 ((decide (n_1=3))=true→
 bS 40 0 #[] w5 fun x11 w10=>
 tE 103 #[.int .i64 6,.int .i64 2,x11.val] w10 fun n14 n15 x16 w13=>
 (tI 61 #[.pointer (some (a_0.add 0)),.int .i64 9] w13 fun n19 w18=>
 (tE 156 #[.int .i64 n19] w18 fun n22 n23 x24 w21=>
 (bS 40 3 #[(0,(.agg #[.int .i64 n14,.int .i64 n15,x16.val])),(1,(.agg #[.int .i64 n22,.int .i64 n23,x24.val])),(2,(.agg #[.int .i64 n14,.int .i64 n15,x16.val]))] w21 fun x27 w26=>
 (tE 103 #[.int .i64 6,.int .i64 3,x27.val] w26 fun n30 n31 x32 w29=>
 tI 61 #[.pointer (some (a_0.add 0)),.int .i64 9] w29 fun n35 w34=>
 tE 156 #[.int .i64 n35] w34 fun n38 n39 x40 w37=>
 bS 40 3 #[(0,(.agg #[.int .i64 n30,.int .i64 n31,x32.val])),(1,(.agg #[.int .i64 n38,.int .i64 n39,x40.val])),(2,(.agg #[.int .i64 n14,.int .i64 n15,x16.val]))] w37 fun x43 w42=>
 tE 103 #[.int .i64 6,.int .i64 3,x43.val] w42 fun n46 n47 x48 w45=>
 Q (.agg #[.int .i64 n46,.int .i64 n47,x48.val]) w45)∧
 tE 103 #[.int .i64 6,.int .i64 3,x27.val] w26 fun n51 n52 x53 w50=>
 tI 61 #[.pointer (some (a_0.add 0)),.int .i64 9] w50 fun n56 w55=>
 tE 156 #[.int .i64 n56] w55 fun n59 n60 x61 w58=>
 bS 40 3 #[(0,(.agg #[.int .i64 n51,.int .i64 n52,x53.val])),(1,(.agg #[.int .i64 n59,.int .i64 n60,x61.val])),(2,(.agg #[.int .i64 n14,.int .i64 n15,x16.val]))] w58 fun x64 w63=>
 tE 103 #[.int .i64 6,.int .i64 3,x64.val] w63 fun n67 n68 x69 w66=>
 Q (.agg #[.int .i64 n67,.int .i64 n68,x69.val]) w66)∧
 bS 40 3 #[(0,(.agg #[.int .i64 n14,.int .i64 n15,x16.val])),(1,(.agg #[.int .i64 n22,.int .i64 n23,x24.val])),(2,(.agg #[.int .i64 n14,.int .i64 n15,x16.val]))] w21 fun x72 w71=>
 tE 103 #[.int .i64 6,.int .i64 3,x72.val] w71 fun n75 n76 x77 w74=>
 tI 61 #[.pointer (some (a_0.add 0)),.int .i64 9] w74 fun n80 w79=>
 tE 156 #[.int .i64 n80] w79 fun n83 n84 x85 w82=>
 bS 40 3 #[(0,(.agg #[.int .i64 n75,.int .i64 n76,x77.val])),(1,(.agg #[.int .i64 n83,.int .i64 n84,x85.val])),(2,(.agg #[.int .i64 n14,.int .i64 n15,x16.val]))] w82 fun x88 w87=>
 tE 103 #[.int .i64 6,.int .i64 3,x88.val] w87 fun n91 n92 x93 w90=>
 Q (.agg #[.int .i64 n91,.int .i64 n92,x93.val]) w90)∧
 tE 156 #[.int .i64 n19] w18 fun n96 n97 x98 w95=>
 bS 40 3 #[(0,(.agg #[.int .i64 n14,.int .i64 n15,x16.val])),(1,(.agg #[.int .i64 n96,.int .i64 n97,x98.val])),(2,(.agg #[.int .i64 n14,.int .i64 n15,x16.val]))] w95 fun x101 w100=>
 tE 103 #[.int .i64 6,.int .i64 3,x101.val] w100 fun n104 n105 x106 w103=>
 tI 61 #[.pointer (some (a_0.add 0)),.int .i64 9] w103 fun n109 w108=>
 tE 156 #[.int .i64 n109] w108 fun n112 n113 x114 w111=>
 bS 40 3 #[(0,(.agg #[.int .i64 n104,.int .i64 n105,x106.val])),(1,(.agg #[.int .i64 n112,.int .i64 n113,x114.val])),(2,(.agg #[.int .i64 n14,.int .i64 n15,x16.val]))] w111 fun x117 w116=>
 tE 103 #[.int .i64 6,.int .i64 3,x117.val] w116 fun n120 n121 x122 w119=>
 Q (.agg #[.int .i64 n120,.int .i64 n121,x122.val]) w119)∧
 tI 61 #[.pointer (some (a_0.add 0)),.int .i64 9] w13 fun n125 w124=>
 tE 156 #[.int .i64 n125] w124 fun n128 n129 x130 w127=>
 bS 40 3 #[(0,(.agg #[.int .i64 n14,.int .i64 n15,x16.val])),(1,(.agg #[.int .i64 n128,.int .i64 n129,x130.val])),(2,(.agg #[.int .i64 n14,.int .i64 n15,x16.val]))] w127 fun x133 w132=>
 tE 103 #[.int .i64 6,.int .i64 3,x133.val] w132 fun n136 n137 x138 w135=>
 tI 61 #[.pointer (some (a_0.add 0)),.int .i64 9] w135 fun n141 w140=>
 tE 156 #[.int .i64 n141] w140 fun n144 n145 x146 w143=>
 bS 40 3 #[(0,(.agg #[.int .i64 n136,.int .i64 n137,x138.val])),(1,(.agg #[.int .i64 n144,.int .i64 n145,x146.val])),(2,(.agg #[.int .i64 n14,.int .i64 n15,x16.val]))] w143 fun x149 w148=>
 tE 103 #[.int .i64 6,.int .i64 3,x149.val] w148 fun n152 n153 x154 w151=>
 Q (.agg #[.int .i64 n152,.int .i64 n153,x154.val]) w151)∧
 ((decide (n_1=3))=false→
 tI 61 #[.pointer (some (a_0.add 0)),.int .i64 3] w5 fun n157 w156=>
 ∃ n158:Int,Wr .i64 (1+n157) n158∧
 ∃ I159:Int→Int→Int→Sl→World→Prop,∃ m160:Int→Int→Int→Sl→World→Nat,I159 n158 n6 n7 x8 w156∧
 ∀ n161:Int,∀ n162:Int,∀ n163:Int,∀ x164:Sl,∀ w165:World,I159 n161 n162 n163 x164 w165→
 ((decide (n161 > 0))=true→
 tI 241 #[.pointer (some (a_0.add 0))] w165 fun n168 w167=>
 tE 156 #[.int .i64 n168] w167 fun n171 n172 x173 w170=>
 bS 40 2 #[(0,(.agg #[.int .i64 n171,.int .i64 n172,x173.val])),(1,(.agg #[.int .i64 n162,.int .i64 n163,x164.val]))] w170 fun x176 w175=>
 tE 103 #[.int .i64 6,.int .i64 1,x176.val] w175 fun n179 n180 x181 w178=>
 ∃ n182:Int,Wr .i64 (n161 - 1) n182∧
 eqS (.num .i64 0)∧
 eqS (.num .i64 0)∧
 eqS (.sl (Sl.mk none 0 0))∧
 eqS (.num .i64 n6)∧
 eqS (.num .i64 n7)∧
 eqS (.sl x8)∧
 I159 n182 n179 n180 x181 w178∧
 m160 n182 n179 n180 x181 w178 < m160 n161 n162 n163 x164 w165)∧
 ((decide (n161 > 0))=false→
 Q (.agg #[.int .i64 n162,.int .i64 n163,x164.val]) w165))
theorem of210 (a_0:Addr) (n_1:Int) (v:World) (Q:QT) (h:vc210 a_0 n_1 v Q):Trip Tryz.prog 210 #[.pointer (some (a_0.add 0)),.int .i64 n_1] v Q:=
 trip_of_eq (args:=[.pt a_0 0,.num .i64 n_1]) (A:=⟨[(8,[(9,.int .i64)],[(2,0,.int .i64),(2,1,.int .i64),(2,2,.sl)])],[],[(4,[]),(5,[]),(10,[])],[],psG⟩) Tryz.func210 (by kernel_rfl) (by kernel_rfl) (by kernel_rfl:vc210 a_0 n_1 v Q=_) h
def vc211 (a_0:Addr) (x1_0:Sl) (x1_1:Sl) (x_2:Sl) (n_3:Int) (v:World) (Q:QT):Prop:=
 tS 242 #[x_2.val,.int .i64 n_3] v fun x3 w2=>
 ∃ J4:Bool→World→Prop,(((decide ((x3.n:Int) > 0))=true→
 tI 61 #[.pointer (some (a_0.add 0)),.int .i64 6] w2 fun n7 w6=>
 ((decide (n7 > 0))=false→
 bS 68 0 #[] w6 fun x10 w9=>
 ∃ q11:Bool,((decide (n7 > 0))=false→
 (Trip Tryz.prog 243 #[.agg #[x1_0.val,x1_1.val],x10.val,.int .i64 n_3] w9 fun r12 w13=>r12=.bool q11∧Sub w9 w13))∧
 eqS (.sl x1_0)∧
 eqS (.sl x1_1)∧
 eqS (.num .i64 0)∧
 eqS (.num .i64 0)∧
 eqS (.sl (Sl.mk none 0 0))∧
 J4 ((decide (n7 > 0)) || (!q11)) w9)∧
 ((decide (n7 > 0))=true→
 ∃ q14:Bool,((decide (n7 > 0))=false→
 (Trip Tryz.prog 243 #[.agg #[x1_0.val,x1_1.val],.bool false,.int .i64 n_3] w6 fun r15 w16=>r15=.bool q14∧Sub w6 w16))∧
 eqS (.sl x1_0)∧
 eqS (.sl x1_1)∧
 eqS (.num .i64 0)∧
 eqS (.num .i64 0)∧
 eqS (.sl (Sl.mk none 0 0))∧
 J4 ((decide (n7 > 0)) || (!q14)) w6))∧
 ((decide ((x3.n:Int) > 0))=false→
 eqS (.sl x1_0)∧
 eqS (.sl x1_1)∧
 eqS (.num .i64 0)∧
 eqS (.num .i64 0)∧
 eqS (.sl (Sl.mk none 0 0))∧
 J4 false w2))∧
 ∀ q17:Bool,∀ w18:World,J4 q17 w18→
 (q17=true→
 tI 61 #[.pointer (some (a_0.add 0)),.int .i64 (x3.n:Int)] w18 fun n21 w20=>
 IxOk x3 n21∧
 ∃ n22:Int,w20.cell? ((elA x3 n21 1).add 0)=some (.int .i64 n22)∧
 tE 157 #[.int .i64 n22] w20 fun n25 n26 x27 w24=>
 Q (.agg #[.int .i64 n25,.int .i64 n26,x27.val]) w24)∧
 (q17=false→
 tE 244 #[.pointer (some (a_0.add 0)),.agg #[x1_0.val,x1_1.val],.int .i64 n_3] w18 fun n30 n31 x32 w29=>
 Q (.agg #[.int .i64 n30,.int .i64 n31,x32.val]) w29)
theorem of211 (a_0:Addr) (x1_0:Sl) (x1_1:Sl) (x_2:Sl) (n_3:Int) (v:World) (Q:QT) (h:vc211 a_0 x1_0 x1_1 x_2 n_3 v Q):Trip Tryz.prog 211 #[.pointer (some (a_0.add 0)),.agg #[x1_0.val,x1_1.val],x_2.val,.int .i64 n_3] v Q:=
 trip_of_eq (args:=[.pt a_0 0,.ag [.sl x1_0,.sl x1_1],.sl x_2,.num .i64 n_3]) (A:=⟨[],[(3,[(27,.bool)],[])],[],[],psG⟩) Tryz.func211 (by kernel_rfl) (by kernel_rfl) (by kernel_rfl:vc211 a_0 x1_0 x1_1 x_2 n_3 v Q=_) h
def vc212 (x_0:Sl) (v:World) (Q:QT):Prop:=
 ∃ I1:Int→Int→World→Prop,∃ m2:Int→Int→World→Nat,I1 0 0 v∧
 ∀ n3:Int,∀ n4:Int,∀ w5:World,I1 n3 n4 w5→
 ((decide (n4 < (x_0.n:Int)))=true→
 IxOk x_0 n4∧
 ∃ x6:Sl,w5.cell? ((elA x_0 n4 1).add 0)=some (x6.val)∧
 ∃ n7:Int,Wr .i64 (n3+(x6.n:Int)) n7∧
 ((decide (n7 < 0))=true→
 False)∧
 ((decide (n7 < 0))=false→
 ∃ n8:Int,Wr .i64 (n4+1) n8∧
 I1 n7 n8 w5∧
 m2 n7 n8 w5 < m2 n3 n4 w5))∧
 ((decide (n4 < (x_0.n:Int)))=false→
 tS 245 #[.slice none 0 0,.int .i64 n3] w5 fun x11 w10=>
 ∃ I12:Sl→Int→World→Prop,∃ m13:Sl→Int→World→Nat,I12 x11 0 w10∧
 ∀ x14:Sl,∀ n15:Int,∀ w16:World,I12 x14 n15 w16→
 ((decide (n15 < (x_0.n:Int)))=true→
 IxOk x_0 n15∧
 ∃ x17:Sl,w16.cell? ((elA x_0 n15 1).add 0)=some (x17.val)∧
 StepT Tryz.prog (Builtin.append_ #[68,68] 68 #[(x14.val),(x17.val)]) w16 fun r18 w19=>
 ∃ x20:Sl,r18=x20.val∧
 ∃ n21:Int,Wr .i64 (n15+1) n21∧
 I12 x20 n21 w19∧
 m13 x20 n21 w19 < m13 x14 n15 w16)∧
 ((decide (n15 < (x_0.n:Int)))=false→
 Q (x14.val) w16))
theorem of212 (x_0:Sl) (v:World) (Q:QT) (h:vc212 x_0 v Q):Trip Tryz.prog 212 #[x_0.val] v Q:=
 trip_of_eq (args:=[.sl x_0]) (A:=⟨[(3,[(3,.int .i64),(11,.int .i64)],[]),(11,[(6,.sl),(27,.int .i64)],[])],[],[],[],psG⟩) Tryz.func212 (by kernel_rfl) (by kernel_rfl) (by kernel_rfl:vc212 x_0 v Q=_) h
def vc213 (x_0:Sl) (v:World) (Q:QT):Prop:=
 ∃ I1:Int→Int→World→Prop,∃ m2:Int→Int→World→Nat,I1 0 0 v∧
 ∀ n3:Int,∀ n4:Int,∀ w5:World,I1 n3 n4 w5→
 ((decide (n4 < (x_0.n:Int)))=true→
 IxOk x_0 n4∧
 ldT w5 x_0 n4 fun n6 n7 x8=>
 ∃ n9:Int,Wr .i64 (n3+(x8.n:Int)) n9∧
 ∃ n10:Int,Wr .i64 (n4+1) n10∧
 I1 n9 n10 w5∧
 m2 n9 n10 w5 < m2 n3 n4 w5)∧
 ((decide (n4 < (x_0.n:Int)))=false→
 Q (.int .i64 n3) w5)
theorem of213 (x_0:Sl) (v:World) (Q:QT) (h:vc213 x_0 v Q):Trip Tryz.prog 213 #[x_0.val] v Q:=
 trip_of_eq (args:=[.sl x_0]) (A:=⟨[(3,[(3,.int .i64),(8,.int .i64)],[])],[],[],[],psG⟩) Tryz.func213 (by kernel_rfl) (by kernel_rfl) (by kernel_rfl:vc213 x_0 v Q=_) h
def vc214 (x_0:Sl) (n_1:Int) (v:World) (Q:QT):Prop:=
 ∃ I1:Int→Int→World→Prop,∃ m2:Int→Int→World→Nat,I1 n_1 0 v∧
 ∀ n3:Int,∀ n4:Int,∀ w5:World,I1 n3 n4 w5→
 ((decide (n4 < (x_0.n:Int)))=true→
 IxOk x_0 n4∧
 ldT w5 x_0 n4 fun n6 n7 x8=>
 (((decide (n3≥0)) && (decide (n3 < (x8.n:Int))))=true→
 ∃ n9:Int,Wr .i64 (n4+1) n9∧
 IxOk x8 n3∧
 ∃ x10:Sl,w5.cell? ((elA x8 n3 1).add 0)=some (x10.val)∧
 Q (.tuple #[.int .i64 n9,.agg #[x10.val]]) w5)∧
 (((decide (n3≥0)) && (decide (n3 < (x8.n:Int))))=false→
 ∃ n11:Int,Wr .i64 (n3 - (x8.n:Int)) n11∧
 ∃ n12:Int,Wr .i64 (n4+1) n12∧
 eqS (.sl (Sl.mk none 0 0))∧
 I1 n11 n12 w5∧
 m2 n11 n12 w5 < m2 n3 n4 w5))∧
 ((decide (n4 < (x_0.n:Int)))=false→
 Q (.tuple #[.int .i64 (-1),.agg #[.slice none 0 0]]) w5)
theorem of214 (x_0:Sl) (n_1:Int) (v:World) (Q:QT) (h:vc214 x_0 n_1 v Q):Trip Tryz.prog 214 #[x_0.val,.int .i64 n_1] v Q:=
 trip_of_eq (args:=[.sl x_0,.num .i64 n_1]) (A:=⟨[(2,[(1,.int .i64),(10,.int .i64)],[])],[],[(5,[])],[],psG⟩) Tryz.func214 (by kernel_rfl) (by kernel_rfl) (by kernel_rfl:vc214 x_0 n_1 v Q=_) h
def vc215 (x_0:Sl) (n_1:Int) (v:World) (Q:QT):Prop:=
 ∃ n1:Int,(((decide (n_1 < 1)) || (decide (n_1 > (x_0.n:Int))))=false→
 Wr .i64 (n_1 - 1) n1)∧
 (((decide (n_1 < 1)) || (decide (n_1 > (x_0.n:Int))))=false→
 IxOk x_0 n1)∧
 ∃ x2:Sl,(((decide (n_1 < 1)) || (decide (n_1 > (x_0.n:Int))))=false→
 v.cell? ((elA x_0 n1 3).add 2)=some (x2.val))∧
 ((((decide (n_1 < 1)) || (decide (n_1 > (x_0.n:Int)))) || (decide ((x2.n:Int) > 0)))=true→
 Q (.tuple #[.agg #[.int .i64 0,.int .i64 0,.slice none 0 0],.bool false]) v)∧
 ((((decide (n_1 < 1)) || (decide (n_1 > (x_0.n:Int)))) || (decide ((x2.n:Int) > 0)))=false→
 ∃ n3:Int,Wr .i64 (n_1 - 1) n3∧
 IxOk x_0 n3∧
 ldT v x_0 n3 fun n4 n5 x6=>
 Q (.tuple #[.agg #[.int .i64 n4,.int .i64 n5,x6.val],.bool true]) v)
theorem of215 (x_0:Sl) (n_1:Int) (v:World) (Q:QT) (h:vc215 x_0 n_1 v Q):Trip Tryz.prog 215 #[x_0.val,.int .i64 n_1] v Q:=
 trip_of_eq (args:=[.sl x_0,.num .i64 n_1]) (A:=aG) Tryz.func215 (by kernel_rfl) (by kernel_rfl) (by kernel_rfl:vc215 x_0 n_1 v Q=_) h
def vc216 (x_0:Sl) (x_1:Sl) (v:World) (Q:QT):Prop:=
 ((!decide ((x_0.n:Int)=(x_1.n:Int)))=true→
 Q (.bool false) v)∧
 ((!decide ((x_0.n:Int)=(x_1.n:Int)))=false→
 ∃ I1:Int→World→Prop,∃ m2:Int→World→Nat,I1 0 v∧
 ∀ n3:Int,∀ w4:World,I1 n3 w4→
 ((decide (n3 < (x_0.n:Int)))=true→
 IxOk x_0 n3∧
 ∃ n5:Int,w4.cell? ((elA x_0 n3 1).add 0)=some (.int .i64 n5)∧
 IxOk x_1 n3∧
 ∃ n6:Int,w4.cell? ((elA x_1 n3 1).add 0)=some (.int .i64 n6)∧
 ((!decide (n5=n6))=true→
 Q (.bool false) w4)∧
 ((!decide (n5=n6))=false→
 ∃ n7:Int,Wr .i64 (n3+1) n7∧
 I1 n7 w4∧
 m2 n7 w4 < m2 n3 w4))∧
 ((decide (n3 < (x_0.n:Int)))=false→
 Q (.bool true) w4))
theorem of216 (x_0:Sl) (x_1:Sl) (v:World) (Q:QT) (h:vc216 x_0 x_1 v Q):Trip Tryz.prog 216 #[x_0.val,x_1.val] v Q:=
 trip_of_eq (args:=[.sl x_0,.sl x_1]) (A:=⟨[(4,[(13,.int .i64)],[])],[],[],[],psG⟩) Tryz.func216 (by kernel_rfl) (by kernel_rfl) (by kernel_rfl:vc216 x_0 x_1 v Q=_) h
def vc217 (x_0:Sl) (n_1:Int) (n_2:Int) (v:World) (Q:QT):Prop:=
 ∃ I1:Int→World→Prop,∃ m2:Int→World→Nat,I1 0 v∧
 ∀ n3:Int,∀ w4:World,I1 n3 w4→
 ((decide (n3 < (x_0.n:Int)))=true→
 IxOk x_0 n3∧
 ldT w4 x_0 n3 fun n5 n6 x7=>
 ((((decide ((x7.n:Int)=0)) && (decide (n5=n_1))) && (decide (n6=n_2)))=true→
 ∃ n8:Int,Wr .i64 (n3+1) n8∧
 Q (.int .i64 n8) w4)∧
 ((((decide ((x7.n:Int)=0)) && (decide (n5=n_1))) && (decide (n6=n_2)))=false→
 ∃ n9:Int,Wr .i64 (n3+1) n9∧
 I1 n9 w4∧
 m2 n9 w4 < m2 n3 w4))∧
 ((decide (n3 < (x_0.n:Int)))=false→
 Q (.int .i64 (-1)) w4)
theorem of217 (x_0:Sl) (n_1:Int) (n_2:Int) (v:World) (Q:QT) (h:vc217 x_0 n_1 n_2 v Q):Trip Tryz.prog 217 #[x_0.val,.int .i64 n_1,.int .i64 n_2] v Q:=
 trip_of_eq (args:=[.sl x_0,.num .i64 n_1,.num .i64 n_2]) (A:=⟨[(2,[(11,.int .i64)],[])],[],[],[],psG⟩) Tryz.func217 (by kernel_rfl) (by kernel_rfl) (by kernel_rfl:vc217 x_0 n_1 n_2 v Q=_) h
def vc236 (a_0:Addr) (x1_0:Sl) (x1_1:Sl) (x_2:Sl) (v:World) (Q:QT):Prop:=
 bS 68 7 #[(0,(.int .i64 1)),(1,(.int .i64 1)),(2,(.int .i64 3)),(3,(.int .i64 0)),(4,(.int .i64 2)),(5,(.int .i64 4)),(6,(.int .i64 3))] v fun x3 w2=>
 tI 120 #[.pointer (some (a_0.add 0)),x3.val] w2 fun n6 w5=>
 ∃ q7:Bool,((decide (n6 > (x1_0.n:Int)))=false→
 (Trip Tryz.prog 243 #[.agg #[x1_0.val,x1_1.val],x_2.val,.int .i64 n6] w5 fun r8 w9=>r8=.bool q7∧Sub w5 w9))∧
 (((decide (n6 > (x1_0.n:Int))) || (!q7))=true→
 Q (.int .i64 1) w5)∧
 (((decide (n6 > (x1_0.n:Int))) || (!q7))=false→
 Q (.int .i64 n6) w5)
theorem of236 (a_0:Addr) (x1_0:Sl) (x1_1:Sl) (x_2:Sl) (v:World) (Q:QT) (h:vc236 a_0 x1_0 x1_1 x_2 v Q):Trip Tryz.prog 236 #[.pointer (some (a_0.add 0)),.agg #[x1_0.val,x1_1.val],x_2.val] v Q:=
 trip_of_eq (args:=[.pt a_0 0,.ag [.sl x1_0,.sl x1_1],.sl x_2]) (A:=aG) Tryz.func236 (by kernel_rfl) (by kernel_rfl) (by kernel_rfl:vc236 a_0 x1_0 x1_1 x_2 v Q=_) h
def vc237 (a_0:Addr) (x1_0:Sl) (x1_1:Sl) (x_2:Sl) (x_3:Sl) (n_4:Int) (v:World) (Q:QT):Prop:=
 bS 40 0 #[] v fun x3 w2=>
 ∃ I4:Sl→Int→World→Prop,∃ m5:Sl→Int→World→Nat,I4 x3 0 w2∧
 ∀ x6:Sl,∀ n7:Int,∀ w8:World,I4 x6 n7 w8→
 ((decide (n7 < (x_3.n:Int)))=true→
 IxOk x_3 n7∧
 ∃ n9:Int,w8.cell? ((elA x_3 n7 1).add 0)=some (.int .i64 n9)∧
 ∃ n10:Int,(((x_3.n:Int):Int)≠0∧Wr .i64 (Int.tdiv n_4 (x_3.n:Int)) n10)∧
 tE 209 #[.pointer (some (a_0.add 0)),.agg #[x1_0.val,x1_1.val],x_2.val,.int .i64 n9,.int .i64 n10] w8 fun n13 n14 x15 w12=>
 bS 40 1 #[(0,(.agg #[.int .i64 n13,.int .i64 n14,x15.val]))] w12 fun x18 w17=>
 StepT Tryz.prog (Builtin.append_ #[40,40] 40 #[(x6.val),(x18.val)]) w17 fun r19 w20=>
 ∃ x21:Sl,r19=x21.val∧
 ∃ n22:Int,Wr .i64 (n7+1) n22∧
 eqS (.sl x1_0)∧
 eqS (.sl x1_1)∧
 I4 x21 n22 w20∧
 m5 x21 n22 w20 < m5 x6 n7 w8)∧
 ((decide (n7 < (x_3.n:Int)))=false→
 Q (x6.val) w8)
theorem of237 (a_0:Addr) (x1_0:Sl) (x1_1:Sl) (x_2:Sl) (x_3:Sl) (n_4:Int) (v:World) (Q:QT) (h:vc237 a_0 x1_0 x1_1 x_2 x_3 n_4 v Q):Trip Tryz.prog 237 #[.pointer (some (a_0.add 0)),.agg #[x1_0.val,x1_1.val],x_2.val,x_3.val,.int .i64 n_4] v Q:=
 trip_of_eq (args:=[.pt a_0 0,.ag [.sl x1_0,.sl x1_1],.sl x_2,.sl x_3,.num .i64 n_4]) (A:=⟨[(3,[(11,.sl),(12,.int .i64)],[])],[],[(5,[])],[],psG⟩) Tryz.func237 (by kernel_rfl) (by kernel_rfl) (by kernel_rfl:vc237 a_0 x1_0 x1_1 x_2 x_3 n_4 v Q=_) h
def vc238 (a_0:Addr) (x1_0:Sl) (x1_1:Sl) (x_2:Sl) (n_3:Int) (n_4:Int) (v:World) (Q:QT):Prop:=
 bS 68 4 #[(0,(.int .i64 1)),(1,(.int .i64 1)),(2,(.int .i64 3)),(3,(.int .i64 4))] v fun x3 w2=>
 tI 120 #[.pointer (some (a_0.add 0)),x3.val] w2 fun n6 w5=>
 ∃ q7:Bool,((decide (n6 > (x1_0.n:Int)))=false→
 (Trip Tryz.prog 139 #[x1_0.val,.int .i64 n6] w5 fun r8 w9=>r8=.bool q7∧Sub w5 w9))∧
 (((decide (n6 > (x1_0.n:Int))) || q7)=true→
 tS 180 #[x1_0.val,.int .i64 1] w5 fun x12 w11=>
 tE 211 #[.pointer (some (a_0.add 0)),.agg #[x1_0.val,x1_1.val],x_2.val,.int .i64 1] w11 fun n15 n16 x17 w14=>
 bS 40 1 #[(0,(.agg #[.int .i64 n15,.int .i64 n16,x17.val]))] w14 fun x20 w19=>
 ∃ I21:Sl→Int→World→Prop,∃ m22:Sl→Int→World→Nat,I21 x20 0 w19∧
 ∀ x23:Sl,∀ n24:Int,∀ w25:World,I21 x23 n24 w25→
 ((decide (n24 < (x12.n:Int)))=true→
 IxOk x12 n24∧
 ∃ n26:Int,w25.cell? ((elA x12 n24 1).add 0)=some (.int .i64 n26)∧
 ∃ n27:Int,Wr .i64 (n_4 - 2) n27∧
 ∃ n28:Int,(((x12.n:Int):Int)≠0∧Wr .i64 (Int.tdiv n27 (x12.n:Int)) n28)∧
 tS 135 #[x1_0.val,.int .i64 n26] w25 fun x31 w30=>
 Sub w25 w30∧
 tS 136 #[x_2.val,x31.val] w30 fun x34 w33=>
 Sub w30 w33∧
 tE 209 #[.pointer (some (a_0.add 0)),.agg #[x1_0.val,x1_1.val],x34.val,.int .i64 n_3,.int .i64 n28] w33 fun n37 n38 x39 w36=>
 bS 40 1 #[(0,(.agg #[.int .i64 n37,.int .i64 n38,x39.val]))] w36 fun x42 w41=>
 StepT Tryz.prog (Builtin.append_ #[40,40] 40 #[(x23.val),(x42.val)]) w41 fun r43 w44=>
 ∃ x45:Sl,r43=x45.val∧
 ∃ n46:Int,Wr .i64 (n24+1) n46∧
 eqS (.sl x1_0)∧
 eqS (.sl x1_1)∧
 eqS (.num .i64 0)∧
 eqS (.num .i64 0)∧
 eqS (.sl (Sl.mk none 0 0))∧
 I21 x45 n46 w44∧
 m22 x45 n46 w44 < m22 x23 n24 w25)∧
 ((decide (n24 < (x12.n:Int)))=false→
 tE 103 #[.int .i64 8,.int .i64 1,x23.val] w25 fun n49 n50 x51 w48=>
 Q (.agg #[.int .i64 n49,.int .i64 n50,x51.val]) w48))∧
 (((decide (n6 > (x1_0.n:Int))) || q7)=false→
 tS 180 #[x1_0.val,.int .i64 n6] w5 fun x54 w53=>
 tE 211 #[.pointer (some (a_0.add 0)),.agg #[x1_0.val,x1_1.val],x_2.val,.int .i64 n6] w53 fun n57 n58 x59 w56=>
 bS 40 1 #[(0,(.agg #[.int .i64 n57,.int .i64 n58,x59.val]))] w56 fun x62 w61=>
 ∃ I63:Sl→Int→World→Prop,∃ m64:Sl→Int→World→Nat,I63 x62 0 w61∧
 ∀ x65:Sl,∀ n66:Int,∀ w67:World,I63 x65 n66 w67→
 ((decide (n66 < (x54.n:Int)))=true→
 IxOk x54 n66∧
 ∃ n68:Int,w67.cell? ((elA x54 n66 1).add 0)=some (.int .i64 n68)∧
 ∃ n69:Int,Wr .i64 (n_4 - 2) n69∧
 ∃ n70:Int,(((x54.n:Int):Int)≠0∧Wr .i64 (Int.tdiv n69 (x54.n:Int)) n70)∧
 tS 135 #[x1_0.val,.int .i64 n68] w67 fun x73 w72=>
 Sub w67 w72∧
 tS 136 #[x_2.val,x73.val] w72 fun x76 w75=>
 Sub w72 w75∧
 tE 209 #[.pointer (some (a_0.add 0)),.agg #[x1_0.val,x1_1.val],x76.val,.int .i64 n_3,.int .i64 n70] w75 fun n79 n80 x81 w78=>
 bS 40 1 #[(0,(.agg #[.int .i64 n79,.int .i64 n80,x81.val]))] w78 fun x84 w83=>
 StepT Tryz.prog (Builtin.append_ #[40,40] 40 #[(x65.val),(x84.val)]) w83 fun r85 w86=>
 ∃ x87:Sl,r85=x87.val∧
 ∃ n88:Int,Wr .i64 (n66+1) n88∧
 eqS (.sl x1_0)∧
 eqS (.sl x1_1)∧
 eqS (.num .i64 0)∧
 eqS (.num .i64 0)∧
 eqS (.sl (Sl.mk none 0 0))∧
 I63 x87 n88 w86∧
 m64 x87 n88 w86 < m64 x65 n66 w67)∧
 ((decide (n66 < (x54.n:Int)))=false→
 tE 103 #[.int .i64 8,.int .i64 n6,x65.val] w67 fun n91 n92 x93 w90=>
 Q (.agg #[.int .i64 n91,.int .i64 n92,x93.val]) w90))
theorem of238 (a_0:Addr) (x1_0:Sl) (x1_1:Sl) (x_2:Sl) (n_3:Int) (n_4:Int) (v:World) (Q:QT) (h:vc238 a_0 x1_0 x1_1 x_2 n_3 n_4 v Q):Trip Tryz.prog 238 #[.pointer (some (a_0.add 0)),.agg #[x1_0.val,x1_1.val],x_2.val,.int .i64 n_3,.int .i64 n_4] v Q:=
 trip_of_eq (args:=[.pt a_0 0,.ag [.sl x1_0,.sl x1_1],.sl x_2,.num .i64 n_3,.num .i64 n_4]) (A:=⟨[(7,[(13,.sl),(14,.int .i64)],[])],[],[(9,[10,11])],[],psG⟩) Tryz.func238 (by kernel_rfl) (by kernel_rfl) (by kernel_rfl:vc238 a_0 x1_0 x1_1 x_2 n_3 n_4 v Q=_) h
def vc239 (x0_0:Sl) (x0_1:Sl) (n_1:Int) (v:World) (Q:QT):Prop:=
 bS 68 0 #[] v fun x3 w2=>
 ∃ I4:Sl→Int→World→Prop,∃ m5:Sl→Int→World→Nat,I4 x3 1 w2∧
 ∀ x6:Sl,∀ n7:Int,∀ w8:World,I4 x6 n7 w8→
 ((decide (n7 < (x0_1.n:Int)))=true→
 IxOk x0_1 n7∧
 ∃ n9:Int,w8.cell? ((elA x0_1 n7 5).add 1)=some (.int .i64 n9)∧
 ∃ I10:Bool→Int→World→Prop,∃ m11:Bool→Int→World→Nat,I10 (decide (n9=n_1)) 0 w8∧
 ∀ q12:Bool,∀ n13:Int,∀ w14:World,I10 q12 n13 w14→
 IxOk x0_1 n7∧
 ∃ x15:Sl,w14.cell? ((elA x0_1 n7 5).add 0)=some (x15.val)∧
 ((decide (n13 < (x15.n:Int)))=true→
 (q12=true→
 IxOk x0_1 n7)∧
 ∃ x16:Sl,(q12=true→
 w14.cell? ((elA x0_1 n7 5).add 0)=some (x16.val))∧
 (q12=true→
 IxOk x16 n13)∧
 ∃ n17:Int,(q12=true→
 w14.cell? ((elA x16 n13 1).add 0)=some (.int .i64 n17))∧
 (q12=true→
 bS 68 0 #[] w14 fun x20 w19=>
 Sub w14 w19∧
 ∃ q21:Bool,(Trip Tryz.prog 243 #[.agg #[x0_0.val,x0_1.val],x20.val,.int .i64 n17] w19 fun r22 w23=>r22=.bool q21∧Sub w19 w23)∧
 ∃ n24:Int,Wr .i64 (n13+1) n24∧
 eqS (.sl x0_0)∧
 eqS (.sl x0_1)∧
 I10 q21 n24 w19∧
 m11 q21 n24 w19 < m11 q12 n13 w14)∧
 (q12=false→
 Sub w14 w14∧
 ∃ n25:Int,Wr .i64 (n13+1) n25∧
 eqS (.sl x0_0)∧
 eqS (.sl x0_1)∧
 I10 false n25 w14∧
 m11 false n25 w14 < m11 q12 n13 w14))∧
 ((decide (n13 < (x15.n:Int)))=false→
 (q12=true→
 bS 68 1 #[(0,(.int .i64 n7))] w14 fun x28 w27=>
 StepT Tryz.prog (Builtin.append_ #[68,68] 68 #[(x6.val),(x28.val)]) w27 fun r29 w30=>
 ∃ x31:Sl,r29=x31.val∧
 ∃ n32:Int,Wr .i64 (n7+1) n32∧
 eqS (.sl x0_0)∧
 eqS (.sl x0_1)∧
 I4 x31 n32 w30∧
 m5 x31 n32 w30 < m5 x6 n7 w8)∧
 (q12=false→
 ∃ n33:Int,Wr .i64 (n7+1) n33∧
 eqS (.sl x0_0)∧
 eqS (.sl x0_1)∧
 I4 x6 n33 w14∧
 m5 x6 n33 w14 < m5 x6 n7 w8)))∧
 ((decide (n7 < (x0_1.n:Int)))=false→
 Q (x6.val) w8)
theorem of239 (x0_0:Sl) (x0_1:Sl) (n_1:Int) (v:World) (Q:QT) (h:vc239 x0_0 x0_1 n_1 v Q):Trip Tryz.prog 239 #[.agg #[x0_0.val,x0_1.val],.int .i64 n_1] v Q:=
 trip_of_eq (args:=[.ag [.sl x0_0,.sl x0_1],.num .i64 n_1]) (A:=⟨[(3,[(5,.sl),(6,.int .i64)],[]),(7,[(7,.bool),(8,.int .i64)],[])],[],[(9,[3])],[],psG⟩) Tryz.func239 (by kernel_rfl) (by kernel_rfl) (by kernel_rfl:vc239 x0_0 x0_1 n_1 v Q=_) h
def vc240 (a_0:Addr) (x1_0:Sl) (x1_1:Sl) (x_2:Sl) (n_3:Int) (n_4:Int) (v:World) (Q:QT):Prop:=
 ∃ J1:World→Prop,(tI 61 #[.pointer (some (a_0.add 0)),.int .i64 4] v fun n4 w3=>
 ((decide (n4=0))=true→
 ∃ I5:Int→World→Prop,∃ m6:Int→World→Nat,I5 1 w3∧
 ∀ n7:Int,∀ w8:World,I5 n7 w8→
 ((decide (n7≤(x1_0.n:Int)))=true→
 ∃ q9:Bool,(Trip Tryz.prog 139 #[x1_0.val,.int .i64 n7] w8 fun r10 w11=>r10=.bool q9∧Sub w8 w11)∧
 ∃ n12:Int,(q9=true→
 Wr .i64 (n7 - 1) n12)∧
 (q9=true→
 IxOk x1_0 n12)∧
 ∃ n13:Int,(q9=true→
 w8.cell? ((elA x1_0 n12 3).add 1)=some (.int .i64 n13))∧
 ∃ q14:Bool,((q9 && (decide (n13=n_3)))=true→
 (Trip Tryz.prog 243 #[.agg #[x1_0.val,x1_1.val],x_2.val,.int .i64 n7] w8 fun r15 w16=>r15=.bool q14∧Sub w8 w16))∧
 (((q9 && (decide (n13=n_3))) && q14)=true→
 ∃ n17:Int,Wr .i64 (n7 - 1) n17∧
 ∃ n18:Int,Wr .i64 (n_4 - 2) n18∧
 (tE 211 #[.pointer (some (a_0.add 0)),.agg #[x1_0.val,x1_1.val],x_2.val,.int .i64 n7] w8 fun n21 n22 x23 w20=>
 IxOk x1_0 n17∧
 ∃ n24:Int,w20.cell? ((elA x1_0 n17 3).add 0)=some (.int .i64 n24)∧
 tE 209 #[.pointer (some (a_0.add 0)),.agg #[x1_0.val,x1_1.val],x_2.val,.int .i64 n24,.int .i64 n18] w20 fun n27 n28 x29 w26=>
 bS 40 2 #[(0,(.agg #[.int .i64 n21,.int .i64 n22,x23.val])),(1,(.agg #[.int .i64 n27,.int .i64 n28,x29.val]))] w26 fun x32 w31=>
 tE 103 #[.int .i64 11,.int .i64 0,x32.val] w31 fun n35 n36 x37 w34=>
 Q (.agg #[.int .i64 n35,.int .i64 n36,x37.val]) w34)∧
 IxOk x1_0 n17∧
 (tE 211 #[.pointer (some (a_0.add 0)),.agg #[x1_0.val,x1_1.val],x_2.val,.int .i64 n7] w8 fun n40 n41 x42 w39=>
 ∃ n43:Int,w39.cell? ((elA x1_0 n17 3).add 0)=some (.int .i64 n43)∧
 tE 209 #[.pointer (some (a_0.add 0)),.agg #[x1_0.val,x1_1.val],x_2.val,.int .i64 n43,.int .i64 n18] w39 fun n46 n47 x48 w45=>
 bS 40 2 #[(0,(.agg #[.int .i64 n40,.int .i64 n41,x42.val])),(1,(.agg #[.int .i64 n46,.int .i64 n47,x48.val]))] w45 fun x51 w50=>
 tE 103 #[.int .i64 11,.int .i64 0,x51.val] w50 fun n54 n55 x56 w53=>
 Q (.agg #[.int .i64 n54,.int .i64 n55,x56.val]) w53)∧
 ∃ n57:Int,w8.cell? ((elA x1_0 n17 3).add 0)=some (.int .i64 n57)∧
 tE 211 #[.pointer (some (a_0.add 0)),.agg #[x1_0.val,x1_1.val],x_2.val,.int .i64 n7] w8 fun n60 n61 x62 w59=>
 tE 209 #[.pointer (some (a_0.add 0)),.agg #[x1_0.val,x1_1.val],x_2.val,.int .i64 n57,.int .i64 n18] w59 fun n65 n66 x67 w64=>
 bS 40 2 #[(0,(.agg #[.int .i64 n60,.int .i64 n61,x62.val])),(1,(.agg #[.int .i64 n65,.int .i64 n66,x67.val]))] w64 fun x70 w69=>
 tE 103 #[.int .i64 11,.int .i64 0,x70.val] w69 fun n73 n74 x75 w72=>
 Q (.agg #[.int .i64 n73,.int .i64 n74,x75.val]) w72)∧
 (((q9 && (decide (n13=n_3))) && q14)=false→
 ∃ n76:Int,Wr .i64 (n7+1) n76∧
 eqS (.sl x1_0)∧
 eqS (.sl x1_1)∧
 eqS (.num .i64 0)∧
 eqS (.num .i64 0)∧
 eqS (.sl (Sl.mk none 0 0))∧
 I5 n76 w8∧
 m6 n76 w8 < m6 n7 w8))∧
 ((decide (n7≤(x1_0.n:Int)))=false→
 eqS (.sl x1_0)∧
 eqS (.sl x1_1)∧
 eqS (.num .i64 0)∧
 eqS (.num .i64 0)∧
 eqS (.sl (Sl.mk none 0 0))∧
 J1 w8))∧
 ((decide (n4=0))=false→
 eqS (.sl x1_0)∧
 eqS (.sl x1_1)∧
 eqS (.num .i64 0)∧
 eqS (.num .i64 0)∧
 eqS (.sl (Sl.mk none 0 0))∧
 J1 w3))∧
 ∀ w77:World,J1 w77→
 tS 180 #[x1_0.val,.int .i64 n_3] w77 fun x80 w79=>
 ((decide ((x80.n:Int) > 0))=true→
 tI 61 #[.pointer (some (a_0.add 0)),.int .i64 (x80.n:Int)] w79 fun n83 w82=>
 IxOk x80 n83∧
 ∃ n84:Int,w82.cell? ((elA x80 n83 1).add 0)=some (.int .i64 n84)∧
 ∃ n85:Int,Wr .i64 (n_4 - 1) n85∧
 tS 135 #[x1_0.val,.int .i64 n84] w82 fun x88 w87=>
 Sub w82 w87∧
 tS 237 #[.pointer (some (a_0.add 0)),.agg #[x1_0.val,x1_1.val],x_2.val,x88.val,.int .i64 n85] w87 fun x91 w90=>
 tE 103 #[.int .i64 6,.int .i64 n84,x91.val] w90 fun n94 n95 x96 w93=>
 Q (.agg #[.int .i64 n94,.int .i64 n95,x96.val]) w93)∧
 ((decide ((x80.n:Int) > 0))=false→
 ((decide (n_3 > 0))=true→
 tE 211 #[.pointer (some (a_0.add 0)),.agg #[x1_0.val,x1_1.val],x_2.val,.int .i64 n_3] w79 fun n99 n100 x101 w98=>
 Q (.agg #[.int .i64 n99,.int .i64 n100,x101.val]) w98)∧
 ((decide (n_3 > 0))=false→
 tI 61 #[.pointer (some (a_0.add 0)),.int .i64 3] w79 fun n104 w103=>
 ((decide (n104=0))=true→
 bS 68 1 #[(0,(.int .i64 0))] w103 fun x107 w106=>
 ∃ n108:Int,Wr .i64 (n_4 - 1) n108∧
 tS 237 #[.pointer (some (a_0.add 0)),.agg #[x1_0.val,x1_1.val],x_2.val,x107.val,.int .i64 n108] w106 fun x111 w110=>
 tE 103 #[.int .i64 5,.int .i64 0,x111.val] w110 fun n114 n115 x116 w113=>
 Q (.agg #[.int .i64 n114,.int .i64 n115,x116.val]) w113)∧
 ((decide (n104=0))=false→
 ∃ n117:Int,Wr .i64 (n_4 - 1) n117∧
 (bS 68 4 #[(0,(.int .i64 1)),(1,(.int .i64 2)),(2,(.int .i64 3)),(3,(.int .i64 4))] w103 fun x120 w119=>
 (tI 120 #[.pointer (some (a_0.add 0)),x120.val] w119 fun n123 w122=>
 bS 68 2 #[(0,(.int .i64 0)),(1,(.int .i64 0))] w122 fun x126 w125=>
 tS 237 #[.pointer (some (a_0.add 0)),.agg #[x1_0.val,x1_1.val],x_2.val,x126.val,.int .i64 n117] w125 fun x129 w128=>
 tE 103 #[.int .i64 n123,.int .i64 0,x129.val] w128 fun n132 n133 x134 w131=>
 Q (.agg #[.int .i64 n132,.int .i64 n133,x134.val]) w131)∧
 bS 68 2 #[(0,(.int .i64 0)),(1,(.int .i64 0))] w119 fun x137 w136=>
 tI 120 #[.pointer (some (a_0.add 0)),x120.val] w136 fun n140 w139=>
 tS 237 #[.pointer (some (a_0.add 0)),.agg #[x1_0.val,x1_1.val],x_2.val,x137.val,.int .i64 n117] w139 fun x143 w142=>
 tE 103 #[.int .i64 n140,.int .i64 0,x143.val] w142 fun n146 n147 x148 w145=>
 Q (.agg #[.int .i64 n146,.int .i64 n147,x148.val]) w145)∧
 bS 68 2 #[(0,(.int .i64 0)),(1,(.int .i64 0))] w103 fun x151 w150=>
 bS 68 4 #[(0,(.int .i64 1)),(1,(.int .i64 2)),(2,(.int .i64 3)),(3,(.int .i64 4))] w150 fun x154 w153=>
 tI 120 #[.pointer (some (a_0.add 0)),x154.val] w153 fun n157 w156=>
 tS 237 #[.pointer (some (a_0.add 0)),.agg #[x1_0.val,x1_1.val],x_2.val,x151.val,.int .i64 n117] w156 fun x160 w159=>
 tE 103 #[.int .i64 n157,.int .i64 0,x160.val] w159 fun n163 n164 x165 w162=>
 Q (.agg #[.int .i64 n163,.int .i64 n164,x165.val]) w162)))
theorem of240 (a_0:Addr) (x1_0:Sl) (x1_1:Sl) (x_2:Sl) (n_3:Int) (n_4:Int) (v:World) (Q:QT) (h:vc240 a_0 x1_0 x1_1 x_2 n_3 n_4 v Q):Trip Tryz.prog 240 #[.pointer (some (a_0.add 0)),.agg #[x1_0.val,x1_1.val],x_2.val,.int .i64 n_3,.int .i64 n_4] v Q:=
 trip_of_eq (args:=[.pt a_0 0,.ag [.sl x1_0,.sl x1_1],.sl x_2,.num .i64 n_3,.num .i64 n_4]) (A:=⟨[(3,[(11,.int .i64)],[])],[(7,[],[])],[(6,[]),(10,[7]),(15,[])],[],psG⟩) Tryz.func240 (by kernel_rfl) (by kernel_rfl) (by kernel_rfl:vc240 a_0 x1_0 x1_1 x_2 n_3 n_4 v Q=_) h
def vc241 (a_0:Addr) (v:World) (Q:QT):Prop:=
 tI 61 #[.pointer (some (a_0.add 0)),.int .i64 6] v fun n3 w2=>
 tI 61 #[.pointer (some (a_0.add 0)),.int .i64 6] w2 fun n6 w5=>
 tI 61 #[.pointer (some (a_0.add 0)),.int .i64 40] w5 fun n9 w8=>
 bS 68 10 #[(0,(.int .i64 n3)),(1,(.int .i64 n6)),(2,(.int .i64 0)),(3,(.int .i64 1)),(4,(.int .i64 2)),(5,(.int .i64 (-1))),(6,(.int .i64 3)),(7,(.int .i64 n9)),(8,(.int .i64 999)),(9,(.int .i64 (-998)))] w8 fun x12 w11=>
 tI 120 #[.pointer (some (a_0.add 0)),x12.val] w11 fun n15 w14=>
 Q (.int .i64 n15) w14
theorem of241 (a_0:Addr) (v:World) (Q:QT) (h:vc241 a_0 v Q):Trip Tryz.prog 241 #[.pointer (some (a_0.add 0))] v Q:=
 trip_of_eq (args:=[.pt a_0 0]) (A:=aG) Tryz.func241 (by kernel_rfl) (by kernel_rfl) (by kernel_rfl:vc241 a_0 v Q=_) h
def vc242 (x_0:Sl) (n_1:Int) (v:World) (Q:QT):Prop:=
 bS 68 0 #[] v fun x3 w2=>
 ∃ I4:Sl→Int→World→Prop,∃ m5:Sl→Int→World→Nat,I4 x3 0 w2∧
 ∀ x6:Sl,∀ n7:Int,∀ w8:World,I4 x6 n7 w8→
 ((decide (n7 < (x_0.n:Int)))=true→
 IxOk x_0 n7∧
 ∃ n9:Int,w8.cell? ((elA x_0 n7 1).add 0)=some (.int .i64 n9)∧
 ((decide (n9=n_1))=true→
 bS 68 1 #[(0,(.int .i64 n7))] w8 fun x12 w11=>
 StepT Tryz.prog (Builtin.append_ #[68,68] 68 #[(x6.val),(x12.val)]) w11 fun r13 w14=>
 ∃ x15:Sl,r13=x15.val∧
 ∃ n16:Int,Wr .i64 (n7+1) n16∧
 I4 x15 n16 w14∧
 m5 x15 n16 w14 < m5 x6 n7 w8)∧
 ((decide (n9=n_1))=false→
 ∃ n17:Int,Wr .i64 (n7+1) n17∧
 I4 x6 n17 w8∧
 m5 x6 n17 w8 < m5 x6 n7 w8))∧
 ((decide (n7 < (x_0.n:Int)))=false→
 Q (x6.val) w8)
theorem of242 (x_0:Sl) (n_1:Int) (v:World) (Q:QT) (h:vc242 x_0 n_1 v Q):Trip Tryz.prog 242 #[x_0.val,.int .i64 n_1] v Q:=
 trip_of_eq (args:=[.sl x_0,.num .i64 n_1]) (A:=⟨[(3,[(5,.sl),(6,.int .i64)],[])],[],[],[],psG⟩) Tryz.func242 (by kernel_rfl) (by kernel_rfl) (by kernel_rfl:vc242 x_0 n_1 v Q=_) h
def vc243 (x0_0:Sl) (x0_1:Sl) (x_1:Sl) (n_2:Int) (v:World) (Q:QT):Prop:=
 ∃ q1:Bool,(Trip Tryz.prog 139 #[x0_0.val,.int .i64 n_2] v fun r2 w3=>r2=.bool q1∧Sub v w3)∧
 ((!q1)=false→
 tS 253 #[.agg #[x0_0.val,x0_1.val],.int .i64 n_2] v fun x6 w5=>
 ∃ q7:Bool,((decide ((x6.n:Int) > 0))=false→
 (Trip Tryz.prog 254 #[x_1.val,.int .i64 n_2] w5 fun r8 w9=>r8=.bool q7∧Sub w5 w9))∧
 Q (.bool ((decide ((x6.n:Int) > 0)) || q7)) w5)∧
 ((!q1)=true→
 Q (.bool true) v)
theorem of243 (x0_0:Sl) (x0_1:Sl) (x_1:Sl) (n_2:Int) (v:World) (Q:QT) (h:vc243 x0_0 x0_1 x_1 n_2 v Q):Trip Tryz.prog 243 #[.agg #[x0_0.val,x0_1.val],x_1.val,.int .i64 n_2] v Q:=
 trip_of_eq (args:=[.ag [.sl x0_0,.sl x0_1],.sl x_1,.num .i64 n_2]) (A:=aG) Tryz.func243 (by kernel_rfl) (by kernel_rfl) (by kernel_rfl:vc243 x0_0 x0_1 x_1 n_2 v Q=_) h
def vc244 (a_0:Addr) (x1_0:Sl) (x1_1:Sl) (n_2:Int) (v:World) (Q:QT):Prop:=
 tS 180 #[x1_0.val,.int .i64 n_2] v fun x3 w2=>
 ((decide ((x3.n:Int) > 0))=true→
 IxOk x3 0∧
 ∃ n4:Int,w2.cell? ((elA x3 0 1).add 0)=some (.int .i64 n4)∧
 ∃ J5:Int→World→Prop,(((decide ((x3.n:Int) > 1))=true→
 tI 61 #[.pointer (some (a_0.add 0)),.int .i64 4] w2 fun n8 w7=>
 ((decide (n8=0))=true→
 IxOk x3 1∧
 ∃ n9:Int,w7.cell? ((elA x3 1 1).add 0)=some (.int .i64 n9)∧
 eqS (.sl x1_0)∧
 eqS (.sl x1_1)∧
 eqS (.num .i64 0)∧
 eqS (.num .i64 0)∧
 eqS (.sl (Sl.mk none 0 0))∧
 J5 n9 w7)∧
 ((decide (n8=0))=false→
 eqS (.sl x1_0)∧
 eqS (.sl x1_1)∧
 eqS (.num .i64 0)∧
 eqS (.num .i64 0)∧
 eqS (.sl (Sl.mk none 0 0))∧
 J5 n4 w7))∧
 ((decide ((x3.n:Int) > 1))=false→
 eqS (.sl x1_0)∧
 eqS (.sl x1_1)∧
 eqS (.num .i64 0)∧
 eqS (.num .i64 0)∧
 eqS (.sl (Sl.mk none 0 0))∧
 J5 n4 w2))∧
 ∀ n10:Int,∀ w11:World,J5 n10 w11→
 ∃ J12:Int→World→Prop,(tS 135 #[x1_0.val,.int .i64 n10] w11 fun x15 w14=>
 ∃ q16:Bool,(Trip Tryz.prog 254 #[x15.val,.int .i64 n_2] w14 fun r17 w18=>r17=.bool q16∧Sub w14 w18)∧
 (q16=true→
 IxOk x3 0∧
 ∃ n19:Int,w14.cell? ((elA x3 0 1).add 0)=some (.int .i64 n19)∧
 eqS (.sl x1_0)∧
 eqS (.sl x1_1)∧
 eqS (.num .i64 0)∧
 eqS (.num .i64 0)∧
 eqS (.sl (Sl.mk none 0 0))∧
 J12 n19 w14)∧
 (q16=false→
 eqS (.sl x1_0)∧
 eqS (.sl x1_1)∧
 eqS (.num .i64 0)∧
 eqS (.num .i64 0)∧
 eqS (.sl (Sl.mk none 0 0))∧
 J12 n10 w14))∧
 ∀ n20:Int,∀ w21:World,J12 n20 w21→
 bS 40 0 #[] w21 fun x24 w23=>
 tS 135 #[x1_0.val,.int .i64 n20] w23 fun x27 w26=>
 ∃ I28:Sl→Int→World→Prop,∃ m29:Sl→Int→World→Nat,I28 x24 0 w26∧
 ∀ x30:Sl,∀ n31:Int,∀ w32:World,I28 x30 n31 w32→
 ((decide (n31 < (x27.n:Int)))=true→
 IxOk x27 n31∧
 ∃ n33:Int,w32.cell? ((elA x27 n31 1).add 0)=some (.int .i64 n33)∧
 tE 244 #[.pointer (some (a_0.add 0)),.agg #[x1_0.val,x1_1.val],.int .i64 n33] w32 fun n36 n37 x38 w35=>
 bS 40 1 #[(0,(.agg #[.int .i64 n36,.int .i64 n37,x38.val]))] w35 fun x41 w40=>
 StepT Tryz.prog (Builtin.append_ #[40,40] 40 #[(x30.val),(x41.val)]) w40 fun r42 w43=>
 ∃ x44:Sl,r42=x44.val∧
 ∃ n45:Int,Wr .i64 (n31+1) n45∧
 eqS (.sl x1_0)∧
 eqS (.sl x1_1)∧
 eqS (.num .i64 0)∧
 eqS (.num .i64 0)∧
 eqS (.sl (Sl.mk none 0 0))∧
 I28 x44 n45 w43∧
 m29 x44 n45 w43 < m29 x30 n31 w32)∧
 ((decide (n31 < (x27.n:Int)))=false→
 tE 103 #[.int .i64 6,.int .i64 n20,x30.val] w32 fun n48 n49 x50 w47=>
 Q (.agg #[.int .i64 n48,.int .i64 n49,x50.val]) w47))∧
 ((decide ((x3.n:Int) > 0))=false→
 tS 253 #[.agg #[x1_0.val,x1_1.val],.int .i64 n_2] w2 fun x53 w52=>
 (((decide (n_2 > 0)) && (decide ((x53.n:Int) > 0)))=true→
 tI 61 #[.pointer (some (a_0.add 0)),.int .i64 (x53.n:Int)] w52 fun n56 w55=>
 IxOk x53 n56∧
 ∃ n57:Int,w55.cell? ((elA x53 n56 1).add 0)=some (.int .i64 n57)∧
 IxOk x1_1 n57∧
 ∃ x58:Sl,w55.cell? ((elA x1_1 n57 5).add 0)=some (x58.val)∧
 bS 40 0 #[] w55 fun x61 w60=>
 ∃ I62:Sl→Int→World→Prop,∃ m63:Sl→Int→World→Nat,I62 x61 0 w60∧
 ∀ x64:Sl,∀ n65:Int,∀ w66:World,I62 x64 n65 w66→
 ∃ n67:Int,Wr .i64 (n65+1) n67∧
 ((decide (n67 < (x58.n:Int)))=true→
 IxOk x58 n65∧
 ∃ n68:Int,w66.cell? ((elA x58 n65 1).add 0)=some (.int .i64 n68)∧
 tE 244 #[.pointer (some (a_0.add 0)),.agg #[x1_0.val,x1_1.val],.int .i64 n68] w66 fun n71 n72 x73 w70=>
 bS 40 1 #[(0,(.agg #[.int .i64 n71,.int .i64 n72,x73.val]))] w70 fun x76 w75=>
 StepT Tryz.prog (Builtin.append_ #[40,40] 40 #[(x64.val),(x76.val)]) w75 fun r77 w78=>
 ∃ x79:Sl,r77=x79.val∧
 ∃ n80:Int,Wr .i64 (n65+1) n80∧
 eqS (.sl x1_0)∧
 eqS (.sl x1_1)∧
 eqS (.num .i64 0)∧
 eqS (.num .i64 0)∧
 eqS (.sl (Sl.mk none 0 0))∧
 I62 x79 n80 w78∧
 m63 x79 n80 w78 < m63 x64 n65 w66)∧
 ((decide (n67 < (x58.n:Int)))=false→
 tE 103 #[.int .i64 10,.int .i64 n57,x64.val] w66 fun n83 n84 x85 w82=>
 Q (.agg #[.int .i64 n83,.int .i64 n84,x85.val]) w82))∧
 (((decide (n_2 > 0)) && (decide ((x53.n:Int) > 0)))=false→
 tI 241 #[.pointer (some (a_0.add 0))] w52 fun n88 w87=>
 tE 156 #[.int .i64 n88] w87 fun n91 n92 x93 w90=>
 Q (.agg #[.int .i64 n91,.int .i64 n92,x93.val]) w90))
theorem of244 (a_0:Addr) (x1_0:Sl) (x1_1:Sl) (n_2:Int) (v:World) (Q:QT) (h:vc244 a_0 x1_0 x1_1 n_2 v Q):Trip Tryz.prog 244 #[.pointer (some (a_0.add 0)),.agg #[x1_0.val,x1_1.val],.int .i64 n_2] v Q:=
 trip_of_eq (args:=[.pt a_0 0,.ag [.sl x1_0,.sl x1_1],.num .i64 n_2]) (A:=⟨[(11,[(9,.sl),(11,.int .i64)],[]),(21,[(15,.sl),(16,.int .i64)],[])],[(6,[(8,.int .i64)],[]),(8,[(8,.int .i64)],[])],[(13,[]),(23,[])],[],psG⟩) Tryz.func244 (by kernel_rfl) (by kernel_rfl) (by kernel_rfl:vc244 a_0 x1_0 x1_1 n_2 v Q=_) h
def vc245 (x_0:Sl) (n_1:Int) (v:World) (Q:QT):Prop:=
 ((decide (n_1 < 0))=true→
 False)∧
 ((decide (n_1 < 0))=false→
 StepT Tryz.prog (Builtin.cap_ #[68] 3 #[(x_0.val)]) v fun r1 w2=>
 ∃ n3:Int,r1=.int .i64 n3∧
 ∃ n4:Int,Wr .i64 (n3 - (x_0.n:Int)) n4∧
 ∃ n5:Int,Wr .i64 (n_1 - n4) n5∧
 ((decide (n5 > 0))=true→
 StepT Tryz.prog (Builtin.cap_ #[68] 3 #[(x_0.val)]) w2 fun r6 w7=>
 ∃ n8:Int,r6=.int .i64 n8∧
 CutOk x_0 0 n8∧
 StepT Tryz.prog (Builtin.append_ #[68,3] 68 #[((x_0.cut 0 n8 1).val),(.int .i64 n5)]) w7 fun r9 w10=>
 ∃ x11:Sl,r9=x11.val∧
 CutOk x11 0 (x_0.n:Int)∧
 Q ((x11.cut 0 (x_0.n:Int) 1).val) w10)∧
 ((decide (n5 > 0))=false→
 Q (x_0.val) w2))
theorem of245 (x_0:Sl) (n_1:Int) (v:World) (Q:QT) (h:vc245 x_0 n_1 v Q):Trip Tryz.prog 245 #[x_0.val,.int .i64 n_1] v Q:=
 trip_of_eq (args:=[.sl x_0,.num .i64 n_1]) (A:=aG) Tryz.func245 (by kernel_rfl) (by kernel_rfl) (by kernel_rfl:vc245 x_0 n_1 v Q=_) h
def vc253 (x0_0:Sl) (x0_1:Sl) (n_1:Int) (v:World) (Q:QT):Prop:=
 bS 68 0 #[] v fun x3 w2=>
 ∃ I4:Sl→Int→World→Prop,∃ m5:Sl→Int→World→Nat,I4 x3 0 w2∧
 ∀ x6:Sl,∀ n7:Int,∀ w8:World,I4 x6 n7 w8→
 ((decide (n7 < (x0_1.n:Int)))=true→
 IxOk x0_1 n7∧
 ∃ x9:Sl,w8.cell? ((elA x0_1 n7 5).add 0)=some (x9.val)∧
 ((decide ((x9.n:Int) > 0))=true→
 IxOk x0_1 n7)∧
 ∃ x10:Sl,((decide ((x9.n:Int) > 0))=true→
 w8.cell? ((elA x0_1 n7 5).add 0)=some (x10.val))∧
 ∃ n11:Int,((decide ((x9.n:Int) > 0))=true→
 Wr .i64 ((x9.n:Int) - 1) n11)∧
 ((decide ((x9.n:Int) > 0))=true→
 IxOk x10 n11)∧
 ∃ n12:Int,((decide ((x9.n:Int) > 0))=true→
 w8.cell? ((elA x10 n11 1).add 0)=some (.int .i64 n12))∧
 ((decide ((x9.n:Int) > 0))=true→
 IxOk x0_1 n7)∧
 ∃ n13:Int,((decide ((x9.n:Int) > 0))=true→
 w8.cell? ((elA x0_1 n7 5).add 1)=some (.int .i64 n13))∧
 ∃ n14:Int,((decide ((x9.n:Int) > 0))=true→
 (Trip Tryz.prog 181 #[x0_0.val,.int .i64 n12,.int .i64 n13] w8 fun r15 w16=>r15=.int .i64 n14∧Sub w8 w16))∧
 (((decide ((x9.n:Int) > 0)) && (decide (n14=n_1)))=true→
 bS 68 1 #[(0,(.int .i64 n7))] w8 fun x19 w18=>
 StepT Tryz.prog (Builtin.append_ #[68,68] 68 #[(x6.val),(x19.val)]) w18 fun r20 w21=>
 ∃ x22:Sl,r20=x22.val∧
 ∃ n23:Int,Wr .i64 (n7+1) n23∧
 eqS (.sl x0_0)∧
 eqS (.sl x0_1)∧
 I4 x22 n23 w21∧
 m5 x22 n23 w21 < m5 x6 n7 w8)∧
 (((decide ((x9.n:Int) > 0)) && (decide (n14=n_1)))=false→
 ∃ n24:Int,Wr .i64 (n7+1) n24∧
 eqS (.sl x0_0)∧
 eqS (.sl x0_1)∧
 I4 x6 n24 w8∧
 m5 x6 n24 w8 < m5 x6 n7 w8))∧
 ((decide (n7 < (x0_1.n:Int)))=false→
 Q (x6.val) w8)
theorem of253 (x0_0:Sl) (x0_1:Sl) (n_1:Int) (v:World) (Q:QT) (h:vc253 x0_0 x0_1 n_1 v Q):Trip Tryz.prog 253 #[.agg #[x0_0.val,x0_1.val],.int .i64 n_1] v Q:=
 trip_of_eq (args:=[.ag [.sl x0_0,.sl x0_1],.num .i64 n_1]) (A:=⟨[(3,[(5,.sl),(6,.int .i64)],[])],[],[],[],psG⟩) Tryz.func253 (by kernel_rfl) (by kernel_rfl) (by kernel_rfl:vc253 x0_0 x0_1 n_1 v Q=_) h
def vc254 (x_0:Sl) (n_1:Int) (v:World) (Q:QT):Prop:=
 ∃ I1:Int→World→Prop,∃ m2:Int→World→Nat,I1 0 v∧
 ∀ n3:Int,∀ w4:World,I1 n3 w4→
 ((decide (n3 < (x_0.n:Int)))=true→
 IxOk x_0 n3∧
 ∃ n5:Int,w4.cell? ((elA x_0 n3 1).add 0)=some (.int .i64 n5)∧
 ((decide (n5=n_1))=true→
 Q (.bool true) w4)∧
 ((decide (n5=n_1))=false→
 ∃ n6:Int,Wr .i64 (n3+1) n6∧
 I1 n6 w4∧
 m2 n6 w4 < m2 n3 w4))∧
 ((decide (n3 < (x_0.n:Int)))=false→
 Q (.bool false) w4)
theorem of254 (x_0:Sl) (n_1:Int) (v:World) (Q:QT) (h:vc254 x_0 n_1 v Q):Trip Tryz.prog 254 #[x_0.val,.int .i64 n_1] v Q:=
 trip_of_eq (args:=[.sl x_0,.num .i64 n_1]) (A:=⟨[(2,[(5,.int .i64)],[])],[],[],[],psG⟩) Tryz.func254 (by kernel_rfl) (by kernel_rfl) (by kernel_rfl:vc254 x_0 n_1 v Q=_) h
end Go.Vc
