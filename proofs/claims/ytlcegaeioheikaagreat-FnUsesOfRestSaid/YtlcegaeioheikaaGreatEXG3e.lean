/- Part of the proofs about the heaps and memories: a law is joined in the text whose name ends in W and the law. -/
import Derived.Test.YtlcegaeioheikaaGreatEG
set_option linter.all false
namespace Go.Vc
open Go Go.Proofs
def vc113e (x0_0 x0_1 x_1:Sl) (n2_0 n2_1 n2_2:Int) (x2_3 x2_4:Sl) (v:World) (Q:QT):Prop:=
 ∃ q1:Bool,((!decide (n2_1=0))=true→
 (pF 150 #[iV n2_0] v (.bool q1)))∧
 ∃ q4:Bool,(((!decide (n2_1=0)) && (!q1))=false→
 (pF 151 #[x_1.val,.agg #[iV n2_0,iV n2_1,iV n2_2,x2_3.val,x2_4.val]] v (.bool q4)))∧
 (((((!decide (n2_1=0)) && (!q1)) || (!q4)) || (((decide ((x2_4.n:Int) > 0)) && (!decide (n2_0=7))) && (!decide (n2_0=8))))=true→
 Q (iV (-1)) v)∧
 (((((!decide (n2_1=0)) && (!q1)) || (!q4)) || (((decide ((x2_4.n:Int) > 0)) && (!decide (n2_0=7))) && (!decide (n2_0=8))))=false→
 ((decide (n2_0=0))=true→
 ∃ q7:Bool,((decide ((x2_3.n:Int)=0))=true→
 (pF 36 #[iV n2_1,iV (-999),iV 999] v (.bool q7)))∧
 (((decide ((x2_3.n:Int)=0)) && q7)=true→
 Q (iV 0) v)∧
 (((decide ((x2_3.n:Int)=0)) && q7)=false→
 Q (iV (-1)) v))∧
 ((decide (n2_0=0))=false→
 ((decide (n2_0=1))=true→
 bS 28 2 #[(0,(iV 0)),(1,(iV 0))] v fun x12 w11=>
 ∃ q13,(pF 152 #[x_1.val,x2_3.val,x12.val] w11 (.bool q13))∧
 (q13=true→
 Q (iV 0) w11)∧
 (q13=false→
 Q (iV (-1)) w11))∧
 ((decide (n2_0=1))=false→
 ((decide (n2_0=2))=true→
 bS 28 2 #[(0,(iV 0)),(1,(iV 0))] v fun x18 w17=>
 ∃ q19,(pF 152 #[x_1.val,x2_3.val,x18.val] w17 (.bool q19))∧
 (q19=true→
 Q (iV 0) w17)∧
 (q19=false→
 Q (iV (-1)) w17))∧
 ((decide (n2_0=2))=false→
 ((decide (n2_0=3))=true→
 bS 28 2 #[(0,(iV 0)),(1,(iV 0))] v fun x24 w23=>
 ∃ q25,(pF 152 #[x_1.val,x2_3.val,x24.val] w23 (.bool q25))∧
 (q25=true→
 Q (iV 0) w23)∧
 (q25=false→
 Q (iV (-1)) w23))∧
 ((decide (n2_0=3))=false→
 ((decide (n2_0=4))=true→
 bS 28 2 #[(0,(iV 0)),(1,(iV 0))] v fun x30 w29=>
 ∃ q31,(pF 152 #[x_1.val,x2_3.val,x30.val] w29 (.bool q31))∧
 (q31=true→
 Q (iV 0) w29)∧
 (q31=false→
 Q (iV (-1)) w29))∧
 ((decide (n2_0=4))=false→
 ((decide (n2_0=5))=true→
 bS 28 1 #[(0,(iV 0))] v fun x36 w35=>
 ∃ q37,(pF 152 #[x_1.val,x2_3.val,x36.val] w35 (.bool q37))∧
 (q37=true→
 Q (iV 0) w35)∧
 (q37=false→
 Q (iV (-1)) w35))∧
 ((decide (n2_0=5))=false→
 ((decide (n2_0=6))=true→
 ∃ n40,(pF 126 #[x0_0.val,iV n2_1] v (iV n40))∧
 ((decide (n40 > 0))=true→
 zt7 95 #[x0_0.val,iV n2_1] v fun x45 w44=>
 Sub v w44∧
 ∃ q46,(pF 152 #[x_1.val,x2_3.val,x45.val] w44 (.bool q46))∧
 (q46=true→
 ∃ n49,(pF 126 #[x0_0.val,iV n2_1] w44 (iV n49))∧
 Q (iV n49) w44)∧
 (q46=false→
 Q (iV (-1)) w44))∧
 ((decide (n40 > 0))=false→
 Sub v v∧
 Q (iV (-1)) v))∧
 ((decide (n2_0=6))=false→
 ((decide (n2_0=7))=true→
 bS 28 1 #[(0,(iV 0))] v fun x54 w53=>
 ∃ q55,(pF 152 #[x_1.val,x2_3.val,x54.val] w53 (.bool q55))∧
 (q55=true→
 zt4 153 #[.agg #[x0_0.val,x0_1.val],x_1.val,.agg #[iV n2_0,iV n2_1,iV n2_2,x2_3.val,x2_4.val]] w53 fun n60 w59=>
 Q (iV n60) w59)∧
 (q55=false→
 Q (iV (-1)) w53))∧
 ((decide (n2_0=7))=false→
 ((decide (n2_0=8))=true→
 bS 28 1 #[(0,(iV n2_1))] v fun x63 w62=>
 ∃ q64,(pF 152 #[x_1.val,x2_3.val,x63.val] w62 (.bool q64))∧
 (q64=true→
 zt4 153 #[.agg #[x0_0.val,x0_1.val],x_1.val,.agg #[iV n2_0,iV n2_1,iV n2_2,x2_3.val,x2_4.val]] w62 fun n69 w68=>
 Q (iV n69) w68)∧
 (q64=false→
 Q (iV (-1)) w62))∧
 ((decide (n2_0=8))=false→
 ((decide (n2_0=9))=true→
 zt4 154 #[.agg #[x0_0.val,x0_1.val],x_1.val,.agg #[iV n2_0,iV n2_1,iV n2_2,x2_3.val,x2_4.val]] v fun n72 w71=>
 Q (iV n72) w71)∧
 ((decide (n2_0=9))=false→
 ((decide (n2_0=10))=true→
 zt4 154 #[.agg #[x0_0.val,x0_1.val],x_1.val,.agg #[iV n2_0,iV n2_1,iV n2_2,x2_3.val,x2_4.val]] v fun n75 w74=>
 Q (iV n75) w74)∧
 ((decide (n2_0=10))=false→
 ((decide (n2_0=11))=true→
 ((decide ((x2_3.n:Int)=2))=true→
 IxOk x2_3 0)∧
 ∃ n76:Int,((decide ((x2_3.n:Int)=2))=true→
 v.cell? ((elA x2_3 0 1).add 0)=some (iV n76))∧
 ∃ n77:Int,((decide ((x2_3.n:Int)=2))=true→
 Wr .i64 ((x_1.n:Int) - 1) n77)∧
 ∃ q78:Bool,((decide ((x2_3.n:Int)=2))=true→
 (pF 36 #[iV n76,iV 0,iV n77] v (.bool q78)))∧
 (((decide ((x2_3.n:Int)=2)) && q78)=true→
 IxOk x2_3 0)∧
 ∃ n81:Int,(((decide ((x2_3.n:Int)=2)) && q78)=true→
 v.cell? ((elA x2_3 0 1).add 0)=some (iV n81))∧
 (((decide ((x2_3.n:Int)=2)) && q78)=true→
 IxOk x_1 n81)∧
 ∃ n82:Int,(((decide ((x2_3.n:Int)=2)) && q78)=true→
 v.cell? ((elA x_1 n81 1).add 0)=some (iV n82))∧
 ∃ q83:Bool,(((decide ((x2_3.n:Int)=2)) && q78)=true→
 (pF 155 #[x0_0.val,iV n82] v (.bool q83)))∧
 ((((decide ((x2_3.n:Int)=2)) && q78) && q83)=true→
 IxOk x2_3 0∧
 zl6 v x2_3 0 fun n86=>
 IxOk x_1 n86∧
 zl6 v x_1 n86 fun n87=>
 ∃ n88,Wr .i64 (n87 - 1) n88∧
 IxOk x0_0 n88∧
 zl5 v x0_0 n88 fun n89 n90 x91=>
 Sub v v∧
 ((0:Int)≤1∧1≤(x2_3.n:Int))∧
 bS 28 1 #[(0,(iV n89))] v fun x94 w93=>
 Sub v w93∧
 ∃ q95,(pF 152 #[x_1.val,(x2_3.cut 1 (x2_3.n:Int) 1).val,x94.val] w93 (.bool q95))∧
 (q95=true→
 Q (iV n90) w93)∧
 (q95=false→
 Q (iV (-1)) w93))∧
 ((((decide ((x2_3.n:Int)=2)) && q78) && q83)=false→
 Q (iV (-1)) v))∧
 ((decide (n2_0=11))=false→
 ((decide (n2_0=14))=true→
 zt4 156 #[.agg #[x0_0.val,x0_1.val],x_1.val,.agg #[iV n2_0,iV n2_1,iV n2_2,x2_3.val,x2_4.val]] v fun n100 w99=>
 Q (iV n100) w99)∧
 ((decide (n2_0=14))=false→
 ((decide (n2_0=15))=true→
 zt4 156 #[.agg #[x0_0.val,x0_1.val],x_1.val,.agg #[iV n2_0,iV n2_1,iV n2_2,x2_3.val,x2_4.val]] v fun n103 w102=>
 Q (iV n103) w102)∧
 ((decide (n2_0=15))=false→
 ((decide (n2_0=16))=true→
 zt4 156 #[.agg #[x0_0.val,x0_1.val],x_1.val,.agg #[iV n2_0,iV n2_1,iV n2_2,x2_3.val,x2_4.val]] v fun n106 w105=>
 Q (iV n106) w105)∧
 ((decide (n2_0=16))=false→
 ((decide (n2_0=17))=true→
 zt4 156 #[.agg #[x0_0.val,x0_1.val],x_1.val,.agg #[iV n2_0,iV n2_1,iV n2_2,x2_3.val,x2_4.val]] v fun n109 w108=>
 Q (iV n109) w108)∧
 ((decide (n2_0=17))=false→
 Q (iV (-1)) v)))))))))))))))))
theorem of113e (x0_0 x0_1 x_1:Sl) (n2_0 n2_1 n2_2:Int) (x2_3 x2_4:Sl) (v:World) (Q:QT) (h:vc113e x0_0 x0_1 x_1 n2_0 n2_1 n2_2 x2_3 x2_4 v Q):Tr 113 #[.agg #[x0_0.val,x0_1.val],x_1.val,.agg #[iV n2_0,iV n2_1,iV n2_2,x2_3.val,x2_4.val]] v Q:=
 trip_of_eq (args:=[.ag [.sl x0_0,.sl x0_1],.sl x_1,.ag [.num .i64 n2_0,.num .i64 n2_1,.num .i64 n2_2,.sl x2_3,.sl x2_4]]) (A:=⟨[],[],[(17,[14]),(30,[12]),(31,[6])],[999999],[7,8,10,11,12,14,15,19,23,24,25,28,31,35,36,68,74,81,88,91,92,97,106,108,109,116,124,125,126,127,131,132,141,150,151,152,155,157,158,160,162,163,166,169,170,171,174,176]⟩) Tryz.func113 (by kernel_rfl) (by kernel_rfl) (by kernel_rfl:vc113e x0_0 x0_1 x_1 n2_0 n2_1 n2_2 x2_3 x2_4 v Q=_) h
def vc153e (x0_0 x0_1 x_1:Sl) (n2_0 n2_1 n2_2:Int) (x2_3 x2_4:Sl) (v:World) (Q:QT):Prop:=
 zt7 94 #[x0_0.val,iV n2_1] v fun x3 w2=>
 ((decide (n2_0=7))=true→
 (((decide ((2:Int)=0)) || (!decide ((x2_4.n:Int)=2)))=true→
 Q (iV (-1)) w2)∧
 (((decide ((2:Int)=0)) || (!decide ((x2_4.n:Int)=2)))=false→
 ∃ I4:zI0,∃ m5:zN0,I4 0 0 w2∧
 ∀ n6 n7 w8,I4 n6 n7 w8→
 ((decide (n7 < 2))=true→
 ((decide (n2_0=8))=true→
 IxOk x3 n7∧
 zl6 w8 x3 n7 fun n9=>
 zt7 95 #[x0_0.val,iV n9] w8 fun x12 w11=>
 zt7 99 #[x_1.val,x12.val] w11 fun x15 w14=>
 IxOk x2_4 n7∧
 zl1 w14 x2_4 n7 fun x16 n17=>
 zt4 117 #[.agg #[x0_0.val,x0_1.val],x15.val,.agg #[x16.val,iV n17]] w14 fun n20 w19=>
 (((decide (n20 < 0)) || ((decide (n7 > 0)) && (!decide (n20=n6))))=true→
 Q (iV (-1)) w19)∧
 (((decide (n20 < 0)) || ((decide (n7 > 0)) && (!decide (n20=n6))))=false→
 ∃ n21,Wr .i64 (n7+1) n21∧
 zq22 x0_0 x0_1 n2_0 n2_1 n2_2 x2_3 x2_4 fun _=>
 I4 n20 n21 w19∧
 m5 n20 n21 w19 < m5 n6 n7 w8))∧
 ((decide (n2_0=8))=false→
 IxOk x2_4 n7∧
 zl1 w8 x2_4 n7 fun x22 n23=>
 zt4 117 #[.agg #[x0_0.val,x0_1.val],x_1.val,.agg #[x22.val,iV n23]] w8 fun n26 w25=>
 (((decide (n26 < 0)) || ((decide (n7 > 0)) && (!decide (n26=n6))))=true→
 Q (iV (-1)) w25)∧
 (((decide (n26 < 0)) || ((decide (n7 > 0)) && (!decide (n26=n6))))=false→
 ∃ n27,Wr .i64 (n7+1) n27∧
 zq22 x0_0 x0_1 n2_0 n2_1 n2_2 x2_3 x2_4 fun _=>
 I4 n26 n27 w25∧
 m5 n26 n27 w25 < m5 n6 n7 w8)))∧
 ((decide (n7 < 2))=false→
 Q (iV n6) w8)))∧
 ((decide (n2_0=7))=false→
 (((decide ((x3.n:Int)=0)) || (!decide ((x2_4.n:Int)=(x3.n:Int))))=true→
 Q (iV (-1)) w2)∧
 (((decide ((x3.n:Int)=0)) || (!decide ((x2_4.n:Int)=(x3.n:Int))))=false→
 ∃ I28:zI0,∃ m29:zN0,I28 0 0 w2∧
 ∀ n30 n31 w32,I28 n30 n31 w32→
 ((decide (n31 < (x3.n:Int)))=true→
 ((decide (n2_0=8))=true→
 IxOk x3 n31∧
 zl6 w32 x3 n31 fun n33=>
 zt7 95 #[x0_0.val,iV n33] w32 fun x36 w35=>
 zt7 99 #[x_1.val,x36.val] w35 fun x39 w38=>
 IxOk x2_4 n31∧
 zl1 w38 x2_4 n31 fun x40 n41=>
 zt4 117 #[.agg #[x0_0.val,x0_1.val],x39.val,.agg #[x40.val,iV n41]] w38 fun n44 w43=>
 (((decide (n44 < 0)) || ((decide (n31 > 0)) && (!decide (n44=n30))))=true→
 Q (iV (-1)) w43)∧
 (((decide (n44 < 0)) || ((decide (n31 > 0)) && (!decide (n44=n30))))=false→
 ∃ n45,Wr .i64 (n31+1) n45∧
 zq22 x0_0 x0_1 n2_0 n2_1 n2_2 x2_3 x2_4 fun _=>
 I28 n44 n45 w43∧
 m29 n44 n45 w43 < m29 n30 n31 w32))∧
 ((decide (n2_0=8))=false→
 IxOk x2_4 n31∧
 zl1 w32 x2_4 n31 fun x46 n47=>
 zt4 117 #[.agg #[x0_0.val,x0_1.val],x_1.val,.agg #[x46.val,iV n47]] w32 fun n50 w49=>
 (((decide (n50 < 0)) || ((decide (n31 > 0)) && (!decide (n50=n30))))=true→
 Q (iV (-1)) w49)∧
 (((decide (n50 < 0)) || ((decide (n31 > 0)) && (!decide (n50=n30))))=false→
 ∃ n51,Wr .i64 (n31+1) n51∧
 zq22 x0_0 x0_1 n2_0 n2_1 n2_2 x2_3 x2_4 fun _=>
 I28 n50 n51 w49∧
 m29 n50 n51 w49 < m29 n30 n31 w32)))∧
 ((decide (n31 < (x3.n:Int)))=false→
 Q (iV n30) w32)))
theorem of153e (x0_0 x0_1 x_1:Sl) (n2_0 n2_1 n2_2:Int) (x2_3 x2_4:Sl) (v:World) (Q:QT) (h:vc153e x0_0 x0_1 x_1 n2_0 n2_1 n2_2 x2_3 x2_4 v Q):Tr 153 #[.agg #[x0_0.val,x0_1.val],x_1.val,.agg #[iV n2_0,iV n2_1,iV n2_2,x2_3.val,x2_4.val]] v Q:=
 trip_of_eq (args:=[.ag [.sl x0_0,.sl x0_1],.sl x_1,.ag [.num .i64 n2_0,.num .i64 n2_1,.num .i64 n2_2,.sl x2_3,.sl x2_4]]) (A:=⟨[(9,[(9,.int .i64),(10,.int .i64)],[])],[],[(13,[]),(14,[])],[999999],[7,8,10,11,12,14,15,19,23,24,25,28,31,35,36,68,74,81,88,91,92,97,106,108,109,116,124,125,126,127,131,132,141,150,151,152,155,157,158,160,162,163,166,169,170,171,174,176]⟩) Tryz.func153 (by kernel_rfl) (by kernel_rfl) (by kernel_rfl:vc153e x0_0 x0_1 x_1 n2_0 n2_1 n2_2 x2_3 x2_4 v Q=_) h
def vc154e (x0_0 x0_1 x_1:Sl) (n2_0 n2_1 n2_2:Int) (x2_3 x2_4:Sl) (v:World) (Q:QT):Prop:=
 ∃ n1,Wr .i64 ((x0_1.n:Int) - 1) n1∧
 ∃ q2,(pF 36 #[iV n2_1,iV 0,iV n1] v (.bool q2))∧
 ((!q2)=true→
 Q (iV (-1)) v)∧
 ((!q2)=false→
 IxOk x0_1 n2_1∧
 zl3 v x0_1 n2_1 fun x5 x6 n7 x8 n9=>
 ((decide (n2_0=9))=true→
 ∃ q10,(pF 152 #[x_1.val,x2_3.val,x5.val] v (.bool q10))∧
 ((!q10)=true→
 Q (iV (-1)) v)∧
 ((!q10)=false→
 Q (iV n7) v))∧
 ((decide (n2_0=9))=false→
 ∃ n13:Int,(((decide ((x5.n:Int)=0)) || (decide ((x6.n:Int) > 0)))=false→
 Wr .i64 ((x5.n:Int) - 1) n13)∧
 (((decide ((x5.n:Int)=0)) || (decide ((x6.n:Int) > 0)))=false→
 CutOk x5 0 n13)∧
 ∃ q14:Bool,(((decide ((x5.n:Int)=0)) || (decide ((x6.n:Int) > 0)))=false→
 (pF 152 #[x_1.val,x2_3.val,(x5.cut 0 n13 1).val] v (.bool q14)))∧
 ((((decide ((x5.n:Int)=0)) || (decide ((x6.n:Int) > 0))) || (!q14))=true→
 Q (iV (-1)) v)∧
 ((((decide ((x5.n:Int)=0)) || (decide ((x6.n:Int) > 0))) || (!q14))=false→
 ∃ n17,Wr .i64 ((x5.n:Int) - 1) n17∧
 IxOk x5 n17∧
 zl6 v x5 n17 fun n18=>
 ∃ n19,(pF 169 #[x0_0.val,iV n18,iV n7] v (iV n19))∧
 Q (iV n19) v)))
theorem of154e (x0_0 x0_1 x_1:Sl) (n2_0 n2_1 n2_2:Int) (x2_3 x2_4:Sl) (v:World) (Q:QT) (h:vc154e x0_0 x0_1 x_1 n2_0 n2_1 n2_2 x2_3 x2_4 v Q):Tr 154 #[.agg #[x0_0.val,x0_1.val],x_1.val,.agg #[iV n2_0,iV n2_1,iV n2_2,x2_3.val,x2_4.val]] v Q:=
 trip_of_eq (args:=[.ag [.sl x0_0,.sl x0_1],.sl x_1,.ag [.num .i64 n2_0,.num .i64 n2_1,.num .i64 n2_2,.sl x2_3,.sl x2_4]]) (A:=⟨[],[],[],[999999],[7,8,10,11,12,14,15,19,23,24,25,28,31,35,36,68,74,81,88,91,92,97,106,108,109,116,124,125,126,127,131,132,141,150,151,152,155,157,158,160,162,163,166,169,170,171,174,176]⟩) Tryz.func154 (by kernel_rfl) (by kernel_rfl) (by kernel_rfl:vc154e x0_0 x0_1 x_1 n2_0 n2_1 n2_2 x2_3 x2_4 v Q=_) h
def vc117e (x0_0 x0_1 x_1 x2_0:Sl) (n2_1:Int) (v:World) (Q:QT):Prop:=
 zt7 50 #[x_1.val] v fun x3 w2=>
 ∃ I4:zI4,∃ m5:zN4,I4 x3 0 w2∧
 ∀ x6 n7 w8,I4 x6 n7 w8→
 ((decide (n7 < (x2_0.n:Int)))=true→
 IxOk x2_0 n7∧
 zl0 w8 x2_0 n7 fun n9 n10 n11 x12 x13=>
 zt4 113 #[.agg #[x0_0.val,x0_1.val],x6.val,.agg #[iV n9,iV n10,iV n11,x12.val,x13.val]] w8 fun n16 w15=>
 ((decide (n16 < 0))=true→
 Q (iV (-1)) w15)∧
 ((decide (n16 < 0))=false→
 IxOk x2_0 n7∧
 zl16 w15 x2_0 n7 fun n17=>
 ∃ q18,(pF 97 #[iV n17] w15 (.bool q18))∧
 (q18=true→
 bS 28 1 #[(0,(iV n16))] w15 fun x23 w22=>
 aS 28 x6 x23 w22 fun x26 w25=>
 ∃ n27,Wr .i64 (n7+1) n27∧
 zq24 x0_0 x0_1 x2_0 n2_1 fun _=>
 I4 x26 n27 w25∧
 m5 x26 n27 w25 < m5 x6 n7 w8)∧
 (q18=false→
 ∃ n28,Wr .i64 (n7+1) n28∧
 zq24 x0_0 x0_1 x2_0 n2_1 fun _=>
 I4 x6 n28 w15∧
 m5 x6 n28 w15 < m5 x6 n7 w8)))∧
 ((decide (n7 < (x2_0.n:Int)))=false→
 ∃ n29,Wr .i64 ((x6.n:Int) - 1) n29∧
 ∃ q30,(pF 36 #[iV n2_1,iV 0,iV n29] w8 (.bool q30))∧
 ((!q30)=true→
 Q (iV (-1)) w8)∧
 ((!q30)=false→
 IxOk x6 n2_1∧
 zl6 w8 x6 n2_1 fun n33=>
 Q (iV n33) w8))
theorem of117e (x0_0 x0_1 x_1 x2_0:Sl) (n2_1:Int) (v:World) (Q:QT) (h:vc117e x0_0 x0_1 x_1 x2_0 n2_1 v Q):Tr 117 #[.agg #[x0_0.val,x0_1.val],x_1.val,.agg #[x2_0.val,iV n2_1]] v Q:=
 trip_of_eq (args:=[.ag [.sl x0_0,.sl x0_1],.sl x_1,.ag [.sl x2_0,.num .i64 n2_1]]) (A:=⟨[(3,[(7,.sl),(8,.int .i64)],[])],[],[(5,[])],[],[7,8,10,11,12,14,15,19,23,24,25,28,31,35,36,68,74,81,88,91,92,97,106,108,109,116,124,125,126,127,131,132,141,150,151,152,155,157,158,160,162,163,166,169,170,171,174,176]⟩) Tryz.func117 (by kernel_rfl) (by kernel_rfl) (by kernel_rfl:vc117e x0_0 x0_1 x_1 x2_0 n2_1 v Q=_) h
def vc156e (x0_0 x0_1 x_1:Sl) (n2_0 n2_1 n2_2:Int) (x2_3 x2_4:Sl) (v:World) (Q:QT):Prop:=
 ((!decide ((x2_3.n:Int)=1))=false→
 IxOk x2_3 0)∧
 ∃ n1:Int,((!decide ((x2_3.n:Int)=1))=false→
 v.cell? ((elA x2_3 0 1).add 0)=some (iV n1))∧
 ∃ n2:Int,((!decide ((x2_3.n:Int)=1))=false→
 Wr .i64 ((x_1.n:Int) - 1) n2)∧
 ∃ q3:Bool,((!decide ((x2_3.n:Int)=1))=false→
 (pF 36 #[iV n1,iV 0,iV n2] v (.bool q3)))∧
 (((!decide ((x2_3.n:Int)=1)) || (!q3))=false→
 IxOk x2_3 0)∧
 ∃ n6:Int,(((!decide ((x2_3.n:Int)=1)) || (!q3))=false→
 v.cell? ((elA x2_3 0 1).add 0)=some (iV n6))∧
 (((!decide ((x2_3.n:Int)=1)) || (!q3))=false→
 IxOk x_1 n6)∧
 ∃ n7:Int,(((!decide ((x2_3.n:Int)=1)) || (!q3))=false→
 v.cell? ((elA x_1 n6 1).add 0)=some (iV n7))∧
 ((((!decide ((x2_3.n:Int)=1)) || (!q3)) || (decide (n7=0)))=true→
 Q (iV (-1)) v)∧
 ((((!decide ((x2_3.n:Int)=1)) || (!q3)) || (decide (n7=0)))=false→
 (((!decide (n2_0=14)) && (!decide (n2_0=15)))=true→
 IxOk x2_3 0)∧
 ∃ n8:Int,(((!decide (n2_0=14)) && (!decide (n2_0=15)))=true→
 v.cell? ((elA x2_3 0 1).add 0)=some (iV n8))∧
 (((!decide (n2_0=14)) && (!decide (n2_0=15)))=true→
 IxOk x_1 n8)∧
 ∃ n9:Int,(((!decide (n2_0=14)) && (!decide (n2_0=15)))=true→
 v.cell? ((elA x_1 n8 1).add 0)=some (iV n9))∧
 ∃ q10:Bool,(((!decide (n2_0=14)) && (!decide (n2_0=15)))=true→
 (pF 155 #[x0_0.val,iV n9] v (.bool q10)))∧
 ((((!decide (n2_0=14)) && (!decide (n2_0=15))) && q10)=true→
 Q (iV (-1)) v)∧
 ((((!decide (n2_0=14)) && (!decide (n2_0=15))) && q10)=false→
 Q (iV 0) v))
theorem of156e (x0_0 x0_1 x_1:Sl) (n2_0 n2_1 n2_2:Int) (x2_3 x2_4:Sl) (v:World) (Q:QT) (h:vc156e x0_0 x0_1 x_1 n2_0 n2_1 n2_2 x2_3 x2_4 v Q):Tr 156 #[.agg #[x0_0.val,x0_1.val],x_1.val,.agg #[iV n2_0,iV n2_1,iV n2_2,x2_3.val,x2_4.val]] v Q:=
 trip_of_eq (args:=[.ag [.sl x0_0,.sl x0_1],.sl x_1,.ag [.num .i64 n2_0,.num .i64 n2_1,.num .i64 n2_2,.sl x2_3,.sl x2_4]]) (A:=⟨[],[],[],[999999],[7,8,10,11,12,14,15,19,23,24,25,28,31,35,36,68,74,81,88,91,92,97,106,108,109,116,124,125,126,127,131,132,141,150,151,152,155,157,158,160,162,163,166,169,170,171,174,176]⟩) Tryz.func156 (by kernel_rfl) (by kernel_rfl) (by kernel_rfl:vc156e x0_0 x0_1 x_1 n2_0 n2_1 n2_2 x2_3 x2_4 v Q=_) h
def vc111e (x0_0 x0_1 x_1 x2_0:Sl) (n2_1:Int) (x_3 x_4:Sl) (v:World) (Q:QT):Prop:=
 bS 23 0 #[] v fun x3 w2=>
 zt7 50 #[x_1.val] w2 fun x6 w5=>
 zt7 50 #[x_3.val] w5 fun x9 w8=>
 ∃ I10:zI10,∃ m11:zN10,I10 x3 x6 x9 0 w8∧
 ∀ x12 x13 x14 n15 w16,I10 x12 x13 x14 n15 w16→
 ((decide (n15 < (x2_0.n:Int)))=true→
 IxOk x2_0 n15∧
 zl0 w16 x2_0 n15 fun n17 n18 n19 x20 x21=>
 zt4 113 #[.agg #[x0_0.val,x0_1.val],x13.val,.agg #[iV n17,iV n18,iV n19,x20.val,x21.val]] w16 fun n24 w23=>
 ∃ n25,Wr .i64 ((x13.n:Int)+1) n25∧
 ∃ n26,Wr .i64 (n15+1) n26∧
 bS 28 0 #[] w23 fun x29 w28=>
 zt7 143 #[.agg #[x2_0.val,iV n2_1],iV n25,iV n26,x29.val] w28 fun x32 w31=>
 zt7 144 #[x32.val,x_4.val] w31 fun x35 w34=>
 zt7 145 #[.agg #[x0_0.val,x0_1.val],x13.val,.agg #[iV n17,iV n18,iV n19,x20.val,x21.val],x14.val,x35.val] w34 fun x38 w37=>
 zt7 112 #[iV 14,x38.val] w37 fun x41 w40=>
 aS 23 x12 x41 w40 fun x44 w43=>
 zt10 146 #[.agg #[x0_0.val,x0_1.val],x13.val,.agg #[iV n17,iV n18,iV n19,x20.val,x21.val],x14.val,x35.val] w43 fun n47 n48 n49 x50 x51 w46=>
 bS 23 1 #[(0,(.agg #[iV n47,iV n48,iV n49,x50.val,x51.val]))] w46 fun x54 w53=>
 aS 23 x44 x54 w53 fun x57 w56=>
 zt7 147 #[.agg #[x0_0.val,x0_1.val],x13.val,.agg #[iV n17,iV n18,iV n19,x20.val,x21.val],x14.val,x35.val] w56 fun x60 w59=>
 zt7 148 #[.agg #[x0_0.val,x0_1.val],.agg #[iV n17,iV n18,iV n19,x20.val,x21.val],x60.val,x35.val] w59 fun x63 w62=>
 zt7 112 #[iV 15,x63.val] w62 fun x66 w65=>
 aS 23 x57 x66 w65 fun x69 w68=>
 ∃ I70:zI4,∃ m71:zN4,I70 x60 0 w68∧
 ∀ x72 n73 w74,I70 x72 n73 w74→
 ((decide (n73 < (x63.n:Int)))=true→
 IxOk x63 n73∧
 zl6 w74 x63 n73 fun n75=>
 zt7 149 #[x72.val,iV n75] w74 fun x78 w77=>
 ∃ n79,Wr .i64 (n73+1) n79∧
 zq26 x0_0 x0_1 x2_0 n2_1 (Sl.mk none 0 0) 0 n17 n18 n19 x20 x21 fun _=>
 I70 x78 n79 w77∧
 m71 x78 n79 w77 < m71 x72 n73 w74)∧
 ((decide (n73 < (x63.n:Int)))=false→
 bS 28 1 #[(0,(iV n24))] w74 fun x82 w81=>
 aS 28 x13 x82 w81 fun x85 w84=>
 ∃ q86:Bool,((!decide (n24=0))=true→
 (pF 91 #[x35.val,iV (x13.n:Int)] w84 (.bool q86)))∧
 (((!decide (n24=0)) && q86)=true→
 bS 28 1 #[(0,(iV (x13.n:Int)))] w84 fun x91 w90=>
 aS 28 x72 x91 w90 fun x94 w93=>
 ∃ n95,Wr .i64 (n15+1) n95∧
 zq25 x0_0 x0_1 x2_0 n2_1 (Sl.mk none 0 0) 0 fun _=>
 I10 x69 x85 x94 n95 w93∧
 m11 x69 x85 x94 n95 w93 < m11 x12 x13 x14 n15 w16)∧
 (((!decide (n24=0)) && q86)=false→
 ((!decide (n24=0))=true→
 zt10 55 #[iV 15,iV (x13.n:Int)] w84 fun n98 n99 n100 x101 x102 w97=>
 bS 23 1 #[(0,(.agg #[iV n98,iV n99,iV n100,x101.val,x102.val]))] w97 fun x105 w104=>
 aS 23 x69 x105 w104 fun x108 w107=>
 ∃ n109,Wr .i64 (n15+1) n109∧
 zq25 x0_0 x0_1 x2_0 n2_1 (Sl.mk none 0 0) 0 fun _=>
 I10 x108 x85 x72 n109 w107∧
 m11 x108 x85 x72 n109 w107 < m11 x12 x13 x14 n15 w16)∧
 ((!decide (n24=0))=false→
 ∃ n110,Wr .i64 (n15+1) n110∧
 zq25 x0_0 x0_1 x2_0 n2_1 (Sl.mk none 0 0) 0 fun _=>
 I10 x69 x85 x72 n110 w84∧
 m11 x69 x85 x72 n110 w84 < m11 x12 x13 x14 n15 w16))))∧
 ((decide (n15 < (x2_0.n:Int)))=false→
 IxOk x13 n2_1∧
 zl6 w16 x13 n2_1 fun n111=>
 ∃ q112:Bool,((!decide (n111=0))=true→
 (pF 91 #[x_4.val,iV n2_1] w16 (.bool q112)))∧
 ∃ q115:Bool,(q112=false→
 (!decide (n111=0))=true→
 (pF 91 #[x14.val,iV n2_1] w16 (.bool q115)))∧
 (((!decide (n111=0)) && (q112 || (!q115)))=true→
 zt10 55 #[iV 14,iV n2_1] w16 fun n120 n121 n122 x123 x124 w119=>
 bS 23 1 #[(0,(.agg #[iV n120,iV n121,iV n122,x123.val,x124.val]))] w119 fun x127 w126=>
 aS 23 x12 x127 w126 fun x130 w129=>
 Q (.agg #[x130.val,iV n2_1]) w129)∧
 (((!decide (n111=0)) && (q112 || (!q115)))=false→
 Q (.agg #[x12.val,iV n2_1]) w16))
theorem of111e (x0_0 x0_1 x_1 x2_0:Sl) (n2_1:Int) (x_3 x_4:Sl) (v:World) (Q:QT) (h:vc111e x0_0 x0_1 x_1 x2_0 n2_1 x_3 x_4 v Q):Tr 111 #[.agg #[x0_0.val,x0_1.val],x_1.val,.agg #[x2_0.val,iV n2_1],x_3.val,x_4.val] v Q:=
 trip_of_eq (args:=[.ag [.sl x0_0,.sl x0_1],.sl x_1,.ag [.sl x2_0,.num .i64 n2_1],.sl x_3,.sl x_4]) (A:=⟨[(5,[(11,.sl),(12,.sl),(13,.sl),(14,.int .i64)],[]),(17,[(13,.sl),(20,.int .i64)],[])],[],[],[],[7,8,10,11,12,14,15,19,23,24,25,28,31,35,36,68,74,81,88,91,92,97,106,108,109,116,124,125,126,127,131,132,141,150,151,152,155,157,158,160,162,163,166,169,170,171,174,176]⟩) Tryz.func111 (by kernel_rfl) (by kernel_rfl) (by kernel_rfl:vc111e x0_0 x0_1 x_1 x2_0 n2_1 x_3 x_4 v Q=_) h
def vc86e (x0_0 x0_1 x_1 x2_0:Sl) (n2_1:Int) (x_3:Sl) (v:World) (Q:QT):Prop:=
 bS 23 0 #[] v fun x3 w2=>
 zt7 50 #[x_1.val] w2 fun x6 w5=>
 zt7 50 #[x_3.val] w5 fun x9 w8=>
 ∃ I10:zI10,∃ m11:zN10,I10 x3 x6 x9 0 w8∧
 ∀ x12 x13 x14 n15 w16,I10 x12 x13 x14 n15 w16→
 ((decide (n15 < (x2_0.n:Int)))=true→
 IxOk x2_0 n15∧
 zl0 w16 x2_0 n15 fun n17 n18 n19 x20 x21=>
 zt4 113 #[.agg #[x0_0.val,x0_1.val],x13.val,.agg #[iV n17,iV n18,iV n19,x20.val,x21.val]] w16 fun n24 w23=>
 zt7 114 #[.agg #[x0_0.val,x0_1.val],x13.val,.agg #[iV n17,iV n18,iV n19,x20.val,x21.val]] w23 fun x27 w26=>
 zt7 112 #[iV 14,x27.val] w26 fun x30 w29=>
 aS 23 x12 x30 w29 fun x33 w32=>
 zt10 115 #[.agg #[x0_0.val,x0_1.val],x13.val,.agg #[iV n17,iV n18,iV n19,x20.val,x21.val]] w32 fun n36 n37 n38 x39 x40 w35=>
 bS 23 1 #[(0,(.agg #[iV n36,iV n37,iV n38,x39.val,x40.val]))] w35 fun x43 w42=>
 aS 23 x33 x43 w42 fun x46 w45=>
 ((!decide (n24=0))=true→
 bS 28 1 #[(0,(iV (x13.n:Int)))] w45 fun x49 w48=>
 aS 28 x14 x49 w48 fun x52 w51=>
 bS 28 1 #[(0,(iV n24))] w51 fun x55 w54=>
 aS 28 x13 x55 w54 fun x58 w57=>
 ∃ n59,Wr .i64 (n15+1) n59∧
 zq25 x0_0 x0_1 x2_0 n2_1 (Sl.mk none 0 0) 0 fun _=>
 I10 x46 x58 x52 n59 w57∧
 m11 x46 x58 x52 n59 w57 < m11 x12 x13 x14 n15 w16)∧
 ((!decide (n24=0))=false→
 bS 28 1 #[(0,(iV n24))] w45 fun x62 w61=>
 aS 28 x13 x62 w61 fun x65 w64=>
 ∃ n66,Wr .i64 (n15+1) n66∧
 zq25 x0_0 x0_1 x2_0 n2_1 (Sl.mk none 0 0) 0 fun _=>
 I10 x46 x65 x14 n66 w64∧
 m11 x46 x65 x14 n66 w64 < m11 x12 x13 x14 n15 w16))∧
 ((decide (n15 < (x2_0.n:Int)))=false→
 IxOk x13 n2_1∧
 zl6 w16 x13 n2_1 fun n67=>
 ((!decide (n67=0))=true→
 zt10 55 #[iV 14,iV n2_1] w16 fun n70 n71 n72 x73 x74 w69=>
 bS 23 1 #[(0,(.agg #[iV n70,iV n71,iV n72,x73.val,x74.val]))] w69 fun x77 w76=>
 aS 23 x12 x77 w76 fun x80 w79=>
 zt7 112 #[iV 15,x14.val] w79 fun x83 w82=>
 aS 23 x80 x83 w82 fun x86 w85=>
 Q (.agg #[x86.val,iV n2_1]) w85)∧
 ((!decide (n67=0))=false→
 zt7 112 #[iV 15,x14.val] w16 fun x89 w88=>
 aS 23 x12 x89 w88 fun x92 w91=>
 Q (.agg #[x92.val,iV n2_1]) w91))
theorem of86e (x0_0 x0_1 x_1 x2_0:Sl) (n2_1:Int) (x_3:Sl) (v:World) (Q:QT) (h:vc86e x0_0 x0_1 x_1 x2_0 n2_1 x_3 v Q):Tr 86 #[.agg #[x0_0.val,x0_1.val],x_1.val,.agg #[x2_0.val,iV n2_1],x_3.val] v Q:=
 trip_of_eq (args:=[.ag [.sl x0_0,.sl x0_1],.sl x_1,.ag [.sl x2_0,.num .i64 n2_1],.sl x_3]) (A:=⟨[(5,[(9,.sl),(10,.sl),(11,.sl),(12,.int .i64)],[])],[],[(16,[])],[],[7,8,10,11,12,14,15,19,23,24,25,28,31,35,36,68,74,81,88,91,92,97,106,108,109,116,124,125,126,127,131,132,141,150,151,152,155,157,158,160,162,163,166,169,170,171,174,176]⟩) Tryz.func86 (by kernel_rfl) (by kernel_rfl) (by kernel_rfl:vc86e x0_0 x0_1 x_1 x2_0 n2_1 x_3 v Q=_) h
def vc107e (x0_0:Sl) (n0_1 n_1:Int) (v:World) (Q:QT):Prop:=
 ∃ I1:zI1,∃ m2:zN1,I1 0 v∧
 ∀ n3 w4,I1 n3 w4→
 ((decide (n3 < (x0_0.n:Int)))=true→
 IxOk x0_0 n3∧
 zl16 w4 x0_0 n3 fun n5=>
 ((decide (n5=10))=true→
 IxOk x0_0 n3)∧
 ∃ n6:Int,((decide (n5=10))=true→
 w4.cell? ((elA x0_0 n3 5).add 1)=some (iV n6))∧
 (((decide (n5=10)) && (decide (n6=n_1)))=true→
 Q (.bool true) w4)∧
 (((decide (n5=10)) && (decide (n6=n_1)))=false→
 ∃ I7:zI1,∃ m8:zN1,I7 0 w4∧
 ∀ n9 w10,I7 n9 w10→
 IxOk x0_0 n3∧
 zl7 w10 x0_0 n3 fun x11=>
 ((decide (n9 < (x11.n:Int)))=true→
 IxOk x0_0 n3∧
 zl7 w10 x0_0 n3 fun x12=>
 IxOk x12 n9∧
 zl1 w10 x12 n9 fun x13 n14=>
 zt1 107 #[.agg #[x13.val,iV n14],iV n_1] w10 fun q17 w16=>
 (q17=true→
 Q (.bool true) w16)∧
 (q17=false→
 ∃ n18,Wr .i64 (n9+1) n18∧
 zq1 x0_0 n0_1 fun _=>
 I7 n18 w16∧
 m8 n18 w16 < m8 n9 w10))∧
 ((decide (n9 < (x11.n:Int)))=false→
 ∃ n19,Wr .i64 (n3+1) n19∧
 zq1 x0_0 n0_1 fun _=>
 I1 n19 w10∧
 m2 n19 w10 < m2 n3 w4)))∧
 ((decide (n3 < (x0_0.n:Int)))=false→
 Q (.bool false) w4)
theorem of107e (x0_0:Sl) (n0_1 n_1:Int) (v:World) (Q:QT) (h:vc107e x0_0 n0_1 n_1 v Q):Tr 107 #[.agg #[x0_0.val,iV n0_1],iV n_1] v Q:=
 trip_of_eq (args:=[.ag [.sl x0_0,.num .i64 n0_1],.num .i64 n_1]) (A:=⟨[(2,[(5,.int .i64)],[]),(7,[(6,.int .i64)],[])],[],[],[],[7,8,10,11,12,14,15,19,23,24,25,28,31,35,36,68,74,81,88,91,92,97,106,108,109,116,124,125,126,127,131,132,141,150,151,152,155,157,158,160,162,163,166,169,170,171,174,176]⟩) Tryz.func107 (by kernel_rfl) (by kernel_rfl) (by kernel_rfl:vc107e x0_0 n0_1 n_1 v Q=_) h
def vc82e (x0_0 x0_1:Sl) (n_1:Int) (v:World) (Q:QT):Prop:=
 ∃ I1:zI1,∃ m2:zN1,I1 0 v∧
 ∀ n3 w4,I1 n3 w4→
 ((decide (n3 < (x0_1.n:Int)))=true→
 IxOk x0_1 n3∧
 zl2 w4 x0_1 n3 fun x5 n6=>
 zt1 107 #[.agg #[x5.val,iV n6],iV n_1] w4 fun q9 w8=>
 (q9=true→
 Q (.bool true) w8)∧
 (q9=false→
 ∃ n10,Wr .i64 (n3+1) n10∧
 zq10 x0_0 x0_1 fun _=>
 I1 n10 w8∧
 m2 n10 w8 < m2 n3 w4))∧
 ((decide (n3 < (x0_1.n:Int)))=false→
 Q (.bool false) w4)
theorem of82e (x0_0 x0_1:Sl) (n_1:Int) (v:World) (Q:QT) (h:vc82e x0_0 x0_1 n_1 v Q):Tr 82 #[.agg #[x0_0.val,x0_1.val],iV n_1] v Q:=
 trip_of_eq (args:=[.ag [.sl x0_0,.sl x0_1],.num .i64 n_1]) (A:=⟨[(2,[(5,.int .i64)],[])],[],[],[],[7,8,10,11,12,14,15,19,23,24,25,28,31,35,36,68,74,81,88,91,92,97,106,108,109,116,124,125,126,127,131,132,141,150,151,152,155,157,158,160,162,163,166,169,170,171,174,176]⟩) Tryz.func82 (by kernel_rfl) (by kernel_rfl) (by kernel_rfl:vc82e x0_0 x0_1 n_1 v Q=_) h
def vc84e (x0_0 x0_1 x1_0:Sl) (n1_1 n_2:Int) (v:World) (Q:QT):Prop:=
 ((decide (n1_1=n_2))=true→
 Q (.bool true) v)∧
 ((decide (n1_1=n_2))=false→
 ∃ I1:zI1,∃ m2:zN1,I1 0 v∧
 ∀ n3 w4,I1 n3 w4→
 ((decide (n3 < (x1_0.n:Int)))=true→
 IxOk x1_0 n3∧
 zl0 w4 x1_0 n3 fun n5 n6 n7 x8 x9=>
 ∃ I10:zI1,∃ m11:zN1,I10 0 w4∧
 ∀ n12 w13,I10 n12 w13→
 ((decide (n12 < (x8.n:Int)))=true→
 IxOk x8 n12∧
 zl6 w13 x8 n12 fun n14=>
 ∃ q15:Bool,((decide (n14=n_2))=true→
 (pF 108 #[iV n5] w13 (.bool q15)))∧
 ∃ q18:Bool,(((decide (n14=n_2)) && q15)=true→
 (pF 109 #[.agg #[x0_0.val,x0_1.val],.agg #[iV n5,iV n6,iV n7,x8.val,x9.val],iV n12] w13 (.bool q18)))∧
 ((((decide (n14=n_2)) && q15) && (!q18))=true→
 Q (.bool true) w13)∧
 ((((decide (n14=n_2)) && q15) && (!q18))=false→
 ∃ n21,Wr .i64 (n12+1) n21∧
 zq27 x0_0 x0_1 x1_0 n1_1 n5 n6 n7 x8 x9 fun _=>
 I10 n21 w13∧
 m11 n21 w13 < m11 n12 w13))∧
 ((decide (n12 < (x8.n:Int)))=false→
 ∃ I22:zI1,∃ m23:zN1,I22 0 w13∧
 ∀ n24 w25,I22 n24 w25→
 ((decide (n24 < (x9.n:Int)))=true→
 IxOk x9 n24∧
 zl1 w25 x9 n24 fun x26 n27=>
 zt1 84 #[.agg #[x0_0.val,x0_1.val],.agg #[x26.val,iV n27],iV n_2] w25 fun q30 w29=>
 (q30=true→
 Q (.bool true) w29)∧
 (q30=false→
 ∃ n31,Wr .i64 (n24+1) n31∧
 zq27 x0_0 x0_1 x1_0 n1_1 n5 n6 n7 x8 x9 fun _=>
 I22 n31 w29∧
 m23 n31 w29 < m23 n24 w25))∧
 ((decide (n24 < (x9.n:Int)))=false→
 ∃ n32,Wr .i64 (n3+1) n32∧
 zq24 x0_0 x0_1 x1_0 n1_1 fun _=>
 I1 n32 w25∧
 m2 n32 w25 < m2 n3 w4)))∧
 ((decide (n3 < (x1_0.n:Int)))=false→
 Q (.bool false) w4))
theorem of84e (x0_0 x0_1 x1_0:Sl) (n1_1 n_2:Int) (v:World) (Q:QT) (h:vc84e x0_0 x0_1 x1_0 n1_1 n_2 v Q):Tr 84 #[.agg #[x0_0.val,x0_1.val],.agg #[x1_0.val,iV n1_1],iV n_2] v Q:=
 trip_of_eq (args:=[.ag [.sl x0_0,.sl x0_1],.ag [.sl x1_0,.num .i64 n1_1],.num .i64 n_2]) (A:=⟨[(4,[(7,.int .i64)],[]),(8,[(9,.int .i64)],[]),(13,[(10,.int .i64)],[])],[],[(15,[])],[],[7,8,10,11,12,14,15,19,23,24,25,28,31,35,36,68,74,81,88,91,92,97,106,108,109,116,124,125,126,127,131,132,141,150,151,152,155,157,158,160,162,163,166,169,170,171,174,176]⟩) Tryz.func84 (by kernel_rfl) (by kernel_rfl) (by kernel_rfl:vc84e x0_0 x0_1 x1_0 n1_1 n_2 v Q=_) h
def vc64e (x0_0 x0_1:Sl) (n_1:Int) (v:World) (Q:QT):Prop:=
 bS 28 0 #[] v fun x3 w2=>
 ∃ I4:zI4,∃ m5:zN4,I4 x3 0 w2∧
 ∀ x6 n7 w8,I4 x6 n7 w8→
 IxOk x0_1 n_1∧
 zl8 w8 x0_1 n_1 fun x9=>
 ((decide (n7 < (x9.n:Int)))=true→
 IxOk x0_1 n_1∧
 zl2 w8 x0_1 n_1 fun x10 n11=>
 IxOk x0_1 n_1∧
 zl8 w8 x0_1 n_1 fun x12=>
 IxOk x12 n7∧
 zl6 w8 x12 n7 fun n13=>
 zt1 84 #[.agg #[x0_0.val,x0_1.val],.agg #[x10.val,iV n11],iV n13] w8 fun q16 w15=>
 ((!q16)=true→
 IxOk x0_1 n_1∧
 zl8 w15 x0_1 n_1 fun x17=>
 IxOk x17 n7∧
 zl6 w15 x17 n7 fun n18=>
 bS 28 1 #[(0,(iV n18))] w15 fun x21 w20=>
 aS 28 x6 x21 w20 fun x24 w23=>
 ∃ n25,Wr .i64 (n7+1) n25∧
 zq10 x0_0 x0_1 fun _=>
 I4 x24 n25 w23∧
 m5 x24 n25 w23 < m5 x6 n7 w8)∧
 ((!q16)=false→
 ∃ n26,Wr .i64 (n7+1) n26∧
 zq10 x0_0 x0_1 fun _=>
 I4 x6 n26 w15∧
 m5 x6 n26 w15 < m5 x6 n7 w8))∧
 ((decide (n7 < (x9.n:Int)))=false→
 Q (x6.val) w8)
theorem of64e (x0_0 x0_1:Sl) (n_1:Int) (v:World) (Q:QT) (h:vc64e x0_0 x0_1 n_1 v Q):Tr 64 #[.agg #[x0_0.val,x0_1.val],iV n_1] v Q:=
 trip_of_eq (args:=[.ag [.sl x0_0,.sl x0_1],.num .i64 n_1]) (A:=⟨[(3,[(5,.sl),(6,.int .i64)],[])],[],[(5,[])],[],[7,8,10,11,12,14,15,19,23,24,25,28,31,35,36,68,74,81,88,91,92,97,106,108,109,116,124,125,126,127,131,132,141,150,151,152,155,157,158,160,162,163,166,169,170,171,174,176]⟩) Tryz.func64 (by kernel_rfl) (by kernel_rfl) (by kernel_rfl:vc64e x0_0 x0_1 n_1 v Q=_) h
def vc63e (x0_0 x0_1:Sl) (v:World) (Q:QT):Prop:=
 bS 94 0 #[] v fun x3 w2=>
 ∃ I4:zI4,∃ m5:zN4,I4 x3 0 w2∧
 ∀ x6 n7 w8,I4 x6 n7 w8→
 ((decide (n7 < (x0_1.n:Int)))=true→
 zt1 82 #[.agg #[x0_0.val,x0_1.val],iV n7] w8 fun q11 w10=>
 (q11=true→
 bS 28 0 #[] w10 fun x14 w13=>
 bS 94 1 #[(0,(x14.val))] w13 fun x17 w16=>
 aS 94 x6 x17 w16 fun x20 w19=>
 ∃ n21,Wr .i64 (n7+1) n21∧
 zq10 x0_0 x0_1 fun _=>
 I4 x20 n21 w19∧
 m5 x20 n21 w19 < m5 x6 n7 w8)∧
 (q11=false→
 IxOk x0_1 n7∧
 zl9 w10 x0_1 n7 fun x22=>
 zt7 83 #[x22.val,iV 0] w10 fun x25 w24=>
 bS 94 1 #[(0,(x25.val))] w24 fun x28 w27=>
 aS 94 x6 x28 w27 fun x31 w30=>
 ∃ n32,Wr .i64 (n7+1) n32∧
 zq10 x0_0 x0_1 fun _=>
 I4 x31 n32 w30∧
 m5 x31 n32 w30 < m5 x6 n7 w8))∧
 ((decide (n7 < (x0_1.n:Int)))=false→
 Q (x6.val) w8)
theorem of63e (x0_0 x0_1:Sl) (v:World) (Q:QT) (h:vc63e x0_0 x0_1 v Q):Tr 63 #[.agg #[x0_0.val,x0_1.val]] v Q:=
 trip_of_eq (args:=[.ag [.sl x0_0,.sl x0_1]]) (A:=⟨[(3,[(3,.sl),(4,.int .i64)],[])],[],[],[],[7,8,10,11,12,14,15,19,23,24,25,28,31,35,36,68,74,81,88,91,92,97,106,108,109,116,124,125,126,127,131,132,141,150,151,152,155,157,158,160,162,163,166,169,170,171,174,176]⟩) Tryz.func63 (by kernel_rfl) (by kernel_rfl) (by kernel_rfl:vc63e x0_0 x0_1 v Q=_) h
end Go.Vc
