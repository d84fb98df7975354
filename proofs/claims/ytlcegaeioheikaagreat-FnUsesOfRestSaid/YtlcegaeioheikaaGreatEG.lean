/- Part of the proofs about the heaps and memories: a law is joined in the text whose name ends in W and the law. -/
import Derived.Test.YtlcegaeioheikaaGreatEGa
set_option linter.all false
namespace Go.Vc
open Go Go.Proofs
def vc80 (a_0:Addr) (x1_0 x1_1 x_2:Sl) (n_3 n_4:Int) (v:World) (Q:QT):Prop:=
 zt12 101 #[pt a_0,.agg #[x1_0.val,x1_1.val],x_2.val,iV n_3,iV n_4] v fun n3 n4 x5 w2=>
 ∃ I6:zI7,∃ m7:zN7,I6 n_4 n3 n4 x5 w2∧
 ∀ n8 n9 n10 x11 w12,I6 n8 n9 n10 x11 w12→
 ∃ n13,(pF 81 #[.agg #[iV n9,iV n10,x11.val]] w12 (iV n13))∧
 (((decide (n13 < 0)) && (decide (n8 > 2)))=true→
 ∃ n16:Int,((2:Int)≠0∧Wr .i64 (Int.tdiv n8 2) n16)∧
 zt12 101 #[pt a_0,.agg #[x1_0.val,x1_1.val],x_2.val,iV n_3,iV n16] w12 fun n19 n20 x21 w18=>
 zq9 x1_0 x1_1 0 0 (Sl.mk none 0 0) fun _=>
 I6 n16 n19 n20 x21 w18∧
 m7 n16 n19 n20 x21 w18 < m7 n8 n9 n10 x11 w12)∧
 (((decide (n13 < 0)) && (decide (n8 > 2)))=false→
 Q (.agg #[iV n9,iV n10,x11.val]) w12)
theorem of80 (a_0:Addr) (x1_0 x1_1 x_2:Sl) (n_3 n_4:Int) (v:World) (Q:QT) (h:vc80 a_0 x1_0 x1_1 x_2 n_3 n_4 v Q):Tr 80 #[pt a_0,.agg #[x1_0.val,x1_1.val],x_2.val,iV n_3,iV n_4] v Q:=
 trip_of_eq (args:=[.pt a_0 0,.ag [.sl x1_0,.sl x1_1],.sl x_2,.num .i64 n_3,.num .i64 n_4]) (A:=⟨[(2,[(4,.int .i64)],[(2,0,.int .i64),(2,1,.int .i64),(2,2,.sl)])],[],[],[],psG⟩) Tryz.func80 (by kernel_rfl) (by kernel_rfl) (by kernel_rfl) h
def vc81 (n0_0 n0_1:Int) (x0_2:Sl) (v:World) (Q:QT):Prop:=
 ∃ n1,(pF 106 #[.agg #[iV n0_0,iV n0_1,x0_2.val],iV 30] v (iV n1))∧
 ((decide (n1 < 0))=true→
 Q (iV (-1)) v)∧
 ((decide (n1 < 0))=false→
 ∃ n4,Wr .i64 (30 - n1) n4∧
 Q (iV n4) v)
theorem of81 (n0_0 n0_1:Int) (x0_2:Sl) (v:World) (Q:QT) (h:vc81 n0_0 n0_1 x0_2 v Q):Tr 81 #[.agg #[iV n0_0,iV n0_1,x0_2.val]] v Q:=
 trip_of_eq (args:=[.ag [.num .i64 n0_0,.num .i64 n0_1,.sl x0_2]]) (A:=aG) Tryz.func81 (by kernel_rfl) (by kernel_rfl) (by kernel_rfl) h
def vc83 (x_0:Sl) (n_1:Int) (v:World) (Q:QT):Prop:=
 bS 28 0 #[] v fun x3 w2=>
 ∃ I4:zI4,∃ m5:zN4,I4 x3 0 w2∧
 ∀ x6 n7 w8,I4 x6 n7 w8→
 ((decide (n7 < (x_0.n:Int)))=true→
 IxOk x_0 n7∧
 zl6 w8 x_0 n7 fun n9=>
 ((!decide (n9=0))=true→
 ∃ n10,Wr .i64 (n_1+n7) n10∧
 bS 28 1 #[(0,(iV n10))] w8 fun x13 w12=>
 aS 28 x6 x13 w12 fun x16 w15=>
 ∃ n17,Wr .i64 (n7+1) n17∧
 I4 x16 n17 w15∧
 m5 x16 n17 w15 < m5 x6 n7 w8)∧
 ((!decide (n9=0))=false→
 ∃ n18,Wr .i64 (n7+1) n18∧
 I4 x6 n18 w8∧
 m5 x6 n18 w8 < m5 x6 n7 w8))∧
 ((decide (n7 < (x_0.n:Int)))=false→
 Q (x6.val) w8)
theorem of83 (x_0:Sl) (n_1:Int) (v:World) (Q:QT) (h:vc83 x_0 n_1 v Q):Tr 83 #[x_0.val,iV n_1] v Q:=
 trip_of_eq (args:=[.sl x_0,.num .i64 n_1]) (A:=⟨[(3,[(5,.sl),(6,.int .i64)],[])],[],[],[],psG⟩) Tryz.func83 (by kernel_rfl) (by kernel_rfl) (by kernel_rfl) h
def vc85 (x0_0 x0_1 x1_0 x1_1:Sl) (n1_2:Int) (x1_3:Sl) (n1_4:Int) (v:World) (Q:QT):Prop:=
 zt7 110 #[.agg #[x1_3.val,iV n1_4],iV (x1_0.n:Int)] v fun x3 w2=>
 bS 28 0 #[] w2 fun x6 w5=>
 bS 28 0 #[] w5 fun x9 w8=>
 ∃ I10:zI5,∃ m11:zN5,I10 x6 x9 0 w8∧
 ∀ x12 x13 n14 w15,I10 x12 x13 n14 w15→
 ((decide (n14 < (x1_0.n:Int)))=true→
 IxOk x1_0 n14∧
 zl6 w15 x1_0 n14 fun n16=>
 ∃ q17:Bool,((!decide (n16=0))=true→
 (pF 91 #[x1_1.val,iV n14] w15 (.bool q17)))∧
 (((!decide (n16=0)) && (!q17))=true→
 ∃ q20,(pF 91 #[x3.val,iV n14] w15 (.bool q20))∧
 (q20=true→
 bS 28 1 #[(0,(iV n14))] w15 fun x25 w24=>
 aS 28 x12 x25 w24 fun x28 w27=>
 ∃ n29,Wr .i64 (n14+1) n29∧
 zq18 x0_0 x0_1 x1_0 x1_1 n1_2 x1_3 n1_4 (Sl.mk none 0 0) 0 fun _=>
 I10 x28 x13 n29 w27∧
 m11 x28 x13 n29 w27 < m11 x12 x13 n14 w15)∧
 (q20=false→
 bS 28 1 #[(0,(iV n14))] w15 fun x32 w31=>
 aS 28 x13 x32 w31 fun x35 w34=>
 ∃ n36,Wr .i64 (n14+1) n36∧
 zq18 x0_0 x0_1 x1_0 x1_1 n1_2 x1_3 n1_4 (Sl.mk none 0 0) 0 fun _=>
 I10 x12 x35 n36 w34∧
 m11 x12 x35 n36 w34 < m11 x12 x13 n14 w15))∧
 (((!decide (n16=0)) && (!q17))=false→
 ∃ n37,Wr .i64 (n14+1) n37∧
 zq18 x0_0 x0_1 x1_0 x1_1 n1_2 x1_3 n1_4 (Sl.mk none 0 0) 0 fun _=>
 I10 x12 x13 n37 w15∧
 m11 x12 x13 n37 w15 < m11 x12 x13 n14 w15))∧
 ((decide (n14 < (x1_0.n:Int)))=false→
 bS 28 0 #[] w15 fun x40 w39=>
 zt3 111 #[.agg #[x0_0.val,x0_1.val],x1_0.val,.agg #[x1_3.val,iV n1_4],x12.val,x40.val] w39 fun x43 n44 w42=>
 zt7 112 #[iV 15,x13.val] w42 fun x47 w46=>
 Sub w42 w46∧
 aS 23 x47 x43 w46 fun x50 w49=>
 Q (.agg #[x50.val,iV n44]) w49)
theorem of85 (x0_0 x0_1 x1_0 x1_1:Sl) (n1_2:Int) (x1_3:Sl) (n1_4:Int) (v:World) (Q:QT) (h:vc85 x0_0 x0_1 x1_0 x1_1 n1_2 x1_3 n1_4 v Q):Tr 85 #[.agg #[x0_0.val,x0_1.val],.agg #[x1_0.val,x1_1.val,iV n1_2,x1_3.val,iV n1_4]] v Q:=
 trip_of_eq (args:=[.ag [.sl x0_0,.sl x0_1],.ag [.sl x1_0,.sl x1_1,.num .i64 n1_2,.sl x1_3,.num .i64 n1_4]]) (A:=⟨[(5,[(6,.sl),(7,.sl),(8,.int .i64)],[])],[],[(12,[1])],[],psG⟩) Tryz.func85 (by kernel_rfl) (by kernel_rfl) (by kernel_rfl) h
def vc87 (x0_0 x0_1:Sl) (n0_2:Int) (x0_3:Sl) (n0_4:Int) (v:World) (Q:QT):Prop:=
 bS 28 0 #[] v fun x3 w2=>
 ∃ I4:zI4,∃ m5:zN4,I4 x3 0 w2∧
 ∀ x6 n7 w8,I4 x6 n7 w8→
 ((decide (n7 < (x0_0.n:Int)))=true→
 IxOk x0_0 n7∧
 zl6 w8 x0_0 n7 fun n9=>
 ∃ q10:Bool,((!decide (n9=0))=true→
 (pF 91 #[x0_1.val,iV n7] w8 (.bool q10)))∧
 (((!decide (n9=0)) && (!q10))=true→
 bS 28 1 #[(0,(iV n7))] w8 fun x15 w14=>
 aS 28 x6 x15 w14 fun x18 w17=>
 ∃ n19,Wr .i64 (n7+1) n19∧
 zq19 x0_0 x0_1 n0_2 x0_3 n0_4 fun _=>
 I4 x18 n19 w17∧
 m5 x18 n19 w17 < m5 x6 n7 w8)∧
 (((!decide (n9=0)) && (!q10))=false→
 ∃ n20,Wr .i64 (n7+1) n20∧
 zq19 x0_0 x0_1 n0_2 x0_3 n0_4 fun _=>
 I4 x6 n20 w8∧
 m5 x6 n20 w8 < m5 x6 n7 w8))∧
 ((decide (n7 < (x0_0.n:Int)))=false→
 Q (x6.val) w8)
theorem of87 (x0_0 x0_1:Sl) (n0_2:Int) (x0_3:Sl) (n0_4:Int) (v:World) (Q:QT) (h:vc87 x0_0 x0_1 n0_2 x0_3 n0_4 v Q):Tr 87 #[.agg #[x0_0.val,x0_1.val,iV n0_2,x0_3.val,iV n0_4]] v Q:=
 trip_of_eq (args:=[.ag [.sl x0_0,.sl x0_1,.num .i64 n0_2,.sl x0_3,.num .i64 n0_4]]) (A:=⟨[(3,[(3,.sl),(4,.int .i64)],[])],[],[],[],psG⟩) Tryz.func87 (by kernel_rfl) (by kernel_rfl) (by kernel_rfl) h
def vc88 (x0_0 x0_1:Sl) (v:World) (Q:QT):Prop:=
 ∃ q1,(pF 116 #[.agg #[x0_0.val,x0_1.val]] v (.bool q1))∧
 ((!q1)=true→
 Q (.bool false) v)∧
 ((!q1)=false→
 ∃ I4:zI1,∃ m5:zN1,I4 0 v∧
 ∀ n6 w7,I4 n6 w7→
 ((decide (n6 < (x0_1.n:Int)))=true→
 IxOk x0_1 n6∧
 zl3 w7 x0_1 n6 fun x8 x9 n10 x11 n12=>
 ∃ n13,(pF 19 #[.agg #[x11.val,iV n12]] w7 (iV n13))∧
 ∃ n16:Int,((decide (n13 < 0))=false→
 (pF 117 #[.agg #[x0_0.val,x0_1.val],x8.val,.agg #[x11.val,iV n12]] w7 (iV n16)))∧
 (((decide (n13 < 0)) || (!decide (n16=n10)))=true→
 Q (.bool false) w7)∧
 (((decide (n13 < 0)) || (!decide (n16=n10)))=false→
 ∃ n19,Wr .i64 (n6+1) n19∧
 zq10 x0_0 x0_1 fun _=>
 I4 n19 w7∧
 m5 n19 w7 < m5 n6 w7))∧
 ((decide (n6 < (x0_1.n:Int)))=false→
 Q (.bool true) w7))
theorem of88 (x0_0 x0_1:Sl) (v:World) (Q:QT) (h:vc88 x0_0 x0_1 v Q):Tr 88 #[.agg #[x0_0.val,x0_1.val]] v Q:=
 trip_of_eq (args:=[.ag [.sl x0_0,.sl x0_1]]) (A:=⟨[(4,[(3,.int .i64)],[])],[],[],[],psG⟩) Tryz.func88 (by kernel_rfl) (by kernel_rfl) (by kernel_rfl) h
def vc89 (x0_0 x0_1:Sl) (n0_2:Int) (x0_3:Sl) (n0_4:Int) (v:World) (Q:QT):Prop:=
 zt7 50 #[x0_1.val] v fun x3 w2=>
 NewAt w2 (.cells #[.slice none 0 0,.slice none 0 0,.slice none 0 0,.slice none 0 0,.slice none 0 0,.slice none 0 0,x3.val] 101 (0,0)) fun a4 w5=>
 ∃ I6:zI1,∃ m7:zN1,I6 0 w5∧
 ∀ n8 w9,I6 n8 w9→
 ((decide (n8 < (x0_0.n:Int)))=true→
 IxOk x0_0 n8∧
 zl6 w9 x0_0 n8 fun n10=>
 ∃ q11:Bool,((!decide (n10=0))=true→
 (pF 91 #[x0_1.val,iV n8] w9 (.bool q11)))∧
 (((!decide (n10=0)) && (!q11))=true→
 IxOk x0_0 n8∧
 zl6 w9 x0_0 n8 fun n14=>
 zt5 118 #[pt a4,iV n14,iV 1,iV (-1)] w9 fun  w16=>
 ∃ n17,Wr .i64 (n8+1) n17∧
 zq19 x0_0 x0_1 n0_2 x0_3 n0_4 fun _=>
 I6 n17 w16∧
 m7 n17 w16 < m7 n8 w9)∧
 (((!decide (n10=0)) && (!q11))=false→
 IxOk x0_0 n8∧
 zl6 w9 x0_0 n8 fun n18=>
 zt5 118 #[pt a4,iV n18,iV 0,iV (-1)] w9 fun  w20=>
 ∃ n21,Wr .i64 (n8+1) n21∧
 zq19 x0_0 x0_1 n0_2 x0_3 n0_4 fun _=>
 I6 n21 w20∧
 m7 n21 w20 < m7 n8 w9))∧
 ((decide (n8 < (x0_0.n:Int)))=false→
 Q (pt a4) w9)
theorem of89 (x0_0 x0_1:Sl) (n0_2:Int) (x0_3:Sl) (n0_4:Int) (v:World) (Q:QT) (h:vc89 x0_0 x0_1 n0_2 x0_3 n0_4 v Q):Tr 89 #[.agg #[x0_0.val,x0_1.val,iV n0_2,x0_3.val,iV n0_4]] v Q:=
 trip_of_eq (args:=[.ag [.sl x0_0,.sl x0_1,.num .i64 n0_2,.sl x0_3,.num .i64 n0_4]]) (A:=⟨[(3,[(4,.int .i64)],[])],[],[],[9],psG⟩) Tryz.func89 (by kernel_rfl) (by kernel_rfl) (by kernel_rfl) h
def vc91 (x_0:Sl) (n_1:Int) (v:World) (Q:QT):Prop:=
 ∃ I1:zI1,∃ m2:zN1,I1 0 v∧
 ∀ n3 w4,I1 n3 w4→
 ((decide (n3 < (x_0.n:Int)))=true→
 IxOk x_0 n3∧
 zl6 w4 x_0 n3 fun n5=>
 ((decide (n5=n_1))=true→
 Q (.bool true) w4)∧
 ((decide (n5=n_1))=false→
 ∃ n6,Wr .i64 (n3+1) n6∧
 I1 n6 w4∧
 m2 n6 w4 < m2 n3 w4))∧
 ((decide (n3 < (x_0.n:Int)))=false→
 Q (.bool false) w4)
theorem of91 (x_0:Sl) (n_1:Int) (v:World) (Q:QT) (h:vc91 x_0 n_1 v Q):Tr 91 #[x_0.val,iV n_1] v Q:=
 trip_of_eq (args:=[.sl x_0,.num .i64 n_1]) (A:=⟨[(2,[(5,.int .i64)],[])],[],[],[],psG⟩) Tryz.func91 (by kernel_rfl) (by kernel_rfl) (by kernel_rfl) h
def vc92 (n0_0 n0_1 n0_2:Int) (x0_3 x0_4:Sl) (v:World) (Q:QT):Prop:=
 Q (.bool ((decide (n0_0=14)) || (decide (n0_0=15)))) v
theorem of92 (n0_0 n0_1 n0_2:Int) (x0_3 x0_4:Sl) (v:World) (Q:QT) (h:vc92 n0_0 n0_1 n0_2 x0_3 x0_4 v Q):Tr 92 #[.agg #[iV n0_0,iV n0_1,iV n0_2,x0_3.val,x0_4.val]] v Q:=
 trip_of_eq (args:=[.ag [.num .i64 n0_0,.num .i64 n0_1,.num .i64 n0_2,.sl x0_3,.sl x0_4]]) (A:=aG) Tryz.func92 (by kernel_rfl) (by kernel_rfl) (by kernel_rfl) h
def vc93 (x_0:Sl) (v:World) (Q:QT):Prop:=
 bS 28 0 #[] v fun x3 w2=>
 bS 28 0 #[] w2 fun x6 w5=>
 zt7 123 #[x_0.val] w5 fun x9 w8=>
 ∃ I10:zI5,∃ m11:zN5,I10 x3 x6 0 w8∧
 ∀ x12 x13 n14 w15,I10 x12 x13 n14 w15→
 ((decide (n14 < (x9.n:Int)))=true→
 IxOk x9 n14∧
 zl6 w15 x9 n14 fun n16=>
 ∃ n17,(pF 124 #[x_0.val,iV n16] w15 (iV n17))∧
 ∃ I20:zI4,∃ m21:zN4,I20 x12 n17 w15∧
 ∀ x22 n23 w24,I20 x22 n23 w24→
 ((decide (n23 > 0))=true→
 IxOk x9 n14∧
 zl6 w24 x9 n14 fun n25=>
 bS 28 1 #[(0,(iV n25))] w24 fun x28 w27=>
 aS 28 x22 x28 w27 fun x31 w30=>
 ∃ n32,Wr .i64 (n23 - 1) n32∧
 I20 x31 n32 w30∧
 m21 x31 n32 w30 < m21 x22 n23 w24)∧
 ((decide (n23 > 0))=false→
 ∃ I33:zI4,∃ m34:zN4,I33 x13 n23 w24∧
 ∀ x35 n36 w37,I33 x35 n36 w37→
 ((decide (n36 < 0))=true→
 IxOk x9 n14∧
 zl6 w37 x9 n14 fun n38=>
 bS 28 1 #[(0,(iV n38))] w37 fun x41 w40=>
 aS 28 x35 x41 w40 fun x44 w43=>
 ∃ n45,Wr .i64 (n36+1) n45∧
 I33 x44 n45 w43∧
 m34 x44 n45 w43 < m34 x35 n36 w37)∧
 ((decide (n36 < 0))=false→
 ∃ n46,Wr .i64 (n14+1) n46∧
 I10 x22 x35 n46 w37∧
 m11 x22 x35 n46 w37 < m11 x12 x13 n14 w15)))∧
 ((decide (n14 < (x9.n:Int)))=false→
 zt7 112 #[iV 14,x12.val] w15 fun x49 w48=>
 zt7 112 #[iV 15,x13.val] w48 fun x52 w51=>
 aS 23 x49 x52 w51 fun x55 w54=>
 Q (x55.val) w54)
theorem of93 (x_0:Sl) (v:World) (Q:QT) (h:vc93 x_0 v Q):Tr 93 #[x_0.val] v Q:=
 trip_of_eq (args:=[.sl x_0]) (A:=⟨[(5,[(3,.sl),(4,.sl),(6,.int .i64)],[]),(8,[(3,.sl),(7,.int .i64)],[]),(11,[(4,.sl),(7,.int .i64)],[])],[],[],[],psG⟩) Tryz.func93 (by kernel_rfl) (by kernel_rfl) (by kernel_rfl) h
def vc94 (x_0:Sl) (n_1:Int) (v:World) (Q:QT):Prop:=
 bS 28 0 #[] v fun x3 w2=>
 ∃ q4,(pF 36 #[iV n_1,iV 1,iV (x_0.n:Int)] w2 (.bool q4))∧
 ((!q4)=true→
 Q (x3.val) w2)∧
 ((!q4)=false→
 ∃ I7:zI4,∃ m8:zN4,I7 x3 0 w2∧
 ∀ x9 n10 w11,I7 x9 n10 w11→
 ∃ n12,Wr .i64 (n_1 - 1) n12∧
 IxOk x_0 n12∧
 zl11 w11 x_0 n12 fun x13=>
 ((decide (n10 < (x13.n:Int)))=true→
 ∃ n14,Wr .i64 (n_1 - 1) n14∧
 ∃ n15,(pF 125 #[x_0.val,iV n14] w11 (iV n15))∧
 ∃ n18,Wr .i64 (n15+n10) n18∧
 bS 28 1 #[(0,(iV n18))] w11 fun x21 w20=>
 aS 28 x9 x21 w20 fun x24 w23=>
 ∃ n25,Wr .i64 (n10+1) n25∧
 I7 x24 n25 w23∧
 m8 x24 n25 w23 < m8 x9 n10 w11)∧
 ((decide (n10 < (x13.n:Int)))=false→
 Q (x9.val) w11))
theorem of94 (x_0:Sl) (n_1:Int) (v:World) (Q:QT) (h:vc94 x_0 n_1 v Q):Tr 94 #[x_0.val,iV n_1] v Q:=
 trip_of_eq (args:=[.sl x_0,.num .i64 n_1]) (A:=⟨[(5,[(5,.sl),(6,.int .i64)],[])],[],[],[],psG⟩) Tryz.func94 (by kernel_rfl) (by kernel_rfl) (by kernel_rfl) h
def vc95 (x_0:Sl) (n_1:Int) (v:World) (Q:QT):Prop:=
 ∃ n1,(pF 126 #[x_0.val,iV n_1] v (iV n1))∧
 ((decide (n1 < 1))=true→
 bS 28 0 #[] v fun x6 w5=>
 Q (x6.val) w5)∧
 ((decide (n1 < 1))=false→
 ∃ n7,Wr .i64 (n1 - 1) n7∧
 IxOk x_0 n7∧
 zl11 v x_0 n7 fun x8=>
 ∃ n9,Wr .i64 (n1 - 1) n9∧
 ∃ n10,(pF 125 #[x_0.val,iV n9] v (iV n10))∧
 ∃ n13,Wr .i64 (n_1 - n10) n13∧
 IxOk x8 n13∧
 zl12 v x8 n13 fun x14=>
 Q (x14.val) v)
theorem of95 (x_0:Sl) (n_1:Int) (v:World) (Q:QT) (h:vc95 x_0 n_1 v Q):Tr 95 #[x_0.val,iV n_1] v Q:=
 trip_of_eq (args:=[.sl x_0,.num .i64 n_1]) (A:=aG) Tryz.func95 (by kernel_rfl) (by kernel_rfl) (by kernel_rfl) h
def vc96 (x0_0:Sl) (n0_1 n_1:Int) (x_2:Sl) (n_3:Int) (v:World) (Q:QT):Prop:=
 ∃ n1,(pF 127 #[.agg #[x0_0.val,iV n0_1]] v (iV n1))∧
 zt7 128 #[.agg #[x0_0.val,iV n0_1],iV n1,iV 14] v fun x6 w5=>
 zt7 128 #[.agg #[x0_0.val,iV n0_1],iV n1,iV 15] w5 fun x9 w8=>
 ∃ q10,(pF 91 #[x9.val,iV n_1] w8 (.bool q10))∧
 (((!q10) || (decide ((x_2.n:Int)=0)))=true→
 Q (.agg #[x0_0.val,iV n0_1]) w8)∧
 (((!q10) || (decide ((x_2.n:Int)=0)))=false→
 zt7 129 #[x9.val,iV n_1] w8 fun x15 w14=>
 ∃ I16:zI5,∃ m17:zN5,I16 x6 x15 0 w14∧
 ∀ x18 x19 n20 w21,I16 x18 x19 n20 w21→
 ((decide (n20 < (x_2.n:Int)))=true→
 IxOk x_2 n20∧
 zl6 w21 x_2 n20 fun n22=>
 ∃ n23:Int,((!decide (n22=0))=true→
 Wr .i64 (n_3+n20) n23)∧
 ∃ q24:Bool,((!decide (n22=0))=true→
 (pF 91 #[x18.val,iV n23] w21 (.bool q24)))∧
 (((!decide (n22=0)) && q24)=true→
 ∃ n27,Wr .i64 (n_3+n20) n27∧
 zt7 129 #[x18.val,iV n27] w21 fun x30 w29=>
 ∃ n31,Wr .i64 (n20+1) n31∧
 zq11 x0_0 n0_1 (Sl.mk none 0 0) 0 fun _=>
 I16 x30 x19 n31 w29∧
 m17 x30 x19 n31 w29 < m17 x18 x19 n20 w21)∧
 (((!decide (n22=0)) && q24)=false→
 IxOk x_2 n20∧
 zl6 w21 x_2 n20 fun n32=>
 ((!decide (n32=0))=true→
 ∃ n33,Wr .i64 (n_3+n20) n33∧
 bS 28 1 #[(0,(iV n33))] w21 fun x36 w35=>
 aS 28 x19 x36 w35 fun x39 w38=>
 ∃ n40,Wr .i64 (n20+1) n40∧
 zq11 x0_0 n0_1 (Sl.mk none 0 0) 0 fun _=>
 I16 x18 x39 n40 w38∧
 m17 x18 x39 n40 w38 < m17 x18 x19 n20 w21)∧
 ((!decide (n32=0))=false→
 ∃ n41,Wr .i64 (n20+1) n41∧
 zq11 x0_0 n0_1 (Sl.mk none 0 0) 0 fun _=>
 I16 x18 x19 n41 w21∧
 m17 x18 x19 n41 w21 < m17 x18 x19 n20 w21)))∧
 ((decide (n20 < (x_2.n:Int)))=false→
 zt7 112 #[iV 14,x18.val] w21 fun x44 w43=>
 zt10 55 #[iV 16,iV n_1] w43 fun n47 n48 n49 x50 x51 w46=>
 bS 23 1 #[(0,(.agg #[iV n47,iV n48,iV n49,x50.val,x51.val]))] w46 fun x54 w53=>
 aS 23 x44 x54 w53 fun x57 w56=>
 zt7 112 #[iV 15,x19.val] w56 fun x60 w59=>
 aS 23 x57 x60 w59 fun x63 w62=>
 ((0:Int)≤n1∧n1≤(x0_0.n:Int))∧
 aS 23 x63 (x0_0.cut n1 (x0_0.n:Int) 5) w62 fun x66 w65=>
 Q (.agg #[x66.val,iV n0_1]) w65))
theorem of96 (x0_0:Sl) (n0_1 n_1:Int) (x_2:Sl) (n_3:Int) (v:World) (Q:QT) (h:vc96 x0_0 n0_1 n_1 x_2 n_3 v Q):Tr 96 #[.agg #[x0_0.val,iV n0_1],iV n_1,x_2.val,iV n_3] v Q:=
 trip_of_eq (args:=[.ag [.sl x0_0,.num .i64 n0_1],.num .i64 n_1,.sl x_2,.num .i64 n_3]) (A:=⟨[(8,[(10,.sl),(11,.sl),(12,.int .i64)],[])],[],[(16,[])],[],psG⟩) Tryz.func96 (by kernel_rfl) (by kernel_rfl) (by kernel_rfl) h
def vc97 (n_0:Int) (v:World) (Q:QT):Prop:=
 ∃ q1,(pF 36 #[iV n_0,iV 0,iV 11] v (.bool q1))∧
 Q (.bool q1) v
theorem of97 (n_0:Int) (v:World) (Q:QT) (h:vc97 n_0 v Q):Tr 97 #[iV n_0] v Q:=
 trip_of_eq (args:=[.num .i64 n_0]) (A:=aG) Tryz.func97 (by kernel_rfl) (by kernel_rfl) (by kernel_rfl) h
def vc98 (x0_0 x0_1:Sl) (n1_0 n1_1 n1_2:Int) (x1_3 x1_4:Sl) (n_2:Int) (x_3:Sl) (v:World) (Q:QT):Prop:=
 ((!decide (n1_0=8))=true→
 IxOk x1_4 n_2∧
 zl1 v x1_4 n_2 fun x1 n2=>
 zt3 71 #[.agg #[x0_0.val,x0_1.val],.agg #[x1.val,iV n2],x_3.val] v fun x5 n6 w4=>
 Q (.agg #[x5.val,iV n6]) w4)∧
 ((!decide (n1_0=8))=false→
 IxOk x1_3 0∧
 zl6 v x1_3 0 fun n7=>
 IxOk x1_4 n_2∧
 zl1 v x1_4 n_2 fun x8 n9=>
 ∃ q10,(pF 91 #[x_3.val,iV n7] v (.bool q10))∧
 ((!q10)=true→
 zt7 94 #[x0_0.val,iV n1_1] v fun x15 w14=>
 Sub v w14∧
 IxOk x15 n_2∧
 zl6 w14 x15 n_2 fun n16=>
 zt7 95 #[x0_0.val,iV n16] w14 fun x19 w18=>
 Sub w14 w18∧
 zt3 130 #[.agg #[x8.val,iV n9],iV n7,iV (x19.n:Int)] w18 fun x22 n23 w21=>
 ∃ n24,(pF 131 #[.agg #[x22.val,iV n23]] w21 (iV n24))∧
 ∃ n27,(pF 132 #[.agg #[x22.val,iV n23],iV n24,iV 17,iV n7] w21 (iV n27))∧
 ((decide (n27≥0))=true→
 zt7 133 #[x_3.val,iV n7] w21 fun x32 w31=>
 zt3 71 #[.agg #[x0_0.val,x0_1.val],.agg #[x22.val,iV n23],x32.val] w31 fun x35 n36 w34=>
 Q (.agg #[x35.val,iV n36]) w34)∧
 ((decide (n27≥0))=false→
 zt3 71 #[.agg #[x0_0.val,x0_1.val],.agg #[x22.val,iV n23],x_3.val] w21 fun x39 n40 w38=>
 Q (.agg #[x39.val,iV n40]) w38))∧
 ((!q10)=false→
 zt3 71 #[.agg #[x0_0.val,x0_1.val],.agg #[x8.val,iV n9],x_3.val] v fun x43 n44 w42=>
 Q (.agg #[x43.val,iV n44]) w42))
theorem of98 (x0_0 x0_1:Sl) (n1_0 n1_1 n1_2:Int) (x1_3 x1_4:Sl) (n_2:Int) (x_3:Sl) (v:World) (Q:QT) (h:vc98 x0_0 x0_1 n1_0 n1_1 n1_2 x1_3 x1_4 n_2 x_3 v Q):Tr 98 #[.agg #[x0_0.val,x0_1.val],.agg #[iV n1_0,iV n1_1,iV n1_2,x1_3.val,x1_4.val],iV n_2,x_3.val] v Q:=
 trip_of_eq (args:=[.ag [.sl x0_0,.sl x0_1],.ag [.num .i64 n1_0,.num .i64 n1_1,.num .i64 n1_2,.sl x1_3,.sl x1_4],.num .i64 n_2,.sl x_3]) (A:=⟨[],[],[(2,[]),(6,[8,12])],[],psG⟩) Tryz.func98 (by kernel_rfl) (by kernel_rfl) (by kernel_rfl) h
def vc99 (x_0 x_1:Sl) (v:World) (Q:QT):Prop:=
 zt7 50 #[x_0.val] v fun x3 w2=>
 aS 28 x3 x_1 w2 fun x6 w5=>
 Q (x6.val) w5
theorem of99 (x_0 x_1:Sl) (v:World) (Q:QT) (h:vc99 x_0 x_1 v Q):Tr 99 #[x_0.val,x_1.val] v Q:=
 trip_of_eq (args:=[.sl x_0,.sl x_1]) (A:=aG) Tryz.func99 (by kernel_rfl) (by kernel_rfl) (by kernel_rfl) h
def vc100 (a_0:Addr) (n1_0 n1_1 n1_2:Int) (x1_3 x1_4:Sl) (v:World) (Q:QT):Prop:=
 ∃ x1:Sl,v.cell? (a_0.add 0)=some (x1.val)∧
 bS 23 1 #[(0,(.agg #[iV n1_0,iV n1_1,iV n1_2,x1_3.val,x1_4.val]))] v fun x4 w3=>
 Sub v w3∧
 aS 23 x1 x4 w3 fun x7 w6=>
 StoreAt w6 a_0 0 [x7.val] fun w8=>
 ∃ n9:Int,w8.cell? (a_0.add 1)=some (iV n9)∧
 ∃ n10,Wr .i64 (n9+1) n10∧
 StoreAt w8 a_0 1 [iV n10] fun w11=>
 ∃ n12:Int,w11.cell? (a_0.add 1)=some (iV n12)∧
 ∃ n13,Wr .i64 (n12 - 1) n13∧
 Q (iV n13) w11
theorem of100 (a_0:Addr) (n1_0 n1_1 n1_2:Int) (x1_3 x1_4:Sl) (v:World) (Q:QT) (h:vc100 a_0 n1_0 n1_1 n1_2 x1_3 x1_4 v Q):Tr 100 #[pt a_0,.agg #[iV n1_0,iV n1_1,iV n1_2,x1_3.val,x1_4.val]] v Q:=
 trip_of_eq (args:=[.pt a_0 0,.ag [.num .i64 n1_0,.num .i64 n1_1,.num .i64 n1_2,.sl x1_3,.sl x1_4]]) (A:=⟨[],[],[(1,[6])],[],psG⟩) Tryz.func100 (by kernel_rfl) (by kernel_rfl) (by kernel_rfl) h
def vc101 (a_0:Addr) (x1_0 x1_1 x_2:Sl) (n_3 n_4:Int) (v:World) (Q:QT):Prop:=
 ((decide (n_4 < 3))=true→
 zt12 105 #[pt a_0,.agg #[x1_0.val,x1_1.val],x_2.val,iV n_3] v fun n3 n4 x5 w2=>
 Q (.agg #[iV n3,iV n4,x5.val]) w2)∧
 ((decide (n_4 < 3))=false→
 zt4 27 #[pt a_0,iV 12] v fun n8 w7=>
 ((decide (n8=0))=true→
 zt12 105 #[pt a_0,.agg #[x1_0.val,x1_1.val],x_2.val,iV n_3] w7 fun n11 n12 x13 w10=>
 Q (.agg #[iV n11,iV n12,x13.val]) w10)∧
 ((decide (n8=0))=false→
 ∃ J14:Bool→World→Prop,(((decide (n8=1))=true→
 zq9 x1_0 x1_1 0 0 (Sl.mk none 0 0) fun _=>
 J14 (decide (n8=1)) w7)∧
 ((decide (n8=1))=false→
 zq9 x1_0 x1_1 0 0 (Sl.mk none 0 0) fun _=>
 J14 (decide (n8=2)) w7))∧
 ∀ q15:Bool,∀ w16:World,J14 q15 w16→
 (q15=true→
 zt4 134 #[pt a_0,.agg #[x1_0.val,x1_1.val],x_2.val] w16 fun n19 w18=>
 ∃ n20:Int,((2:Int)≠0∧Wr .i64 (Int.tdiv n_4 2) n20)∧
 ∃ n21:Int,((2:Int)≠0∧Wr .i64 (Int.tdiv n_4 2) n21)∧
 (zt12 101 #[pt a_0,.agg #[x1_0.val,x1_1.val],x_2.val,iV n19,iV n20] w18 fun n24 n25 x26 w23=>
 bS 28 1 #[(0,(iV n19))] w23 fun x29 w28=>
 Sub w23 w28∧
 zt7 99 #[x_2.val,x29.val] w28 fun x32 w31=>
 zt12 101 #[pt a_0,.agg #[x1_0.val,x1_1.val],x32.val,iV n_3,iV n21] w31 fun n35 n36 x37 w34=>
 bS 84 2 #[(0,(.agg #[iV n24,iV n25,x26.val])),(1,(.agg #[iV n35,iV n36,x37.val]))] w34 fun x40 w39=>
 zt12 102 #[iV 13,iV 0,x40.val] w39 fun n43 n44 x45 w42=>
 Q (.agg #[iV n43,iV n44,x45.val]) w42)∧
 bS 28 1 #[(0,(iV n19))] w18 fun x48 w47=>
 Sub w18 w47∧
 zt12 101 #[pt a_0,.agg #[x1_0.val,x1_1.val],x_2.val,iV n19,iV n20] w47 fun n51 n52 x53 w50=>
 zt7 99 #[x_2.val,x48.val] w50 fun x56 w55=>
 zt12 101 #[pt a_0,.agg #[x1_0.val,x1_1.val],x56.val,iV n_3,iV n21] w55 fun n59 n60 x61 w58=>
 bS 84 2 #[(0,(.agg #[iV n51,iV n52,x53.val])),(1,(.agg #[iV n59,iV n60,x61.val]))] w58 fun x64 w63=>
 zt12 102 #[iV 13,iV 0,x64.val] w63 fun n67 n68 x69 w66=>
 Q (.agg #[iV n67,iV n68,x69.val]) w66)∧
 (q15=false→
 ((decide (n8=3))=true→
 bS 28 3 #[(0,(iV 0)),(1,(iV n_3)),(2,(iV n_3))] w16 fun x72 w71=>
 ∃ n73,Wr .i64 (n_4 - 1) n73∧
 zt7 135 #[pt a_0,.agg #[x1_0.val,x1_1.val],x_2.val,x72.val,iV n73] w71 fun x76 w75=>
 zt12 102 #[iV 7,iV 0,x76.val] w75 fun n79 n80 x81 w78=>
 Q (.agg #[iV n79,iV n80,x81.val]) w78)∧
 ((decide (n8=3))=false→
 ∃ J82:Bool→World→Prop,(((decide (n8=4))=true→
 zq9 x1_0 x1_1 0 0 (Sl.mk none 0 0) fun _=>
 J82 (decide (n8=4)) w16)∧
 ((decide (n8=4))=false→
 ((decide (n8=5))=true→
 zq9 x1_0 x1_1 0 0 (Sl.mk none 0 0) fun _=>
 J82 (decide (n8=5)) w16)∧
 ((decide (n8=5))=false→
 zq9 x1_0 x1_1 0 0 (Sl.mk none 0 0) fun _=>
 J82 (decide (n8=6)) w16)))∧
 ∀ q83:Bool,∀ w84:World,J82 q83 w84→
 (q83=true→
 zt12 136 #[pt a_0,.agg #[x1_0.val,x1_1.val],x_2.val,iV n_3,iV n_4] w84 fun n87 n88 x89 w86=>
 Q (.agg #[iV n87,iV n88,x89.val]) w86)∧
 (q83=false→
 ∃ J90:Bool→World→Prop,(((decide (n8=7))=true→
 zq9 x1_0 x1_1 0 0 (Sl.mk none 0 0) fun _=>
 J90 (decide (n8=7)) w84)∧
 ((decide (n8=7))=false→
 zq9 x1_0 x1_1 0 0 (Sl.mk none 0 0) fun _=>
 J90 (decide (n8=8)) w84))∧
 ∀ q91:Bool,∀ w92:World,J90 q91 w92→
 (q91=true→
 zt7 137 #[.agg #[x1_0.val,x1_1.val],iV n_3] w92 fun x95 w94=>
 ((decide ((x95.n:Int) > 0))=true→
 zt4 27 #[pt a_0,iV (x95.n:Int)] w94 fun n98 w97=>
 IxOk x95 n98∧
 zl6 w97 x95 n98 fun n99=>
 IxOk x1_1 n99∧
 zl9 w97 x1_1 n99 fun x100=>
 ∃ n101,Wr .i64 (n_4 - 1) n101∧
 zt7 135 #[pt a_0,.agg #[x1_0.val,x1_1.val],x_2.val,x100.val,iV n101] w97 fun x104 w103=>
 zt12 102 #[iV 9,iV n99,x104.val] w103 fun n107 n108 x109 w106=>
 Q (.agg #[iV n107,iV n108,x109.val]) w106)∧
 ((decide ((x95.n:Int) > 0))=false→
 zt12 138 #[pt a_0,.agg #[x1_0.val,x1_1.val],x_2.val,iV n_3,iV n_4] w94 fun n112 n113 x114 w111=>
 Q (.agg #[iV n112,iV n113,x114.val]) w111))∧
 (q91=false→
 zt12 138 #[pt a_0,.agg #[x1_0.val,x1_1.val],x_2.val,iV n_3,iV n_4] w92 fun n117 n118 x119 w116=>
 Q (.agg #[iV n117,iV n118,x119.val]) w116))))))
theorem of101 (a_0:Addr) (x1_0 x1_1 x_2:Sl) (n_3 n_4:Int) (v:World) (Q:QT) (h:vc101 a_0 x1_0 x1_1 x_2 n_3 n_4 v Q):Tr 101 #[pt a_0,.agg #[x1_0.val,x1_1.val],x_2.val,iV n_3,iV n_4] v Q:=
 trip_of_eq (args:=[.pt a_0 0,.ag [.sl x1_0,.sl x1_1],.sl x_2,.num .i64 n_3,.num .i64 n_4]) (A:=⟨[],[(8,[(30,.bool)],[]),(15,[(68,.bool)],[]),(18,[(78,.bool)],[])],[(9,[11]),(21,[])],[],psG⟩) Tryz.func101 (by kernel_rfl) (by kernel_rfl) (by kernel_rfl) h
def vc102 (n_0 n_1:Int) (x_2:Sl) (v:World) (Q:QT):Prop:=
 Q (.agg #[iV n_0,iV n_1,x_2.val]) v
theorem of102 (n_0 n_1:Int) (x_2:Sl) (v:World) (Q:QT) (h:vc102 n_0 n_1 x_2 v Q):Tr 102 #[iV n_0,iV n_1,x_2.val] v Q:=
 trip_of_eq (args:=[.num .i64 n_0,.num .i64 n_1,.sl x_2]) (A:=aG) Tryz.func102 (by kernel_rfl) (by kernel_rfl) (by kernel_rfl) h
def vc103 (a_0:Addr) (n_1:Int) (v:World) (Q:QT):Prop:=
 bS 84 0 #[] v fun x3 w2=>
 zt12 102 #[iV 6,iV 0,x3.val] w2 fun n6 n7 x8 w5=>
 ((decide (n_1=3))=true→
 bS 84 0 #[] w5 fun x11 w10=>
 zt12 102 #[iV 6,iV 2,x11.val] w10 fun n14 n15 x16 w13=>
 (zt4 27 #[pt a_0,iV 9] w13 fun n19 w18=>
 (zt12 75 #[iV n19] w18 fun n22 n23 x24 w21=>
 (bS 84 3 #[(0,(.agg #[iV n14,iV n15,x16.val])),(1,(.agg #[iV n22,iV n23,x24.val])),(2,(.agg #[iV n14,iV n15,x16.val]))] w21 fun x27 w26=>
 (zt12 102 #[iV 6,iV 3,x27.val] w26 fun n30 n31 x32 w29=>
 zt4 27 #[pt a_0,iV 9] w29 fun n35 w34=>
 zt12 75 #[iV n35] w34 fun n38 n39 x40 w37=>
 bS 84 3 #[(0,(.agg #[iV n30,iV n31,x32.val])),(1,(.agg #[iV n38,iV n39,x40.val])),(2,(.agg #[iV n14,iV n15,x16.val]))] w37 fun x43 w42=>
 zt12 102 #[iV 6,iV 3,x43.val] w42 fun n46 n47 x48 w45=>
 Q (.agg #[iV n46,iV n47,x48.val]) w45)∧
 zt12 102 #[iV 6,iV 3,x27.val] w26 fun n51 n52 x53 w50=>
 zt4 27 #[pt a_0,iV 9] w50 fun n56 w55=>
 zt12 75 #[iV n56] w55 fun n59 n60 x61 w58=>
 bS 84 3 #[(0,(.agg #[iV n51,iV n52,x53.val])),(1,(.agg #[iV n59,iV n60,x61.val])),(2,(.agg #[iV n14,iV n15,x16.val]))] w58 fun x64 w63=>
 zt12 102 #[iV 6,iV 3,x64.val] w63 fun n67 n68 x69 w66=>
 Q (.agg #[iV n67,iV n68,x69.val]) w66)∧
 bS 84 3 #[(0,(.agg #[iV n14,iV n15,x16.val])),(1,(.agg #[iV n22,iV n23,x24.val])),(2,(.agg #[iV n14,iV n15,x16.val]))] w21 fun x72 w71=>
 zt12 102 #[iV 6,iV 3,x72.val] w71 fun n75 n76 x77 w74=>
 zt4 27 #[pt a_0,iV 9] w74 fun n80 w79=>
 zt12 75 #[iV n80] w79 fun n83 n84 x85 w82=>
 bS 84 3 #[(0,(.agg #[iV n75,iV n76,x77.val])),(1,(.agg #[iV n83,iV n84,x85.val])),(2,(.agg #[iV n14,iV n15,x16.val]))] w82 fun x88 w87=>
 zt12 102 #[iV 6,iV 3,x88.val] w87 fun n91 n92 x93 w90=>
 Q (.agg #[iV n91,iV n92,x93.val]) w90)∧
 zt12 75 #[iV n19] w18 fun n96 n97 x98 w95=>
 bS 84 3 #[(0,(.agg #[iV n14,iV n15,x16.val])),(1,(.agg #[iV n96,iV n97,x98.val])),(2,(.agg #[iV n14,iV n15,x16.val]))] w95 fun x101 w100=>
 zt12 102 #[iV 6,iV 3,x101.val] w100 fun n104 n105 x106 w103=>
 zt4 27 #[pt a_0,iV 9] w103 fun n109 w108=>
 zt12 75 #[iV n109] w108 fun n112 n113 x114 w111=>
 bS 84 3 #[(0,(.agg #[iV n104,iV n105,x106.val])),(1,(.agg #[iV n112,iV n113,x114.val])),(2,(.agg #[iV n14,iV n15,x16.val]))] w111 fun x117 w116=>
 zt12 102 #[iV 6,iV 3,x117.val] w116 fun n120 n121 x122 w119=>
 Q (.agg #[iV n120,iV n121,x122.val]) w119)∧
 zt4 27 #[pt a_0,iV 9] w13 fun n125 w124=>
 zt12 75 #[iV n125] w124 fun n128 n129 x130 w127=>
 bS 84 3 #[(0,(.agg #[iV n14,iV n15,x16.val])),(1,(.agg #[iV n128,iV n129,x130.val])),(2,(.agg #[iV n14,iV n15,x16.val]))] w127 fun x133 w132=>
 zt12 102 #[iV 6,iV 3,x133.val] w132 fun n136 n137 x138 w135=>
 zt4 27 #[pt a_0,iV 9] w135 fun n141 w140=>
 zt12 75 #[iV n141] w140 fun n144 n145 x146 w143=>
 bS 84 3 #[(0,(.agg #[iV n136,iV n137,x138.val])),(1,(.agg #[iV n144,iV n145,x146.val])),(2,(.agg #[iV n14,iV n15,x16.val]))] w143 fun x149 w148=>
 zt12 102 #[iV 6,iV 3,x149.val] w148 fun n152 n153 x154 w151=>
 Q (.agg #[iV n152,iV n153,x154.val]) w151)∧
 ((decide (n_1=3))=false→
 zt4 27 #[pt a_0,iV 3] w5 fun n157 w156=>
 ∃ n158,Wr .i64 (1+n157) n158∧
 ∃ I159:zI7,∃ m160:zN7,I159 n158 n6 n7 x8 w156∧
 ∀ n161 n162 n163 x164 w165,I159 n161 n162 n163 x164 w165→
 ((decide (n161 > 0))=true→
 zt4 139 #[pt a_0] w165 fun n168 w167=>
 zt12 75 #[iV n168] w167 fun n171 n172 x173 w170=>
 bS 84 2 #[(0,(.agg #[iV n171,iV n172,x173.val])),(1,(.agg #[iV n162,iV n163,x164.val]))] w170 fun x176 w175=>
 zt12 102 #[iV 6,iV 1,x176.val] w175 fun n179 n180 x181 w178=>
 ∃ n182,Wr .i64 (n161 - 1) n182∧
 zq20 0 0 (Sl.mk none 0 0) n6 n7 x8 fun _=>
 I159 n182 n179 n180 x181 w178∧
 m160 n182 n179 n180 x181 w178 < m160 n161 n162 n163 x164 w165)∧
 ((decide (n161 > 0))=false→
 Q (.agg #[iV n162,iV n163,x164.val]) w165))
theorem of103 (a_0:Addr) (n_1:Int) (v:World) (Q:QT) (h:vc103 a_0 n_1 v Q):Tr 103 #[pt a_0,iV n_1] v Q:=
 trip_of_eq (args:=[.pt a_0 0,.num .i64 n_1]) (A:=⟨[(8,[(9,.int .i64)],[(2,0,.int .i64),(2,1,.int .i64),(2,2,.sl)])],[],[(4,[]),(5,[]),(10,[])],[],psG⟩) Tryz.func103 (by kernel_rfl) (by kernel_rfl) (by kernel_rfl) h
def vc104 (n_0:Int) (v:World) (Q:QT):Prop:=
 bS 84 0 #[] v fun x3 w2=>
 Q (.agg #[iV 12,iV n_0,x3.val]) w2
theorem of104 (n_0:Int) (v:World) (Q:QT) (h:vc104 n_0 v Q):Tr 104 #[iV n_0] v Q:=
 trip_of_eq (args:=[.num .i64 n_0]) (A:=aG) Tryz.func104 (by kernel_rfl) (by kernel_rfl) (by kernel_rfl) h
def vc105 (a_0:Addr) (x1_0 x1_1 x_2:Sl) (n_3:Int) (v:World) (Q:QT):Prop:=
 zt7 140 #[x_2.val,iV n_3] v fun x3 w2=>
 ∃ J4:Bool→World→Prop,(((decide ((x3.n:Int) > 0))=true→
 zt4 27 #[pt a_0,iV 6] w2 fun n7 w6=>
 ((decide (n7 > 0))=false→
 bS 28 0 #[] w6 fun x10 w9=>
 ∃ q11:Bool,((decide (n7 > 0))=false→
 (pF 141 #[.agg #[x1_0.val,x1_1.val],x10.val,iV n_3] w9 (.bool q11)))∧
 zq9 x1_0 x1_1 0 0 (Sl.mk none 0 0) fun _=>
 J4 ((decide (n7 > 0)) || (!q11)) w9)∧
 ((decide (n7 > 0))=true→
 ∃ q14:Bool,((decide (n7 > 0))=false→
 (pF 141 #[.agg #[x1_0.val,x1_1.val],.bool false,iV n_3] w6 (.bool q14)))∧
 zq9 x1_0 x1_1 0 0 (Sl.mk none 0 0) fun _=>
 J4 ((decide (n7 > 0)) || (!q14)) w6))∧
 ((decide ((x3.n:Int) > 0))=false→
 zq9 x1_0 x1_1 0 0 (Sl.mk none 0 0) fun _=>
 J4 false w2))∧
 ∀ q17:Bool,∀ w18:World,J4 q17 w18→
 (q17=true→
 zt4 27 #[pt a_0,iV (x3.n:Int)] w18 fun n21 w20=>
 IxOk x3 n21∧
 zl6 w20 x3 n21 fun n22=>
 zt12 104 #[iV n22] w20 fun n25 n26 x27 w24=>
 Q (.agg #[iV n25,iV n26,x27.val]) w24)∧
 (q17=false→
 zt12 142 #[pt a_0,.agg #[x1_0.val,x1_1.val],iV n_3] w18 fun n30 n31 x32 w29=>
 Q (.agg #[iV n30,iV n31,x32.val]) w29)
theorem of105 (a_0:Addr) (x1_0 x1_1 x_2:Sl) (n_3:Int) (v:World) (Q:QT) (h:vc105 a_0 x1_0 x1_1 x_2 n_3 v Q):Tr 105 #[pt a_0,.agg #[x1_0.val,x1_1.val],x_2.val,iV n_3] v Q:=
 trip_of_eq (args:=[.pt a_0 0,.ag [.sl x1_0,.sl x1_1],.sl x_2,.num .i64 n_3]) (A:=⟨[],[(3,[(27,.bool)],[])],[],[],psG⟩) Tryz.func105 (by kernel_rfl) (by kernel_rfl) (by kernel_rfl) h
def vc106 (n0_0 n0_1:Int) (x0_2:Sl) (n_1:Int) (v:World) (Q:QT):Prop:=
 ((decide (n_1 < 1))=true→
 Q (iV (-1)) v)∧
 ((decide (n_1 < 1))=false→
 ∃ n1,Wr .i64 (n_1 - 1) n1∧
 ∃ I2:zI0,∃ m3:zN0,I2 n1 0 v∧
 ∀ n4 n5 w6,I2 n4 n5 w6→
 ((decide (n5 < (x0_2.n:Int)))=true→
 IxOk x0_2 n5∧
 zl5 w6 x0_2 n5 fun n7 n8 x9=>
 ∃ n10,(pF 106 #[.agg #[iV n7,iV n8,x9.val],iV n4] w6 (iV n10))∧
 ((decide (n10 < 0))=true→
 Q (iV (-1)) w6)∧
 ((decide (n10 < 0))=false→
 ∃ n13,Wr .i64 (n5+1) n13∧
 zq21 n0_0 n0_1 x0_2 fun _=>
 I2 n10 n13 w6∧
 m3 n10 n13 w6 < m3 n4 n5 w6))∧
 ((decide (n5 < (x0_2.n:Int)))=false→
 Q (iV n4) w6))
theorem of106 (n0_0 n0_1:Int) (x0_2:Sl) (n_1:Int) (v:World) (Q:QT) (h:vc106 n0_0 n0_1 x0_2 n_1 v Q):Tr 106 #[.agg #[iV n0_0,iV n0_1,x0_2.val],iV n_1] v Q:=
 trip_of_eq (args:=[.ag [.num .i64 n0_0,.num .i64 n0_1,.sl x0_2],.num .i64 n_1]) (A:=⟨[(5,[(1,.int .i64),(5,.int .i64)],[])],[],[],[],psG⟩) Tryz.func106 (by kernel_rfl) (by kernel_rfl) (by kernel_rfl) h
def vc108 (n_0:Int) (v:World) (Q:QT):Prop:=
 Q (.bool ((((decide (n_0=6)) || (decide (n_0=9))) || (decide (n_0=10))) || (decide (n_0=11)))) v
theorem of108 (n_0:Int) (v:World) (Q:QT) (h:vc108 n_0 v Q):Tr 108 #[iV n_0] v Q:=
 trip_of_eq (args:=[.num .i64 n_0]) (A:=aG) Tryz.func108 (by kernel_rfl) (by kernel_rfl) (by kernel_rfl) h
def vc109 (x0_0 x0_1:Sl) (n1_0 n1_1 n1_2:Int) (x1_3 x1_4:Sl) (n_2:Int) (v:World) (Q:QT):Prop:=
 ((decide (n1_0=9))=true→
 IxOk x0_1 n1_1)∧
 ∃ x1:Sl,((decide (n1_0=9))=true→
 v.cell? ((elA x0_1 n1_1 5).add 1)=some (x1.val))∧
 ∃ q2:Bool,((decide (n1_0=9))=true→
 (pF 91 #[x1.val,iV n_2] v (.bool q2)))∧
 Q (.bool ((decide (n1_0=9)) && q2)) v
theorem of109 (x0_0 x0_1:Sl) (n1_0 n1_1 n1_2:Int) (x1_3 x1_4:Sl) (n_2:Int) (v:World) (Q:QT) (h:vc109 x0_0 x0_1 n1_0 n1_1 n1_2 x1_3 x1_4 n_2 v Q):Tr 109 #[.agg #[x0_0.val,x0_1.val],.agg #[iV n1_0,iV n1_1,iV n1_2,x1_3.val,x1_4.val],iV n_2] v Q:=
 trip_of_eq (args:=[.ag [.sl x0_0,.sl x0_1],.ag [.num .i64 n1_0,.num .i64 n1_1,.num .i64 n1_2,.sl x1_3,.sl x1_4],.num .i64 n_2]) (A:=aG) Tryz.func109 (by kernel_rfl) (by kernel_rfl) (by kernel_rfl) h
def vc110 (x0_0:Sl) (n0_1 n_1:Int) (v:World) (Q:QT):Prop:=
 bS 28 0 #[] v fun x3 w2=>
 zt7 143 #[.agg #[x0_0.val,iV n0_1],iV n_1,iV 0,x3.val] w2 fun x6 w5=>
 Q (x6.val) w5
theorem of110 (x0_0:Sl) (n0_1 n_1:Int) (v:World) (Q:QT) (h:vc110 x0_0 n0_1 n_1 v Q):Tr 110 #[.agg #[x0_0.val,iV n0_1],iV n_1] v Q:=
 trip_of_eq (args:=[.ag [.sl x0_0,.num .i64 n0_1],.num .i64 n_1]) (A:=aG) Tryz.func110 (by kernel_rfl) (by kernel_rfl) (by kernel_rfl) h
def vc112 (n_0:Int) (x_1:Sl) (v:World) (Q:QT):Prop:=
 bS 23 0 #[] v fun x3 w2=>
 ∃ I4:zI4,∃ m5:zN4,I4 x3 0 w2∧
 ∀ x6 n7 w8,I4 x6 n7 w8→
 ((decide (n7 < (x_1.n:Int)))=true→
 IxOk x_1 n7∧
 zl6 w8 x_1 n7 fun n9=>
 zt10 55 #[iV n_0,iV n9] w8 fun n12 n13 n14 x15 x16 w11=>
 bS 23 1 #[(0,(.agg #[iV n12,iV n13,iV n14,x15.val,x16.val]))] w11 fun x19 w18=>
 aS 23 x6 x19 w18 fun x22 w21=>
 ∃ n23,Wr .i64 (n7+1) n23∧
 I4 x22 n23 w21∧
 m5 x22 n23 w21 < m5 x6 n7 w8)∧
 ((decide (n7 < (x_1.n:Int)))=false→
 Q (x6.val) w8)
theorem of112 (n_0:Int) (x_1:Sl) (v:World) (Q:QT) (h:vc112 n_0 x_1 v Q):Tr 112 #[iV n_0,x_1.val] v Q:=
 trip_of_eq (args:=[.num .i64 n_0,.sl x_1]) (A:=⟨[(3,[(5,.sl),(6,.int .i64)],[])],[],[],[],psG⟩) Tryz.func112 (by kernel_rfl) (by kernel_rfl) (by kernel_rfl) h
def vc113 (x0_0 x0_1 x_1:Sl) (n2_0 n2_1 n2_2:Int) (x2_3 x2_4:Sl) (v:World) (Q:QT):Prop:=
 ∃ q1:Bool,((!decide (n2_1=0))=true→
 (pF 150 #[iV n2_0] v (.bool q1)))∧
 ∃ q4:Bool,(((!decide (n2_1=0)) && (!q1))=false→
 (pF 151 #[x_1.val,.agg #[iV n2_0,iV n2_1,iV n2_2,x2_3.val,x2_4.val]] v (.bool q4)))∧
 (((((!decide (n2_1=0)) && (!q1)) || (!q4)) || (((decide ((x2_4.n:Int) > 0)) && (!decide (n2_0=7))) && (!decide (n2_0=8))))=true→
 Q (iV (-1)) v)∧
 (((((!decide (n2_1=0)) && (!q1)) || (!q4)) || (((decide ((x2_4.n:Int) > 0)) && (!decide (n2_0=7))) && (!decide (n2_0=8))))=false→
 ((decide (n2_0=0))=true→
 ∃ q7:Bool,((decide ((x2_3.n:Int)=0))=true→
 (pF 36 #[iV n2_1,iV (-999),iV 999] v (.bool q7)))∧
 (((decide ((x2_3.n:Int)=0)) && q7)=true→
 Q (iV 0) v)∧
 (((decide ((x2_3.n:Int)=0)) && q7)=false→
 Q (iV (-1)) v))∧
 ((decide (n2_0=0))=false→
 ((decide (n2_0=1))=true→
 bS 28 2 #[(0,(iV 0)),(1,(iV 0))] v fun x12 w11=>
 ∃ q13,(pF 152 #[x_1.val,x2_3.val,x12.val] w11 (.bool q13))∧
 (q13=true→
 Q (iV 0) w11)∧
 (q13=false→
 Q (iV (-1)) w11))∧
 ((decide (n2_0=1))=false→
 ((decide (n2_0=2))=true→
 bS 28 2 #[(0,(iV 0)),(1,(iV 0))] v fun x18 w17=>
 ∃ q19,(pF 152 #[x_1.val,x2_3.val,x18.val] w17 (.bool q19))∧
 (q19=true→
 Q (iV 0) w17)∧
 (q19=false→
 Q (iV (-1)) w17))∧
 ((decide (n2_0=2))=false→
 ((decide (n2_0=3))=true→
 bS 28 2 #[(0,(iV 0)),(1,(iV 0))] v fun x24 w23=>
 ∃ q25,(pF 152 #[x_1.val,x2_3.val,x24.val] w23 (.bool q25))∧
 (q25=true→
 Q (iV 0) w23)∧
 (q25=false→
 Q (iV (-1)) w23))∧
 ((decide (n2_0=3))=false→
 ((decide (n2_0=4))=true→
 bS 28 2 #[(0,(iV 0)),(1,(iV 0))] v fun x30 w29=>
 ∃ q31,(pF 152 #[x_1.val,x2_3.val,x30.val] w29 (.bool q31))∧
 (q31=true→
 Q (iV 0) w29)∧
 (q31=false→
 Q (iV (-1)) w29))∧
 ((decide (n2_0=4))=false→
 ((decide (n2_0=5))=true→
 bS 28 1 #[(0,(iV 0))] v fun x36 w35=>
 ∃ q37,(pF 152 #[x_1.val,x2_3.val,x36.val] w35 (.bool q37))∧
 (q37=true→
 Q (iV 0) w35)∧
 (q37=false→
 Q (iV (-1)) w35))∧
 ((decide (n2_0=5))=false→
 ((decide (n2_0=6))=true→
 ∃ n40,(pF 126 #[x0_0.val,iV n2_1] v (iV n40))∧
 ((decide (n40 > 0))=true→
 zt7 95 #[x0_0.val,iV n2_1] v fun x45 w44=>
 Sub v w44∧
 ∃ q46,(pF 152 #[x_1.val,x2_3.val,x45.val] w44 (.bool q46))∧
 (q46=true→
 ∃ n49,(pF 126 #[x0_0.val,iV n2_1] w44 (iV n49))∧
 Q (iV n49) w44)∧
 (q46=false→
 Q (iV (-1)) w44))∧
 ((decide (n40 > 0))=false→
 Sub v v∧
 Q (iV (-1)) v))∧
 ((decide (n2_0=6))=false→
 ((decide (n2_0=7))=true→
 bS 28 1 #[(0,(iV 0))] v fun x54 w53=>
 ∃ q55,(pF 152 #[x_1.val,x2_3.val,x54.val] w53 (.bool q55))∧
 (q55=true→
 ∃ n58,(pF 153 #[.agg #[x0_0.val,x0_1.val],x_1.val,.agg #[iV n2_0,iV n2_1,iV n2_2,x2_3.val,x2_4.val]] w53 (iV n58))∧
 Q (iV n58) w53)∧
 (q55=false→
 Q (iV (-1)) w53))∧
 ((decide (n2_0=7))=false→
 ((decide (n2_0=8))=true→
 bS 28 1 #[(0,(iV n2_1))] v fun x63 w62=>
 ∃ q64,(pF 152 #[x_1.val,x2_3.val,x63.val] w62 (.bool q64))∧
 (q64=true→
 ∃ n67,(pF 153 #[.agg #[x0_0.val,x0_1.val],x_1.val,.agg #[iV n2_0,iV n2_1,iV n2_2,x2_3.val,x2_4.val]] w62 (iV n67))∧
 Q (iV n67) w62)∧
 (q64=false→
 Q (iV (-1)) w62))∧
 ((decide (n2_0=8))=false→
 ((decide (n2_0=9))=true→
 ∃ n70,(pF 154 #[.agg #[x0_0.val,x0_1.val],x_1.val,.agg #[iV n2_0,iV n2_1,iV n2_2,x2_3.val,x2_4.val]] v (iV n70))∧
 Q (iV n70) v)∧
 ((decide (n2_0=9))=false→
 ((decide (n2_0=10))=true→
 ∃ n73,(pF 154 #[.agg #[x0_0.val,x0_1.val],x_1.val,.agg #[iV n2_0,iV n2_1,iV n2_2,x2_3.val,x2_4.val]] v (iV n73))∧
 Q (iV n73) v)∧
 ((decide (n2_0=10))=false→
 ((decide (n2_0=11))=true→
 ((decide ((x2_3.n:Int)=2))=true→
 IxOk x2_3 0)∧
 ∃ n76:Int,((decide ((x2_3.n:Int)=2))=true→
 v.cell? ((elA x2_3 0 1).add 0)=some (iV n76))∧
 ∃ n77:Int,((decide ((x2_3.n:Int)=2))=true→
 Wr .i64 ((x_1.n:Int) - 1) n77)∧
 ∃ q78:Bool,((decide ((x2_3.n:Int)=2))=true→
 (pF 36 #[iV n76,iV 0,iV n77] v (.bool q78)))∧
 (((decide ((x2_3.n:Int)=2)) && q78)=true→
 IxOk x2_3 0)∧
 ∃ n81:Int,(((decide ((x2_3.n:Int)=2)) && q78)=true→
 v.cell? ((elA x2_3 0 1).add 0)=some (iV n81))∧
 (((decide ((x2_3.n:Int)=2)) && q78)=true→
 IxOk x_1 n81)∧
 ∃ n82:Int,(((decide ((x2_3.n:Int)=2)) && q78)=true→
 v.cell? ((elA x_1 n81 1).add 0)=some (iV n82))∧
 ∃ q83:Bool,(((decide ((x2_3.n:Int)=2)) && q78)=true→
 (pF 155 #[x0_0.val,iV n82] v (.bool q83)))∧
 ((((decide ((x2_3.n:Int)=2)) && q78) && q83)=true→
 IxOk x2_3 0∧
 zl6 v x2_3 0 fun n86=>
 IxOk x_1 n86∧
 zl6 v x_1 n86 fun n87=>
 ∃ n88,Wr .i64 (n87 - 1) n88∧
 IxOk x0_0 n88∧
 zl5 v x0_0 n88 fun n89 n90 x91=>
 Sub v v∧
 ((0:Int)≤1∧1≤(x2_3.n:Int))∧
 bS 28 1 #[(0,(iV n89))] v fun x94 w93=>
 Sub v w93∧
 ∃ q95,(pF 152 #[x_1.val,(x2_3.cut 1 (x2_3.n:Int) 1).val,x94.val] w93 (.bool q95))∧
 (q95=true→
 Q (iV n90) w93)∧
 (q95=false→
 Q (iV (-1)) w93))∧
 ((((decide ((x2_3.n:Int)=2)) && q78) && q83)=false→
 Q (iV (-1)) v))∧
 ((decide (n2_0=11))=false→
 ((decide (n2_0=14))=true→
 ∃ n98,(pF 156 #[.agg #[x0_0.val,x0_1.val],x_1.val,.agg #[iV n2_0,iV n2_1,iV n2_2,x2_3.val,x2_4.val]] v (iV n98))∧
 Q (iV n98) v)∧
 ((decide (n2_0=14))=false→
 ((decide (n2_0=15))=true→
 ∃ n101,(pF 156 #[.agg #[x0_0.val,x0_1.val],x_1.val,.agg #[iV n2_0,iV n2_1,iV n2_2,x2_3.val,x2_4.val]] v (iV n101))∧
 Q (iV n101) v)∧
 ((decide (n2_0=15))=false→
 ((decide (n2_0=16))=true→
 ∃ n104,(pF 156 #[.agg #[x0_0.val,x0_1.val],x_1.val,.agg #[iV n2_0,iV n2_1,iV n2_2,x2_3.val,x2_4.val]] v (iV n104))∧
 Q (iV n104) v)∧
 ((decide (n2_0=16))=false→
 ((decide (n2_0=17))=true→
 ∃ n107,(pF 156 #[.agg #[x0_0.val,x0_1.val],x_1.val,.agg #[iV n2_0,iV n2_1,iV n2_2,x2_3.val,x2_4.val]] v (iV n107))∧
 Q (iV n107) v)∧
 ((decide (n2_0=17))=false→
 Q (iV (-1)) v)))))))))))))))))
theorem of113 (x0_0 x0_1 x_1:Sl) (n2_0 n2_1 n2_2:Int) (x2_3 x2_4:Sl) (v:World) (Q:QT) (h:vc113 x0_0 x0_1 x_1 n2_0 n2_1 n2_2 x2_3 x2_4 v Q):Tr 113 #[.agg #[x0_0.val,x0_1.val],x_1.val,.agg #[iV n2_0,iV n2_1,iV n2_2,x2_3.val,x2_4.val]] v Q:=
 trip_of_eq (args:=[.ag [.sl x0_0,.sl x0_1],.sl x_1,.ag [.num .i64 n2_0,.num .i64 n2_1,.num .i64 n2_2,.sl x2_3,.sl x2_4]]) (A:=⟨[],[],[(17,[14]),(30,[12]),(31,[6])],[999999],psG⟩) Tryz.func113 (by kernel_rfl) (by kernel_rfl) (by kernel_rfl) h
def vc114 (x0_0 x0_1 x_1:Sl) (n2_0 n2_1 n2_2:Int) (x2_3 x2_4:Sl) (v:World) (Q:QT):Prop:=
 bS 28 0 #[] v fun x3 w2=>
 ∃ I4:zI4,∃ m5:zN4,I4 x3 0 w2∧
 ∀ x6 n7 w8,I4 x6 n7 w8→
 ((decide (n7 < (x2_3.n:Int)))=true→
 ∃ q9,(pF 157 #[.agg #[x0_0.val,x0_1.val],x_1.val,.agg #[iV n2_0,iV n2_1,iV n2_2,x2_3.val,x2_4.val],iV n7] w8 (.bool q9))∧
 (q9=true→
 IxOk x2_3 n7∧
 zl6 w8 x2_3 n7 fun n12=>
 bS 28 1 #[(0,(iV n12))] w8 fun x15 w14=>
 aS 28 x6 x15 w14 fun x18 w17=>
 ∃ n19,Wr .i64 (n7+1) n19∧
 zq22 x0_0 x0_1 n2_0 n2_1 n2_2 x2_3 x2_4 fun _=>
 I4 x18 n19 w17∧
 m5 x18 n19 w17 < m5 x6 n7 w8)∧
 (q9=false→
 ∃ n20,Wr .i64 (n7+1) n20∧
 zq22 x0_0 x0_1 n2_0 n2_1 n2_2 x2_3 x2_4 fun _=>
 I4 x6 n20 w8∧
 m5 x6 n20 w8 < m5 x6 n7 w8))∧
 ((decide (n7 < (x2_3.n:Int)))=false→
 Q (x6.val) w8)
theorem of114 (x0_0 x0_1 x_1:Sl) (n2_0 n2_1 n2_2:Int) (x2_3 x2_4:Sl) (v:World) (Q:QT) (h:vc114 x0_0 x0_1 x_1 n2_0 n2_1 n2_2 x2_3 x2_4 v Q):Tr 114 #[.agg #[x0_0.val,x0_1.val],x_1.val,.agg #[iV n2_0,iV n2_1,iV n2_2,x2_3.val,x2_4.val]] v Q:=
 trip_of_eq (args:=[.ag [.sl x0_0,.sl x0_1],.sl x_1,.ag [.num .i64 n2_0,.num .i64 n2_1,.num .i64 n2_2,.sl x2_3,.sl x2_4]]) (A:=⟨[(3,[(7,.sl),(8,.int .i64)],[])],[],[],[],psG⟩) Tryz.func114 (by kernel_rfl) (by kernel_rfl) (by kernel_rfl) h
def vc115 (x0_0 x0_1 x_1:Sl) (n2_0 n2_1 n2_2:Int) (x2_3 x2_4:Sl) (v:World) (Q:QT):Prop:=
 bS 29 0 #[] v fun x3 w2=>
 zt7 94 #[x0_0.val,iV n2_1] w2 fun x6 w5=>
 ∃ I7:zI4,∃ m8:zN4,I7 x3 0 w5∧
 ∀ x9 n10 w11,I7 x9 n10 w11→
 ((decide (n10 < (x2_4.n:Int)))=true→
 bS 28 0 #[] w11 fun x14 w13=>
 ((decide (n2_0=8))=true→
 IxOk x6 n10∧
 zl6 w13 x6 n10 fun n15=>
 zt7 95 #[x0_0.val,iV n15] w13 fun x18 w17=>
 zt7 83 #[x18.val,iV (x_1.n:Int)] w17 fun x21 w20=>
 IxOk x2_4 n10∧
 zl1 w20 x2_4 n10 fun x22 n23=>
 (zt7 99 #[x_1.val,x18.val] w20 fun x26 w25=>
 Sub w20 w25∧
 (zt3 86 #[.agg #[x0_0.val,x0_1.val],x26.val,.agg #[x22.val,iV n23],x21.val] w25 fun x29 n30 w28=>
 Sub w28 w28∧
 zt7 112 #[iV 14,x21.val] w28 fun x33 w32=>
 Sub w28 w32∧
 aS 23 x33 x29 w32 fun x36 w35=>
 bS 29 1 #[(0,(.agg #[x36.val,iV n30]))] w35 fun x39 w38=>
 aS 29 x9 x39 w38 fun x42 w41=>
 ∃ n43,Wr .i64 (n10+1) n43∧
 zq23 x0_0 x0_1 n2_0 n2_1 n2_2 x2_3 x2_4 0 0 0 (Sl.mk none 0 0) (Sl.mk none 0 0) fun _=>
 I7 x42 n43 w41∧
 m8 x42 n43 w41 < m8 x9 n10 w11)∧
 Sub w25 w25∧
 zt3 86 #[.agg #[x0_0.val,x0_1.val],x26.val,.agg #[x22.val,iV n23],x21.val] w25 fun x46 n47 w45=>
 zt7 112 #[iV 14,x21.val] w45 fun x50 w49=>
 Sub w45 w49∧
 aS 23 x50 x46 w49 fun x53 w52=>
 bS 29 1 #[(0,(.agg #[x53.val,iV n47]))] w52 fun x56 w55=>
 aS 29 x9 x56 w55 fun x59 w58=>
 ∃ n60,Wr .i64 (n10+1) n60∧
 zq23 x0_0 x0_1 n2_0 n2_1 n2_2 x2_3 x2_4 0 0 0 (Sl.mk none 0 0) (Sl.mk none 0 0) fun _=>
 I7 x59 n60 w58∧
 m8 x59 n60 w58 < m8 x9 n10 w11)∧
 Sub w20 w20∧
 zt7 99 #[x_1.val,x18.val] w20 fun x63 w62=>
 Sub w20 w62∧
 zt3 86 #[.agg #[x0_0.val,x0_1.val],x63.val,.agg #[x22.val,iV n23],x21.val] w62 fun x66 n67 w65=>
 zt7 112 #[iV 14,x21.val] w65 fun x70 w69=>
 Sub w65 w69∧
 aS 23 x70 x66 w69 fun x73 w72=>
 bS 29 1 #[(0,(.agg #[x73.val,iV n67]))] w72 fun x76 w75=>
 aS 29 x9 x76 w75 fun x79 w78=>
 ∃ n80,Wr .i64 (n10+1) n80∧
 zq23 x0_0 x0_1 n2_0 n2_1 n2_2 x2_3 x2_4 0 0 0 (Sl.mk none 0 0) (Sl.mk none 0 0) fun _=>
 I7 x79 n80 w78∧
 m8 x79 n80 w78 < m8 x9 n10 w11)∧
 ((decide (n2_0=8))=false→
 zt7 83 #[x14.val,iV (x_1.n:Int)] w13 fun x83 w82=>
 IxOk x2_4 n10∧
 zl1 w82 x2_4 n10 fun x84 n85=>
 (zt7 99 #[x_1.val,x14.val] w82 fun x88 w87=>
 Sub w82 w87∧
 (zt3 86 #[.agg #[x0_0.val,x0_1.val],x88.val,.agg #[x84.val,iV n85],x83.val] w87 fun x91 n92 w90=>
 Sub w90 w90∧
 zt7 112 #[iV 14,x83.val] w90 fun x95 w94=>
 Sub w90 w94∧
 aS 23 x95 x91 w94 fun x98 w97=>
 bS 29 1 #[(0,(.agg #[x98.val,iV n92]))] w97 fun x101 w100=>
 aS 29 x9 x101 w100 fun x104 w103=>
 ∃ n105,Wr .i64 (n10+1) n105∧
 zq23 x0_0 x0_1 n2_0 n2_1 n2_2 x2_3 x2_4 0 0 0 (Sl.mk none 0 0) (Sl.mk none 0 0) fun _=>
 I7 x104 n105 w103∧
 m8 x104 n105 w103 < m8 x9 n10 w11)∧
 Sub w87 w87∧
 zt3 86 #[.agg #[x0_0.val,x0_1.val],x88.val,.agg #[x84.val,iV n85],x83.val] w87 fun x108 n109 w107=>
 zt7 112 #[iV 14,x83.val] w107 fun x112 w111=>
 Sub w107 w111∧
 aS 23 x112 x108 w111 fun x115 w114=>
 bS 29 1 #[(0,(.agg #[x115.val,iV n109]))] w114 fun x118 w117=>
 aS 29 x9 x118 w117 fun x121 w120=>
 ∃ n122,Wr .i64 (n10+1) n122∧
 zq23 x0_0 x0_1 n2_0 n2_1 n2_2 x2_3 x2_4 0 0 0 (Sl.mk none 0 0) (Sl.mk none 0 0) fun _=>
 I7 x121 n122 w120∧
 m8 x121 n122 w120 < m8 x9 n10 w11)∧
 Sub w82 w82∧
 zt7 99 #[x_1.val,x14.val] w82 fun x125 w124=>
 Sub w82 w124∧
 zt3 86 #[.agg #[x0_0.val,x0_1.val],x125.val,.agg #[x84.val,iV n85],x83.val] w124 fun x128 n129 w127=>
 zt7 112 #[iV 14,x83.val] w127 fun x132 w131=>
 Sub w127 w131∧
 aS 23 x132 x128 w131 fun x135 w134=>
 bS 29 1 #[(0,(.agg #[x135.val,iV n129]))] w134 fun x138 w137=>
 aS 29 x9 x138 w137 fun x141 w140=>
 ∃ n142,Wr .i64 (n10+1) n142∧
 zq23 x0_0 x0_1 n2_0 n2_1 n2_2 x2_3 x2_4 0 0 0 (Sl.mk none 0 0) (Sl.mk none 0 0) fun _=>
 I7 x141 n142 w140∧
 m8 x141 n142 w140 < m8 x9 n10 w11))∧
 ((decide (n10 < (x2_4.n:Int)))=false→
 zt7 50 #[x2_3.val] w11 fun x145 w144=>
 Sub w11 w144∧
 Q (.agg #[iV n2_0,iV n2_1,iV 0,x145.val,x9.val]) w144)
theorem of115 (x0_0 x0_1 x_1:Sl) (n2_0 n2_1 n2_2:Int) (x2_3 x2_4:Sl) (v:World) (Q:QT) (h:vc115 x0_0 x0_1 x_1 n2_0 n2_1 n2_2 x2_3 x2_4 v Q):Tr 115 #[.agg #[x0_0.val,x0_1.val],x_1.val,.agg #[iV n2_0,iV n2_1,iV n2_2,x2_3.val,x2_4.val]] v Q:=
 trip_of_eq (args:=[.ag [.sl x0_0,.sl x0_1],.sl x_1,.ag [.num .i64 n2_0,.num .i64 n2_1,.num .i64 n2_2,.sl x2_3,.sl x2_4]]) (A:=⟨[(4,[(7,.sl),(9,.int .i64)],[])],[],[(8,[]),(10,[3,11]),(11,[2]),(12,[6])],[],psG⟩) Tryz.func115 (by kernel_rfl) (by kernel_rfl) (by kernel_rfl) h
def vc116 (x0_0 x0_1:Sl) (v:World) (Q:QT):Prop:=
 ((decide ((x0_1.n:Int) > 4))=false→
 zt6 159 #[.agg #[x0_0.val,x0_1.val]] v fun x3 x4 w2=>
 ∃ q5,(pF 158 #[.agg #[x3.val,x4.val]] w2 (.bool q5))∧
 ((!q5)=true→
 Q (.bool false) w2)∧
 ((!q5)=false→
 ∃ I8:zI1,∃ m9:zN1,I8 0 w2∧
 ∀ n10 w11,I8 n10 w11→
 ((decide (n10 < (x0_1.n:Int)))=true→
 IxOk x0_1 n10∧
 zl9 w11 x0_1 n10 fun x12=>
 IxOk x0_1 n10∧
 zl8 w11 x0_1 n10 fun x13=>
 ∃ q14,(pF 160 #[x12.val,x13.val] w11 (.bool q14))∧
 ((!q14)=true→
 Q (.bool false) w11)∧
 ((!q14)=false→
 ∃ n17,Wr .i64 (n10+1) n17∧
 zq10 x0_0 x0_1 fun _=>
 I8 n17 w11∧
 m9 n17 w11 < m9 n10 w11))∧
 ((decide (n10 < (x0_1.n:Int)))=false→
 Q (.bool true) w11)))∧
 ((decide ((x0_1.n:Int) > 4))=true→
 Q (.bool false) v)
theorem of116 (x0_0 x0_1:Sl) (v:World) (Q:QT) (h:vc116 x0_0 x0_1 v Q):Tr 116 #[.agg #[x0_0.val,x0_1.val]] v Q:=
 trip_of_eq (args:=[.ag [.sl x0_0,.sl x0_1]]) (A:=⟨[(4,[(3,.int .i64)],[])],[],[],[],psG⟩) Tryz.func116 (by kernel_rfl) (by kernel_rfl) (by kernel_rfl) h
def vc117 (x0_0 x0_1 x_1 x2_0:Sl) (n2_1:Int) (v:World) (Q:QT):Prop:=
 zt7 50 #[x_1.val] v fun x3 w2=>
 ∃ I4:zI4,∃ m5:zN4,I4 x3 0 w2∧
 ∀ x6 n7 w8,I4 x6 n7 w8→
 ((decide (n7 < (x2_0.n:Int)))=true→
 IxOk x2_0 n7∧
 zl0 w8 x2_0 n7 fun n9 n10 n11 x12 x13=>
 ∃ n14,(pF 113 #[.agg #[x0_0.val,x0_1.val],x6.val,.agg #[iV n9,iV n10,iV n11,x12.val,x13.val]] w8 (iV n14))∧
 ((decide (n14 < 0))=true→
 Q (iV (-1)) w8)∧
 ((decide (n14 < 0))=false→
 IxOk x2_0 n7∧
 zl16 w8 x2_0 n7 fun n17=>
 ∃ q18,(pF 97 #[iV n17] w8 (.bool q18))∧
 (q18=true→
 bS 28 1 #[(0,(iV n14))] w8 fun x23 w22=>
 aS 28 x6 x23 w22 fun x26 w25=>
 ∃ n27,Wr .i64 (n7+1) n27∧
 zq24 x0_0 x0_1 x2_0 n2_1 fun _=>
 I4 x26 n27 w25∧
 m5 x26 n27 w25 < m5 x6 n7 w8)∧
 (q18=false→
 ∃ n28,Wr .i64 (n7+1) n28∧
 zq24 x0_0 x0_1 x2_0 n2_1 fun _=>
 I4 x6 n28 w8∧
 m5 x6 n28 w8 < m5 x6 n7 w8)))∧
 ((decide (n7 < (x2_0.n:Int)))=false→
 ∃ n29,Wr .i64 ((x6.n:Int) - 1) n29∧
 ∃ q30,(pF 36 #[iV n2_1,iV 0,iV n29] w8 (.bool q30))∧
 ((!q30)=true→
 Q (iV (-1)) w8)∧
 ((!q30)=false→
 IxOk x6 n2_1∧
 zl6 w8 x6 n2_1 fun n33=>
 Q (iV n33) w8))
theorem of117 (x0_0 x0_1 x_1 x2_0:Sl) (n2_1:Int) (v:World) (Q:QT) (h:vc117 x0_0 x0_1 x_1 x2_0 n2_1 v Q):Tr 117 #[.agg #[x0_0.val,x0_1.val],x_1.val,.agg #[x2_0.val,iV n2_1]] v Q:=
 trip_of_eq (args:=[.ag [.sl x0_0,.sl x0_1],.sl x_1,.ag [.sl x2_0,.num .i64 n2_1]]) (A:=⟨[(3,[(7,.sl),(8,.int .i64)],[])],[],[],[],psG⟩) Tryz.func117 (by kernel_rfl) (by kernel_rfl) (by kernel_rfl) h
def vc118 (a_0:Addr) (n_1 n_2 n_3:Int) (v:World) (Q:QT):Prop:=
 ∃ x1:Sl,v.cell? (a_0.add 0)=some (x1.val)∧
 bS 28 1 #[(0,(iV n_1))] v fun x4 w3=>
 aS 28 x1 x4 w3 fun x7 w6=>
 StoreAt w6 a_0 0 [x7.val] fun w8=>
 ∃ x9:Sl,w8.cell? (a_0.add 1)=some (x9.val)∧
 bS 28 1 #[(0,(iV n_2))] w8 fun x12 w11=>
 aS 28 x9 x12 w11 fun x15 w14=>
 StoreAt w14 a_0 1 [x15.val] fun w16=>
 ∃ x17:Sl,w16.cell? (a_0.add 2)=some (x17.val)∧
 bS 28 1 #[(0,(iV n_3))] w16 fun x20 w19=>
 aS 28 x17 x20 w19 fun x23 w22=>
 StoreAt w22 a_0 2 [x23.val] fun w24=>
 ∃ x25:Sl,w24.cell? (a_0.add 3)=some (x25.val)∧
 bS 28 1 #[(0,(iV (-1)))] w24 fun x28 w27=>
 aS 28 x25 x28 w27 fun x31 w30=>
 StoreAt w30 a_0 3 [x31.val] fun w32=>
 ∃ x33:Sl,w32.cell? (a_0.add 4)=some (x33.val)∧
 bS 28 1 #[(0,(iV (-1)))] w32 fun x36 w35=>
 aS 28 x33 x36 w35 fun x39 w38=>
 StoreAt w38 a_0 4 [x39.val] fun w40=>
 ∃ x41:Sl,w40.cell? (a_0.add 5)=some (x41.val)∧
 bS 28 1 #[(0,(iV (-1)))] w40 fun x44 w43=>
 aS 28 x41 x44 w43 fun x47 w46=>
 StoreAt w46 a_0 5 [x47.val] fun w48=>
 Q (.tuple #[]) w48
theorem of118 (a_0:Addr) (n_1 n_2 n_3:Int) (v:World) (Q:QT) (h:vc118 a_0 n_1 n_2 n_3 v Q):Tr 118 #[pt a_0,iV n_1,iV n_2,iV n_3] v Q:=
 trip_of_eq (args:=[.pt a_0 0,.num .i64 n_1,.num .i64 n_2,.num .i64 n_3]) (A:=aG) Tryz.func118 (by kernel_rfl) (by kernel_rfl) (by kernel_rfl) h
def vc119 (a_0:Addr) (n_1:Int) (v:World) (Q:QT):Prop:=
 ∃ x1:Sl,v.cell? (a_0.add 1)=some (x1.val)∧
 IxOk x1 n_1∧
 zl6 v x1 n_1 fun n2=>
 ((decide (n2 < 1))=true→
 Q (.bool false) v)∧
 ((decide (n2 < 1))=false→
 ∃ x3:Sl,v.cell? (a_0.add 1)=some (x3.val)∧
 ∃ x4:Sl,v.cell? (a_0.add 1)=some (x4.val)∧
 IxOk x4 n_1∧
 zl6 v x4 n_1 fun n5=>
 ∃ n6,Wr .i64 (n5 - 1) n6∧
 IxOk x3 n_1∧
 StoreAt v (elA x3 n_1 1) 0 [iV n6] fun w7=>
 Q (.bool true) w7)
theorem of119 (a_0:Addr) (n_1:Int) (v:World) (Q:QT) (h:vc119 a_0 n_1 v Q):Tr 119 #[pt a_0,iV n_1] v Q:=
 trip_of_eq (args:=[.pt a_0 0,.num .i64 n_1]) (A:=⟨[],[],[(3,[])],[],psG⟩) Tryz.func119 (by kernel_rfl) (by kernel_rfl) (by kernel_rfl) h
def vc120 (a_0:Addr) (x1_0 x1_1:Sl) (n2_0 n2_1 n2_2:Int) (x2_3 x2_4:Sl) (v:World) (Q:QT):Prop:=
 IxOk x2_3 0∧
 zl6 v x2_3 0 fun n1=>
 ∃ x2:Sl,v.cell? (a_0.add 3)=some (x2.val)∧
 IxOk x2 n1∧
 zl6 v x2 n1 fun n3=>
 ∃ x4:Sl,((decide (n2_0=17))=true→
 (decide (n3 < 0))=false→
 v.cell? (a_0.add 5)=some (x4.val))∧
 ((decide (n2_0=17))=true→
 (decide (n3 < 0))=false→
 IxOk x4 n1)∧
 ∃ n5:Int,((decide (n2_0=17))=true→
 (decide (n3 < 0))=false→
 v.cell? ((elA x4 n1 1).add 0)=some (iV n5))∧
 (((decide (n3 < 0)) || ((decide (n2_0=17)) && (decide (n5≥0))))=false→
 zt1 119 #[pt a_0,iV n1] v fun q8 w7=>
 ((!q8)=true→
 Q (.bool false) w7)∧
 ((!q8)=false→
 ∃ x9:Sl,w7.cell? (a_0.add 3)=some (x9.val)∧
 IxOk x9 n1∧
 zl6 w7 x9 n1 fun n10=>
 zt7 95 #[x1_0.val,iV n10] w7 fun x13 w12=>
 ∃ I14:zI1,∃ m15:zN1,I14 0 w12∧
 ∀ n16 w17,I14 n16 w17→
 ((decide (n16 < (x13.n:Int)))=true→
 IxOk x13 n16∧
 zl6 w17 x13 n16 fun n18=>
 ((!decide (n18=0))=true→
 ∃ x19:Sl,w17.cell? (a_0.add 1)=some (x19.val)∧
 ∃ x20:Sl,w17.cell? (a_0.add 4)=some (x20.val)∧
 IxOk x20 n1∧
 zl6 w17 x20 n1 fun n21=>
 ∃ n22,Wr .i64 (n21+n16) n22∧
 ∃ x23:Sl,w17.cell? (a_0.add 1)=some (x23.val)∧
 ∃ x24:Sl,w17.cell? (a_0.add 4)=some (x24.val)∧
 IxOk x24 n1∧
 zl6 w17 x24 n1 fun n25=>
 ∃ n26,Wr .i64 (n25+n16) n26∧
 IxOk x23 n26∧
 zl6 w17 x23 n26 fun n27=>
 ∃ n28,Wr .i64 (n27+1) n28∧
 IxOk x19 n22∧
 StoreAt w17 (elA x19 n22 1) 0 [iV n28] fun w29=>
 ∃ n30,Wr .i64 (n16+1) n30∧
 zq22 x1_0 x1_1 n2_0 n2_1 n2_2 x2_3 x2_4 fun _=>
 I14 n30 w29∧
 m15 n30 w29 < m15 n16 w17)∧
 ((!decide (n18=0))=false→
 ∃ n31,Wr .i64 (n16+1) n31∧
 zq22 x1_0 x1_1 n2_0 n2_1 n2_2 x2_3 x2_4 fun _=>
 I14 n31 w17∧
 m15 n31 w17 < m15 n16 w17))∧
 ((decide (n16 < (x13.n:Int)))=false→
 ((decide (n2_0=17))=true→
 ∃ x32:Sl,w17.cell? (a_0.add 5)=some (x32.val)∧
 IxOk x32 n1∧
 StoreAt w17 (elA x32 n1 1) 0 [iV (x13.n:Int)] fun w33=>
 Q (.bool true) w33)∧
 ((decide (n2_0=17))=false→
 Q (.bool true) w17))))∧
 (((decide (n3 < 0)) || ((decide (n2_0=17)) && (decide (n5≥0))))=true→
 Q (.bool false) v)
theorem of120 (a_0:Addr) (x1_0 x1_1:Sl) (n2_0 n2_1 n2_2:Int) (x2_3 x2_4:Sl) (v:World) (Q:QT) (h:vc120 a_0 x1_0 x1_1 n2_0 n2_1 n2_2 x2_3 x2_4 v Q):Tr 120 #[pt a_0,.agg #[x1_0.val,x1_1.val],.agg #[iV n2_0,iV n2_1,iV n2_2,x2_3.val,x2_4.val]] v Q:=
 trip_of_eq (args:=[.pt a_0 0,.ag [.sl x1_0,.sl x1_1],.ag [.num .i64 n2_0,.num .i64 n2_1,.num .i64 n2_2,.sl x2_3,.sl x2_4]]) (A:=⟨[(6,[(9,.int .i64)],[])],[],[(4,[]),(9,[])],[],psG⟩) Tryz.func120 (by kernel_rfl) (by kernel_rfl) (by kernel_rfl) h
def vc121 (a_0:Addr) (x1_0 x1_1:Sl) (n2_0 n2_1 n2_2:Int) (x2_3 x2_4:Sl) (v:World) (Q:QT):Prop:=
 ((decide (n2_0=8))=true→
 IxOk x2_3 0)∧
 ∃ n1:Int,((decide (n2_0=8))=true→
 v.cell? ((elA x2_3 0 1).add 0)=some (iV n1))∧
 ∃ q2:Bool,((decide (n2_0=8))=true→
 (pF 68 #[pt a_0,iV n1] v (.bool q2)))∧
 (((decide (n2_0=8)) && (!q2))=true→
 Q (.bool false) v)∧
 (((decide (n2_0=8)) && (!q2))=false→
 zt13 161 #[pt a_0,.agg #[x1_0.val,x1_1.val],.agg #[iV n2_0,iV n2_1,iV n2_2,x2_3.val,x2_4.val],iV 0] v fun a7 q8 w6=>
 ((!q8)=true→
 Q (.bool false) w6)∧
 ((!q8)=false→
 ∃ I9:zI1,∃ m10:zN1,I9 1 w6∧
 ∀ n11 w12,I9 n11 w12→
 ((decide (n11 < (x2_4.n:Int)))=true→
 zt13 161 #[pt a_0,.agg #[x1_0.val,x1_1.val],.agg #[iV n2_0,iV n2_1,iV n2_2,x2_3.val,x2_4.val],iV n11] w12 fun a15 q16 w14=>
 ∃ x17:Sl,((!q16)=false→
 w14.cell? (a7.add 1)=some (x17.val))∧
 ∃ x18:Sl,((!q16)=false→
 w14.cell? (a15.add 1)=some (x18.val))∧
 ∃ q19:Bool,((!q16)=false→
 (pF 162 #[x17.val,x18.val] w14 (.bool q19)))∧
 ∃ x22:Sl,(((!q16) || (!q19))=false→
 w14.cell? (a7.add 5)=some (x22.val))∧
 ∃ x23:Sl,(((!q16) || (!q19))=false→
 w14.cell? (a15.add 5)=some (x23.val))∧
 ∃ q24:Bool,(((!q16) || (!q19))=false→
 (pF 162 #[x22.val,x23.val] w14 (.bool q24)))∧
 ((((!q16) || (!q19)) || (!q24))=true→
 Q (.bool false) w14)∧
 ((((!q16) || (!q19)) || (!q24))=false→
 ∃ n27,Wr .i64 (n11+1) n27∧
 zq22 x1_0 x1_1 n2_0 n2_1 n2_2 x2_3 x2_4 fun _=>
 I9 n27 w14∧
 m10 n27 w14 < m10 n11 w12))∧
 ((decide (n11 < (x2_4.n:Int)))=false→
 ∃ x28:Sl,w12.cell? (a7.add 1)=some (x28.val)∧
 StoreAt w12 a_0 1 [x28.val] fun w29=>
 ∃ x30:Sl,w29.cell? (a7.add 5)=some (x30.val)∧
 StoreAt w29 a_0 5 [x30.val] fun w31=>
 Q (.bool true) w31)))
theorem of121 (a_0:Addr) (x1_0 x1_1:Sl) (n2_0 n2_1 n2_2:Int) (x2_3 x2_4:Sl) (v:World) (Q:QT) (h:vc121 a_0 x1_0 x1_1 n2_0 n2_1 n2_2 x2_3 x2_4 v Q):Tr 121 #[pt a_0,.agg #[x1_0.val,x1_1.val],.agg #[iV n2_0,iV n2_1,iV n2_2,x2_3.val,x2_4.val]] v Q:=
 trip_of_eq (args:=[.pt a_0 0,.ag [.sl x1_0,.sl x1_1],.ag [.num .i64 n2_0,.num .i64 n2_1,.num .i64 n2_2,.sl x2_3,.sl x2_4]]) (A:=⟨[(7,[(9,.int .i64)],[])],[],[],[999999],psG⟩) Tryz.func121 (by kernel_rfl) (by kernel_rfl) (by kernel_rfl) h
def vc122 (a_0:Addr) (x1_0 x1_1:Sl) (n2_0 n2_1 n2_2:Int) (x2_3 x2_4:Sl) (v:World) (Q:QT):Prop:=
 ∃ I1:zI1,∃ m2:zN1,I1 0 v∧
 ∀ n3 w4,I1 n3 w4→
 ((decide (n3 < (x2_3.n:Int)))=true→
 ∃ x5:Sl,w4.cell? (a_0.add 0)=some (x5.val)∧
 ∃ q6,(pF 157 #[.agg #[x1_0.val,x1_1.val],x5.val,.agg #[iV n2_0,iV n2_1,iV n2_2,x2_3.val,x2_4.val],iV n3] w4 (.bool q6))∧
 (q6=true→
 IxOk x2_3 n3)∧
 ∃ n9:Int,(q6=true→
 w4.cell? ((elA x2_3 n3 1).add 0)=some (iV n9))∧
 (q6=true→
 zt1 119 #[pt a_0,iV n9] w4 fun q12 w11=>
 ((!q12)=true→
 Q (.bool false) w11)∧
 ((!q12)=false→
 ∃ n13,Wr .i64 (n3+1) n13∧
 zq22 x1_0 x1_1 n2_0 n2_1 n2_2 x2_3 x2_4 fun _=>
 I1 n13 w11∧
 m2 n13 w11 < m2 n3 w4))∧
 (q6=false→
 ∃ n14,Wr .i64 (n3+1) n14∧
 zq22 x1_0 x1_1 n2_0 n2_1 n2_2 x2_3 x2_4 fun _=>
 I1 n14 w4∧
 m2 n14 w4 < m2 n3 w4))∧
 ((decide (n3 < (x2_3.n:Int)))=false→
 ∃ I15:zI1,∃ m16:zN1,I15 0 w4∧
 ∀ n17 w18,I15 n17 w18→
 ((decide (n17 < (x2_3.n:Int)))=true→
 ∃ q19,(pF 109 #[.agg #[x1_0.val,x1_1.val],.agg #[iV n2_0,iV n2_1,iV n2_2,x2_3.val,x2_4.val],iV n17] w18 (.bool q19))∧
 (q19=true→
 IxOk x2_3 n17)∧
 ∃ n22:Int,(q19=true→
 w18.cell? ((elA x2_3 n17 1).add 0)=some (iV n22))∧
 ∃ q23:Bool,(q19=true→
 (pF 68 #[pt a_0,iV n22] w18 (.bool q23)))∧
 ((q19 && (!q23))=true→
 Q (.bool false) w18)∧
 ((q19 && (!q23))=false→
 ∃ n26,Wr .i64 (n17+1) n26∧
 zq22 x1_0 x1_1 n2_0 n2_1 n2_2 x2_3 x2_4 fun _=>
 I15 n26 w18∧
 m16 n26 w18 < m16 n17 w18))∧
 ((decide (n17 < (x2_3.n:Int)))=false→
 ((decide (n2_2 > 0))=true→
 ∃ x27:Sl,w18.cell? (a_0.add 5)=some (x27.val)∧
 ∃ n28,Wr .i64 (n2_2 - 1) n28∧
 IxOk x27 n28∧
 zl6 w18 x27 n28 fun n29=>
 ((!decide (n29=(x2_3.n:Int)))=true→
 Q (.bool false) w18)∧
 ((!decide (n29=(x2_3.n:Int)))=false→
 ∃ x30:Sl,w18.cell? (a_0.add 5)=some (x30.val)∧
 ∃ n31,Wr .i64 (n2_2 - 1) n31∧
 IxOk x30 n31∧
 StoreAt w18 (elA x30 n31 1) 0 [iV (-1)] fun w32=>
 Q (.bool true) w32))∧
 ((decide (n2_2 > 0))=false→
 Q (.bool true) w18)))
theorem of122 (a_0:Addr) (x1_0 x1_1:Sl) (n2_0 n2_1 n2_2:Int) (x2_3 x2_4:Sl) (v:World) (Q:QT) (h:vc122 a_0 x1_0 x1_1 n2_0 n2_1 n2_2 x2_3 x2_4 v Q):Tr 122 #[pt a_0,.agg #[x1_0.val,x1_1.val],.agg #[iV n2_0,iV n2_1,iV n2_2,x2_3.val,x2_4.val]] v Q:=
 trip_of_eq (args:=[.pt a_0 0,.ag [.sl x1_0,.sl x1_1],.ag [.num .i64 n2_0,.num .i64 n2_1,.num .i64 n2_2,.sl x2_3,.sl x2_4]]) (A:=⟨[(2,[(7,.int .i64)],[]),(7,[(8,.int .i64)],[])],[],[(4,[]),(14,[])],[],psG⟩) Tryz.func122 (by kernel_rfl) (by kernel_rfl) (by kernel_rfl) h
def vc123 (x_0:Sl) (v:World) (Q:QT):Prop:=
 bS 28 0 #[] v fun x3 w2=>
 ∃ I4:zI4,∃ m5:zN4,I4 x3 0 w2∧
 ∀ x6 n7 w8,I4 x6 n7 w8→
 ((decide (n7 < (x_0.n:Int)))=true→
 IxOk x_0 n7∧
 zl15 w8 x_0 n7 fun x9=>
 IxOk x9 0∧
 zl6 w8 x9 0 fun n10=>
 zt7 133 #[x6.val,iV n10] w8 fun x13 w12=>
 ∃ n14,Wr .i64 (n7+1) n14∧
 I4 x13 n14 w12∧
 m5 x13 n14 w12 < m5 x6 n7 w8)∧
 ((decide (n7 < (x_0.n:Int)))=false→
 Q (x6.val) w8)
theorem of123 (x_0:Sl) (v:World) (Q:QT) (h:vc123 x_0 v Q):Tr 123 #[x_0.val] v Q:=
 trip_of_eq (args:=[.sl x_0]) (A:=⟨[(3,[(3,.sl),(4,.int .i64)],[])],[],[],[],psG⟩) Tryz.func123 (by kernel_rfl) (by kernel_rfl) (by kernel_rfl) h
def vc124 (x_0:Sl) (n_1:Int) (v:World) (Q:QT):Prop:=
 ∃ I1:zI0,∃ m2:zN0,I1 0 0 v∧
 ∀ n3 n4 w5,I1 n3 n4 w5→
 ((decide (n4 < (x_0.n:Int)))=true→
 IxOk x_0 n4∧
 zl15 w5 x_0 n4 fun x6=>
 IxOk x6 0∧
 zl6 w5 x6 0 fun n7=>
 ((decide (n7=n_1))=true→
 IxOk x_0 n4)∧
 ∃ n8:Int,((decide (n7=n_1))=true→
 w5.cell? ((elA x_0 n4 5).add 0)=some (iV n8))∧
 (((decide (n7=n_1)) && (decide (n8=14)))=true→
 ∃ n9,Wr .i64 (n3+1) n9∧
 ∃ n10,Wr .i64 (n4+1) n10∧
 I1 n9 n10 w5∧
 m2 n9 n10 w5 < m2 n3 n4 w5)∧
 (((decide (n7=n_1)) && (decide (n8=14)))=false→
 IxOk x_0 n4∧
 zl15 w5 x_0 n4 fun x11=>
 IxOk x11 0∧
 zl6 w5 x11 0 fun n12=>
 ((decide (n12=n_1))=true→
 ∃ n13,Wr .i64 (n3 - 1) n13∧
 ∃ n14,Wr .i64 (n4+1) n14∧
 I1 n13 n14 w5∧
 m2 n13 n14 w5 < m2 n3 n4 w5)∧
 ((decide (n12=n_1))=false→
 ∃ n15,Wr .i64 (n4+1) n15∧
 I1 n3 n15 w5∧
 m2 n3 n15 w5 < m2 n3 n4 w5)))∧
 ((decide (n4 < (x_0.n:Int)))=false→
 Q (iV n3) w5)
theorem of124 (x_0:Sl) (n_1:Int) (v:World) (Q:QT) (h:vc124 x_0 n_1 v Q):Tr 124 #[x_0.val,iV n_1] v Q:=
 trip_of_eq (args:=[.sl x_0,.num .i64 n_1]) (A:=⟨[(3,[(5,.int .i64),(6,.int .i64)],[])],[],[],[],psG⟩) Tryz.func124 (by kernel_rfl) (by kernel_rfl) (by kernel_rfl) h
def vc125 (x_0:Sl) (n_1:Int) (v:World) (Q:QT):Prop:=
 ∃ I1:zI0,∃ m2:zN0,I1 0 0 v∧
 ∀ n3 n4 w5,I1 n3 n4 w5→
 ((decide (n4 < n_1))=true→
 IxOk x_0 n4∧
 zl11 w5 x_0 n4 fun x6=>
 ∃ n7,Wr .i64 (n3+(x6.n:Int)) n7∧
 ∃ n8,Wr .i64 (n4+1) n8∧
 I1 n7 n8 w5∧
 m2 n7 n8 w5 < m2 n3 n4 w5)∧
 ((decide (n4 < n_1))=false→
 Q (iV n3) w5)
theorem of125 (x_0:Sl) (n_1:Int) (v:World) (Q:QT) (h:vc125 x_0 n_1 v Q):Tr 125 #[x_0.val,iV n_1] v Q:=
 trip_of_eq (args:=[.sl x_0,.num .i64 n_1]) (A:=⟨[(3,[(5,.int .i64),(6,.int .i64)],[])],[],[],[],psG⟩) Tryz.func125 (by kernel_rfl) (by kernel_rfl) (by kernel_rfl) h
def vc126 (x_0:Sl) (n_1:Int) (v:World) (Q:QT):Prop:=
 ∃ I1:zI1,∃ m2:zN1,I1 0 v∧
 ∀ n3 w4,I1 n3 w4→
 ((decide (n3 < (x_0.n:Int)))=true→
 ∃ n5,(pF 125 #[x_0.val,iV n3] w4 (iV n5))∧
 IxOk x_0 n3∧
 zl11 w4 x_0 n3 fun x8=>
 ∃ n9,Wr .i64 (n5+(x8.n:Int)) n9∧
 ∃ n10,Wr .i64 (n9 - 1) n10∧
 ∃ q11,(pF 36 #[iV n_1,iV n5,iV n10] w4 (.bool q11))∧
 (q11=true→
 ∃ n14,Wr .i64 (n3+1) n14∧
 Q (iV n14) w4)∧
 (q11=false→
 ∃ n15,Wr .i64 (n3+1) n15∧
 I1 n15 w4∧
 m2 n15 w4 < m2 n3 w4))∧
 ((decide (n3 < (x_0.n:Int)))=false→
 Q (iV (-1)) w4)
theorem of126 (x_0:Sl) (n_1:Int) (v:World) (Q:QT) (h:vc126 x_0 n_1 v Q):Tr 126 #[x_0.val,iV n_1] v Q:=
 trip_of_eq (args:=[.sl x_0,.num .i64 n_1]) (A:=⟨[(2,[(5,.int .i64)],[])],[],[],[],psG⟩) Tryz.func126 (by kernel_rfl) (by kernel_rfl) (by kernel_rfl) h
def vc127 (x0_0:Sl) (n0_1:Int) (v:World) (Q:QT):Prop:=
 ∃ I1:zI1,∃ m2:zN1,I1 0 v∧
 ∀ n3 w4,I1 n3 w4→
 ((decide (n3 < (x0_0.n:Int)))=true→
 IxOk x0_0 n3)∧
 ∃ n5:Int,∃ n6:Int,∃ n7:Int,∃ x8:Sl,∃ x9:Sl,((decide (n3 < (x0_0.n:Int)))=true→
 w4.cell? ((elA x0_0 n3 5).add 0)=some (iV n5)∧
 w4.cell? ((elA x0_0 n3 5).add 1)=some (iV n6)∧
 w4.cell? ((elA x0_0 n3 5).add 2)=some (iV n7)∧
 w4.cell? ((elA x0_0 n3 5).add 3)=some (x8.val)∧
 w4.cell? ((elA x0_0 n3 5).add 4)=some (x9.val))∧
 ∃ q10:Bool,((decide (n3 < (x0_0.n:Int)))=true→
 (pF 92 #[.agg #[iV n5,iV n6,iV n7,x8.val,x9.val]] w4 (.bool q10)))∧
 (((decide (n3 < (x0_0.n:Int))) && q10)=true→
 ∃ n13,Wr .i64 (n3+1) n13∧
 zq1 x0_0 n0_1 fun _=>
 I1 n13 w4∧
 m2 n13 w4 < m2 n3 w4)∧
 (((decide (n3 < (x0_0.n:Int))) && q10)=false→
 Q (iV n3) w4)
theorem of127 (x0_0:Sl) (n0_1:Int) (v:World) (Q:QT) (h:vc127 x0_0 n0_1 v Q):Tr 127 #[.agg #[x0_0.val,iV n0_1]] v Q:=
 trip_of_eq (args:=[.ag [.sl x0_0,.num .i64 n0_1]]) (A:=⟨[(2,[(3,.int .i64)],[])],[],[],[],psG⟩) Tryz.func127 (by kernel_rfl) (by kernel_rfl) (by kernel_rfl) h
def vc128 (x0_0:Sl) (n0_1 n_1 n_2:Int) (v:World) (Q:QT):Prop:=
 bS 28 0 #[] v fun x3 w2=>
 ∃ I4:zI4,∃ m5:zN4,I4 x3 0 w2∧
 ∀ x6 n7 w8,I4 x6 n7 w8→
 ((decide (n7 < n_1))=true→
 IxOk x0_0 n7∧
 zl16 w8 x0_0 n7 fun n9=>
 ((decide (n9=n_2))=true→
 IxOk x0_0 n7∧
 zl15 w8 x0_0 n7 fun x10=>
 IxOk x10 0∧
 zl6 w8 x10 0 fun n11=>
 bS 28 1 #[(0,(iV n11))] w8 fun x14 w13=>
 aS 28 x6 x14 w13 fun x17 w16=>
 ∃ n18,Wr .i64 (n7+1) n18∧
 zq1 x0_0 n0_1 fun _=>
 I4 x17 n18 w16∧
 m5 x17 n18 w16 < m5 x6 n7 w8)∧
 ((decide (n9=n_2))=false→
 ∃ n19,Wr .i64 (n7+1) n19∧
 zq1 x0_0 n0_1 fun _=>
 I4 x6 n19 w8∧
 m5 x6 n19 w8 < m5 x6 n7 w8))∧
 ((decide (n7 < n_1))=false→
 Q (x6.val) w8)
theorem of128 (x0_0:Sl) (n0_1 n_1 n_2:Int) (v:World) (Q:QT) (h:vc128 x0_0 n0_1 n_1 n_2 v Q):Tr 128 #[.agg #[x0_0.val,iV n0_1],iV n_1,iV n_2] v Q:=
 trip_of_eq (args:=[.ag [.sl x0_0,.num .i64 n0_1],.num .i64 n_1,.num .i64 n_2]) (A:=⟨[(3,[(7,.sl),(8,.int .i64)],[])],[],[],[],psG⟩) Tryz.func128 (by kernel_rfl) (by kernel_rfl) (by kernel_rfl) h
def vc129 (x_0:Sl) (n_1:Int) (v:World) (Q:QT):Prop:=
 bS 28 0 #[] v fun x3 w2=>
 ∃ I4:zI8,∃ m5:zN8,I4 x3 false 0 w2∧
 ∀ x6 q7 n8 w9,I4 x6 q7 n8 w9→
 ((decide (n8 < (x_0.n:Int)))=true→
 IxOk x_0 n8∧
 zl6 w9 x_0 n8 fun n10=>
 (((decide (n10=n_1)) && (!q7))=true→
 ∃ n11,Wr .i64 (n8+1) n11∧
 I4 x6 true n11 w9∧
 m5 x6 true n11 w9 < m5 x6 q7 n8 w9)∧
 (((decide (n10=n_1)) && (!q7))=false→
 IxOk x_0 n8∧
 zl6 w9 x_0 n8 fun n12=>
 bS 28 1 #[(0,(iV n12))] w9 fun x15 w14=>
 aS 28 x6 x15 w14 fun x18 w17=>
 ∃ n19,Wr .i64 (n8+1) n19∧
 I4 x18 q7 n19 w17∧
 m5 x18 q7 n19 w17 < m5 x6 q7 n8 w9))∧
 ((decide (n8 < (x_0.n:Int)))=false→
 Q (x6.val) w9)
theorem of129 (x_0:Sl) (n_1:Int) (v:World) (Q:QT) (h:vc129 x_0 n_1 v Q):Tr 129 #[x_0.val,iV n_1] v Q:=
 trip_of_eq (args:=[.sl x_0,.num .i64 n_1]) (A:=⟨[(4,[(5,.sl),(6,.bool),(7,.int .i64)],[])],[],[],[],psG⟩) Tryz.func129 (by kernel_rfl) (by kernel_rfl) (by kernel_rfl) h
def vc130 (x0_0:Sl) (n0_1 n_1 n_2:Int) (v:World) (Q:QT):Prop:=
 ∃ n1,(pF 131 #[.agg #[x0_0.val,iV n0_1]] v (iV n1))∧
 ∃ n4,(pF 132 #[.agg #[x0_0.val,iV n0_1],iV n1,iV 16,iV n_1] v (iV n4))∧
 ∃ n7,(pF 131 #[.agg #[x0_0.val,iV n0_1]] v (iV n7))∧
 ∃ n10,(pF 163 #[.agg #[x0_0.val,iV n0_1],iV n7,iV n_2] v (iV n10))∧
 (((decide (n4 < 0)) || (decide (n10 < 0)))=true→
 Q (.agg #[x0_0.val,iV n0_1]) v)∧
 (((decide (n4 < 0)) || (decide (n10 < 0)))=false→
 zt3 53 #[.agg #[x0_0.val,iV n0_1]] v fun x15 n16 w14=>
 zt10 55 #[iV 17,iV n_1] w14 fun n19 n20 n21 x22 x23 w18=>
 Sub w14 w18∧
 IxOk x15 n4∧
 StoreAt w18 (elA x15 n4 5) 0 [iV n19,iV n20,iV n21,x22.val,x23.val] fun w24=>
 IxOk x15 n10∧
 zl0 w24 x15 n10 fun n25 n26 n27 x28 x29=>
 ∃ n30,Wr .i64 (1+n_1) n30∧
 IxOk x15 n10∧
 StoreAt w24 (elA x15 n10 5) 0 [iV n25,iV n26,iV n30,x28.val,x29.val] fun w31=>
 Q (.agg #[x15.val,iV n16]) w31)
theorem of130 (x0_0:Sl) (n0_1 n_1 n_2:Int) (v:World) (Q:QT) (h:vc130 x0_0 n0_1 n_1 n_2 v Q):Tr 130 #[.agg #[x0_0.val,iV n0_1],iV n_1,iV n_2] v Q:=
 trip_of_eq (args:=[.ag [.sl x0_0,.num .i64 n0_1],.num .i64 n_1,.num .i64 n_2]) (A:=⟨[],[],[(6,[4])],[],psG⟩) Tryz.func130 (by kernel_rfl) (by kernel_rfl) (by kernel_rfl) h
def vc131 (x0_0:Sl) (n0_1:Int) (v:World) (Q:QT):Prop:=
 ∃ I1:zI1,∃ m2:zN1,I1 0 v∧
 ∀ n3 w4,I1 n3 w4→
 ((decide (n3 < (x0_0.n:Int)))=true→
 IxOk x0_0 n3)∧
 ∃ n5:Int,((decide (n3 < (x0_0.n:Int)))=true→
 w4.cell? ((elA x0_0 n3 5).add 0)=some (iV n5))∧
 ∃ q6:Bool,((decide (n3 < (x0_0.n:Int)))=true→
 (pF 31 #[iV n5] w4 (.bool q6)))∧
 (((decide (n3 < (x0_0.n:Int))) && q6)=true→
 ∃ n9,Wr .i64 (n3+1) n9∧
 zq1 x0_0 n0_1 fun _=>
 I1 n9 w4∧
 m2 n9 w4 < m2 n3 w4)∧
 (((decide (n3 < (x0_0.n:Int))) && q6)=false→
 Q (iV n3) w4)
theorem of131 (x0_0:Sl) (n0_1:Int) (v:World) (Q:QT) (h:vc131 x0_0 n0_1 v Q):Tr 131 #[.agg #[x0_0.val,iV n0_1]] v Q:=
 trip_of_eq (args:=[.ag [.sl x0_0,.num .i64 n0_1]]) (A:=⟨[(2,[(3,.int .i64)],[])],[],[],[],psG⟩) Tryz.func131 (by kernel_rfl) (by kernel_rfl) (by kernel_rfl) h
def vc132 (x0_0:Sl) (n0_1 n_1 n_2 n_3:Int) (v:World) (Q:QT):Prop:=
 ∃ I1:zI1,∃ m2:zN1,I1 0 v∧
 ∀ n3 w4,I1 n3 w4→
 ((decide (n3 < n_1))=true→
 IxOk x0_0 n3∧
 zl16 w4 x0_0 n3 fun n5=>
 ((decide (n5=n_2))=true→
 IxOk x0_0 n3)∧
 ∃ x6:Sl,((decide (n5=n_2))=true→
 w4.cell? ((elA x0_0 n3 5).add 3)=some (x6.val))∧
 ((decide (n5=n_2))=true→
 IxOk x6 0)∧
 ∃ n7:Int,((decide (n5=n_2))=true→
 w4.cell? ((elA x6 0 1).add 0)=some (iV n7))∧
 (((decide (n5=n_2)) && (decide (n7=n_3)))=true→
 Q (iV n3) w4)∧
 (((decide (n5=n_2)) && (decide (n7=n_3)))=false→
 ∃ n8,Wr .i64 (n3+1) n8∧
 zq1 x0_0 n0_1 fun _=>
 I1 n8 w4∧
 m2 n8 w4 < m2 n3 w4))∧
 ((decide (n3 < n_1))=false→
 Q (iV (-1)) w4)
theorem of132 (x0_0:Sl) (n0_1 n_1 n_2 n_3:Int) (v:World) (Q:QT) (h:vc132 x0_0 n0_1 n_1 n_2 n_3 v Q):Tr 132 #[.agg #[x0_0.val,iV n0_1],iV n_1,iV n_2,iV n_3] v Q:=
 trip_of_eq (args:=[.ag [.sl x0_0,.num .i64 n0_1],.num .i64 n_1,.num .i64 n_2,.num .i64 n_3]) (A:=⟨[(2,[(9,.int .i64)],[])],[],[],[],psG⟩) Tryz.func132 (by kernel_rfl) (by kernel_rfl) (by kernel_rfl) h
def vc133 (x_0:Sl) (n_1:Int) (v:World) (Q:QT):Prop:=
 bS 28 0 #[] v fun x3 w2=>
 ∃ I4:zI8,∃ m5:zN8,I4 x3 false 0 w2∧
 ∀ x6 q7 n8 w9,I4 x6 q7 n8 w9→
 ((decide (n8 < (x_0.n:Int)))=true→
 ((!q7)=true→
 IxOk x_0 n8)∧
 ∃ n10:Int,((!q7)=true→
 w9.cell? ((elA x_0 n8 1).add 0)=some (iV n10))∧
 (((!q7) && (decide (n10≥n_1)))=true→
 IxOk x_0 n8∧
 zl6 w9 x_0 n8 fun n11=>
 ((decide (n11 > n_1))=true→
 bS 28 1 #[(0,(iV n_1))] w9 fun x14 w13=>
 aS 28 x6 x14 w13 fun x17 w16=>
 IxOk x_0 n8∧
 zl6 w16 x_0 n8 fun n18=>
 bS 28 1 #[(0,(iV n18))] w16 fun x21 w20=>
 aS 28 x17 x21 w20 fun x24 w23=>
 ∃ n25,Wr .i64 (n8+1) n25∧
 I4 x24 true n25 w23∧
 m5 x24 true n25 w23 < m5 x6 q7 n8 w9)∧
 ((decide (n11 > n_1))=false→
 IxOk x_0 n8∧
 zl6 w9 x_0 n8 fun n26=>
 bS 28 1 #[(0,(iV n26))] w9 fun x29 w28=>
 aS 28 x6 x29 w28 fun x32 w31=>
 ∃ n33,Wr .i64 (n8+1) n33∧
 I4 x32 true n33 w31∧
 m5 x32 true n33 w31 < m5 x6 q7 n8 w9))∧
 (((!q7) && (decide (n10≥n_1)))=false→
 IxOk x_0 n8∧
 zl6 w9 x_0 n8 fun n34=>
 bS 28 1 #[(0,(iV n34))] w9 fun x37 w36=>
 aS 28 x6 x37 w36 fun x40 w39=>
 ∃ n41,Wr .i64 (n8+1) n41∧
 I4 x40 q7 n41 w39∧
 m5 x40 q7 n41 w39 < m5 x6 q7 n8 w9))∧
 ((decide (n8 < (x_0.n:Int)))=false→
 ((!q7)=true→
 bS 28 1 #[(0,(iV n_1))] w9 fun x44 w43=>
 aS 28 x6 x44 w43 fun x47 w46=>
 Q (x47.val) w46)∧
 ((!q7)=false→
 Q (x6.val) w9))
theorem of133 (x_0:Sl) (n_1:Int) (v:World) (Q:QT) (h:vc133 x_0 n_1 v Q):Tr 133 #[x_0.val,iV n_1] v Q:=
 trip_of_eq (args:=[.sl x_0,.num .i64 n_1]) (A:=⟨[(4,[(5,.sl),(6,.bool),(7,.int .i64)],[])],[],[],[],psG⟩) Tryz.func133 (by kernel_rfl) (by kernel_rfl) (by kernel_rfl) h
def vc134 (a_0:Addr) (x1_0 x1_1 x_2:Sl) (v:World) (Q:QT):Prop:=
 bS 28 7 #[(0,(iV 1)),(1,(iV 1)),(2,(iV 3)),(3,(iV 0)),(4,(iV 2)),(5,(iV 4)),(6,(iV 3))] v fun x3 w2=>
 zt4 20 #[pt a_0,x3.val] w2 fun n6 w5=>
 ∃ q7:Bool,((decide (n6 > (x1_0.n:Int)))=false→
 (pF 141 #[.agg #[x1_0.val,x1_1.val],x_2.val,iV n6] w5 (.bool q7)))∧
 (((decide (n6 > (x1_0.n:Int))) || (!q7))=true→
 Q (iV 1) w5)∧
 (((decide (n6 > (x1_0.n:Int))) || (!q7))=false→
 Q (iV n6) w5)
theorem of134 (a_0:Addr) (x1_0 x1_1 x_2:Sl) (v:World) (Q:QT) (h:vc134 a_0 x1_0 x1_1 x_2 v Q):Tr 134 #[pt a_0,.agg #[x1_0.val,x1_1.val],x_2.val] v Q:=
 trip_of_eq (args:=[.pt a_0 0,.ag [.sl x1_0,.sl x1_1],.sl x_2]) (A:=aG) Tryz.func134 (by kernel_rfl) (by kernel_rfl) (by kernel_rfl) h
def vc135 (a_0:Addr) (x1_0 x1_1 x_2 x_3:Sl) (n_4:Int) (v:World) (Q:QT):Prop:=
 bS 84 0 #[] v fun x3 w2=>
 ∃ I4:zI4,∃ m5:zN4,I4 x3 0 w2∧
 ∀ x6 n7 w8,I4 x6 n7 w8→
 ((decide (n7 < (x_3.n:Int)))=true→
 IxOk x_3 n7∧
 zl6 w8 x_3 n7 fun n9=>
 ∃ n10:Int,(((x_3.n:Int):Int)≠0∧Wr .i64 (Int.tdiv n_4 (x_3.n:Int)) n10)∧
 zt12 101 #[pt a_0,.agg #[x1_0.val,x1_1.val],x_2.val,iV n9,iV n10] w8 fun n13 n14 x15 w12=>
 bS 84 1 #[(0,(.agg #[iV n13,iV n14,x15.val]))] w12 fun x18 w17=>
 aS 84 x6 x18 w17 fun x21 w20=>
 ∃ n22,Wr .i64 (n7+1) n22∧
 zq10 x1_0 x1_1 fun _=>
 I4 x21 n22 w20∧
 m5 x21 n22 w20 < m5 x6 n7 w8)∧
 ((decide (n7 < (x_3.n:Int)))=false→
 Q (x6.val) w8)
theorem of135 (a_0:Addr) (x1_0 x1_1 x_2 x_3:Sl) (n_4:Int) (v:World) (Q:QT) (h:vc135 a_0 x1_0 x1_1 x_2 x_3 n_4 v Q):Tr 135 #[pt a_0,.agg #[x1_0.val,x1_1.val],x_2.val,x_3.val,iV n_4] v Q:=
 trip_of_eq (args:=[.pt a_0 0,.ag [.sl x1_0,.sl x1_1],.sl x_2,.sl x_3,.num .i64 n_4]) (A:=⟨[(3,[(11,.sl),(12,.int .i64)],[])],[],[(5,[])],[],psG⟩) Tryz.func135 (by kernel_rfl) (by kernel_rfl) (by kernel_rfl) h
def vc136 (a_0:Addr) (x1_0 x1_1 x_2:Sl) (n_3 n_4:Int) (v:World) (Q:QT):Prop:=
 bS 28 4 #[(0,(iV 1)),(1,(iV 1)),(2,(iV 3)),(3,(iV 4))] v fun x3 w2=>
 zt4 20 #[pt a_0,x3.val] w2 fun n6 w5=>
 ∃ q7:Bool,((decide (n6 > (x1_0.n:Int)))=false→
 (pF 155 #[x1_0.val,iV n6] w5 (.bool q7)))∧
 (((decide (n6 > (x1_0.n:Int))) || q7)=true→
 zt7 94 #[x1_0.val,iV 1] w5 fun x12 w11=>
 zt12 105 #[pt a_0,.agg #[x1_0.val,x1_1.val],x_2.val,iV 1] w11 fun n15 n16 x17 w14=>
 bS 84 1 #[(0,(.agg #[iV n15,iV n16,x17.val]))] w14 fun x20 w19=>
 ∃ I21:zI4,∃ m22:zN4,I21 x20 0 w19∧
 ∀ x23 n24 w25,I21 x23 n24 w25→
 ((decide (n24 < (x12.n:Int)))=true→
 IxOk x12 n24∧
 zl6 w25 x12 n24 fun n26=>
 ∃ n27,Wr .i64 (n_4 - 2) n27∧
 ∃ n28:Int,(((x12.n:Int):Int)≠0∧Wr .i64 (Int.tdiv n27 (x12.n:Int)) n28)∧
 zt7 95 #[x1_0.val,iV n26] w25 fun x31 w30=>
 Sub w25 w30∧
 zt7 99 #[x_2.val,x31.val] w30 fun x34 w33=>
 Sub w30 w33∧
 zt12 101 #[pt a_0,.agg #[x1_0.val,x1_1.val],x34.val,iV n_3,iV n28] w33 fun n37 n38 x39 w36=>
 bS 84 1 #[(0,(.agg #[iV n37,iV n38,x39.val]))] w36 fun x42 w41=>
 aS 84 x23 x42 w41 fun x45 w44=>
 ∃ n46,Wr .i64 (n24+1) n46∧
 zq9 x1_0 x1_1 0 0 (Sl.mk none 0 0) fun _=>
 I21 x45 n46 w44∧
 m22 x45 n46 w44 < m22 x23 n24 w25)∧
 ((decide (n24 < (x12.n:Int)))=false→
 zt12 102 #[iV 8,iV 1,x23.val] w25 fun n49 n50 x51 w48=>
 Q (.agg #[iV n49,iV n50,x51.val]) w48))∧
 (((decide (n6 > (x1_0.n:Int))) || q7)=false→
 zt7 94 #[x1_0.val,iV n6] w5 fun x54 w53=>
 zt12 105 #[pt a_0,.agg #[x1_0.val,x1_1.val],x_2.val,iV n6] w53 fun n57 n58 x59 w56=>
 bS 84 1 #[(0,(.agg #[iV n57,iV n58,x59.val]))] w56 fun x62 w61=>
 ∃ I63:zI4,∃ m64:zN4,I63 x62 0 w61∧
 ∀ x65 n66 w67,I63 x65 n66 w67→
 ((decide (n66 < (x54.n:Int)))=true→
 IxOk x54 n66∧
 zl6 w67 x54 n66 fun n68=>
 ∃ n69,Wr .i64 (n_4 - 2) n69∧
 ∃ n70:Int,(((x54.n:Int):Int)≠0∧Wr .i64 (Int.tdiv n69 (x54.n:Int)) n70)∧
 zt7 95 #[x1_0.val,iV n68] w67 fun x73 w72=>
 Sub w67 w72∧
 zt7 99 #[x_2.val,x73.val] w72 fun x76 w75=>
 Sub w72 w75∧
 zt12 101 #[pt a_0,.agg #[x1_0.val,x1_1.val],x76.val,iV n_3,iV n70] w75 fun n79 n80 x81 w78=>
 bS 84 1 #[(0,(.agg #[iV n79,iV n80,x81.val]))] w78 fun x84 w83=>
 aS 84 x65 x84 w83 fun x87 w86=>
 ∃ n88,Wr .i64 (n66+1) n88∧
 zq9 x1_0 x1_1 0 0 (Sl.mk none 0 0) fun _=>
 I63 x87 n88 w86∧
 m64 x87 n88 w86 < m64 x65 n66 w67)∧
 ((decide (n66 < (x54.n:Int)))=false→
 zt12 102 #[iV 8,iV n6,x65.val] w67 fun n91 n92 x93 w90=>
 Q (.agg #[iV n91,iV n92,x93.val]) w90))
theorem of136 (a_0:Addr) (x1_0 x1_1 x_2:Sl) (n_3 n_4:Int) (v:World) (Q:QT) (h:vc136 a_0 x1_0 x1_1 x_2 n_3 n_4 v Q):Tr 136 #[pt a_0,.agg #[x1_0.val,x1_1.val],x_2.val,iV n_3,iV n_4] v Q:=
 trip_of_eq (args:=[.pt a_0 0,.ag [.sl x1_0,.sl x1_1],.sl x_2,.num .i64 n_3,.num .i64 n_4]) (A:=⟨[(7,[(13,.sl),(14,.int .i64)],[])],[],[(9,[10,11])],[],psG⟩) Tryz.func136 (by kernel_rfl) (by kernel_rfl) (by kernel_rfl) h
def vc137 (x0_0 x0_1:Sl) (n_1:Int) (v:World) (Q:QT):Prop:=
 bS 28 0 #[] v fun x3 w2=>
 ∃ I4:zI4,∃ m5:zN4,I4 x3 1 w2∧
 ∀ x6 n7 w8,I4 x6 n7 w8→
 ((decide (n7 < (x0_1.n:Int)))=true→
 IxOk x0_1 n7∧
 zl10 w8 x0_1 n7 fun n9=>
 ∃ I10:zI9,∃ m11:zN9,I10 (decide (n9=n_1)) 0 w8∧
 ∀ q12 n13 w14,I10 q12 n13 w14→
 IxOk x0_1 n7∧
 zl9 w14 x0_1 n7 fun x15=>
 ((decide (n13 < (x15.n:Int)))=true→
 (q12=true→
 IxOk x0_1 n7)∧
 ∃ x16:Sl,(q12=true→
 w14.cell? ((elA x0_1 n7 5).add 0)=some (x16.val))∧
 (q12=true→
 IxOk x16 n13)∧
 ∃ n17:Int,(q12=true→
 w14.cell? ((elA x16 n13 1).add 0)=some (iV n17))∧
 (q12=true→
 bS 28 0 #[] w14 fun x20 w19=>
 Sub w14 w19∧
 ∃ q21,(pF 141 #[.agg #[x0_0.val,x0_1.val],x20.val,iV n17] w19 (.bool q21))∧
 ∃ n24,Wr .i64 (n13+1) n24∧
 zq10 x0_0 x0_1 fun _=>
 I10 q21 n24 w19∧
 m11 q21 n24 w19 < m11 q12 n13 w14)∧
 (q12=false→
 Sub w14 w14∧
 ∃ n25,Wr .i64 (n13+1) n25∧
 zq10 x0_0 x0_1 fun _=>
 I10 false n25 w14∧
 m11 false n25 w14 < m11 q12 n13 w14))∧
 ((decide (n13 < (x15.n:Int)))=false→
 (q12=true→
 bS 28 1 #[(0,(iV n7))] w14 fun x28 w27=>
 aS 28 x6 x28 w27 fun x31 w30=>
 ∃ n32,Wr .i64 (n7+1) n32∧
 zq10 x0_0 x0_1 fun _=>
 I4 x31 n32 w30∧
 m5 x31 n32 w30 < m5 x6 n7 w8)∧
 (q12=false→
 ∃ n33,Wr .i64 (n7+1) n33∧
 zq10 x0_0 x0_1 fun _=>
 I4 x6 n33 w14∧
 m5 x6 n33 w14 < m5 x6 n7 w8)))∧
 ((decide (n7 < (x0_1.n:Int)))=false→
 Q (x6.val) w8)
theorem of137 (x0_0 x0_1:Sl) (n_1:Int) (v:World) (Q:QT) (h:vc137 x0_0 x0_1 n_1 v Q):Tr 137 #[.agg #[x0_0.val,x0_1.val],iV n_1] v Q:=
 trip_of_eq (args:=[.ag [.sl x0_0,.sl x0_1],.num .i64 n_1]) (A:=⟨[(3,[(5,.sl),(6,.int .i64)],[]),(7,[(7,.bool),(8,.int .i64)],[])],[],[(9,[3])],[],psG⟩) Tryz.func137 (by kernel_rfl) (by kernel_rfl) (by kernel_rfl) h
def vc138 (a_0:Addr) (x1_0 x1_1 x_2:Sl) (n_3 n_4:Int) (v:World) (Q:QT):Prop:=
 ∃ J1:World→Prop,(zt4 27 #[pt a_0,iV 4] v fun n4 w3=>
 ((decide (n4=0))=true→
 ∃ I5:zI1,∃ m6:zN1,I5 1 w3∧
 ∀ n7 w8,I5 n7 w8→
 ((decide (n7≤(x1_0.n:Int)))=true→
 ∃ q9,(pF 155 #[x1_0.val,iV n7] w8 (.bool q9))∧
 ∃ n12:Int,(q9=true→
 Wr .i64 (n7 - 1) n12)∧
 (q9=true→
 IxOk x1_0 n12)∧
 ∃ n13:Int,(q9=true→
 w8.cell? ((elA x1_0 n12 3).add 1)=some (iV n13))∧
 ∃ q14:Bool,((q9 && (decide (n13=n_3)))=true→
 (pF 141 #[.agg #[x1_0.val,x1_1.val],x_2.val,iV n7] w8 (.bool q14)))∧
 (((q9 && (decide (n13=n_3))) && q14)=true→
 ∃ n17,Wr .i64 (n7 - 1) n17∧
 ∃ n18,Wr .i64 (n_4 - 2) n18∧
 (zt12 105 #[pt a_0,.agg #[x1_0.val,x1_1.val],x_2.val,iV n7] w8 fun n21 n22 x23 w20=>
 IxOk x1_0 n17∧
 zl13 w20 x1_0 n17 fun n24=>
 zt12 101 #[pt a_0,.agg #[x1_0.val,x1_1.val],x_2.val,iV n24,iV n18] w20 fun n27 n28 x29 w26=>
 bS 84 2 #[(0,(.agg #[iV n21,iV n22,x23.val])),(1,(.agg #[iV n27,iV n28,x29.val]))] w26 fun x32 w31=>
 zt12 102 #[iV 11,iV 0,x32.val] w31 fun n35 n36 x37 w34=>
 Q (.agg #[iV n35,iV n36,x37.val]) w34)∧
 IxOk x1_0 n17∧
 (zt12 105 #[pt a_0,.agg #[x1_0.val,x1_1.val],x_2.val,iV n7] w8 fun n40 n41 x42 w39=>
 zl13 w39 x1_0 n17 fun n43=>
 zt12 101 #[pt a_0,.agg #[x1_0.val,x1_1.val],x_2.val,iV n43,iV n18] w39 fun n46 n47 x48 w45=>
 bS 84 2 #[(0,(.agg #[iV n40,iV n41,x42.val])),(1,(.agg #[iV n46,iV n47,x48.val]))] w45 fun x51 w50=>
 zt12 102 #[iV 11,iV 0,x51.val] w50 fun n54 n55 x56 w53=>
 Q (.agg #[iV n54,iV n55,x56.val]) w53)∧
 zl13 w8 x1_0 n17 fun n57=>
 zt12 105 #[pt a_0,.agg #[x1_0.val,x1_1.val],x_2.val,iV n7] w8 fun n60 n61 x62 w59=>
 zt12 101 #[pt a_0,.agg #[x1_0.val,x1_1.val],x_2.val,iV n57,iV n18] w59 fun n65 n66 x67 w64=>
 bS 84 2 #[(0,(.agg #[iV n60,iV n61,x62.val])),(1,(.agg #[iV n65,iV n66,x67.val]))] w64 fun x70 w69=>
 zt12 102 #[iV 11,iV 0,x70.val] w69 fun n73 n74 x75 w72=>
 Q (.agg #[iV n73,iV n74,x75.val]) w72)∧
 (((q9 && (decide (n13=n_3))) && q14)=false→
 ∃ n76,Wr .i64 (n7+1) n76∧
 zq9 x1_0 x1_1 0 0 (Sl.mk none 0 0) fun _=>
 I5 n76 w8∧
 m6 n76 w8 < m6 n7 w8))∧
 ((decide (n7≤(x1_0.n:Int)))=false→
 zq9 x1_0 x1_1 0 0 (Sl.mk none 0 0) fun _=>
 J1 w8))∧
 ((decide (n4=0))=false→
 zq9 x1_0 x1_1 0 0 (Sl.mk none 0 0) fun _=>
 J1 w3))∧
 ∀ w77:World,J1 w77→
 zt7 94 #[x1_0.val,iV n_3] w77 fun x80 w79=>
 ((decide ((x80.n:Int) > 0))=true→
 zt4 27 #[pt a_0,iV (x80.n:Int)] w79 fun n83 w82=>
 IxOk x80 n83∧
 zl6 w82 x80 n83 fun n84=>
 ∃ n85,Wr .i64 (n_4 - 1) n85∧
 zt7 95 #[x1_0.val,iV n84] w82 fun x88 w87=>
 Sub w82 w87∧
 zt7 135 #[pt a_0,.agg #[x1_0.val,x1_1.val],x_2.val,x88.val,iV n85] w87 fun x91 w90=>
 zt12 102 #[iV 6,iV n84,x91.val] w90 fun n94 n95 x96 w93=>
 Q (.agg #[iV n94,iV n95,x96.val]) w93)∧
 ((decide ((x80.n:Int) > 0))=false→
 ((decide (n_3 > 0))=true→
 zt12 105 #[pt a_0,.agg #[x1_0.val,x1_1.val],x_2.val,iV n_3] w79 fun n99 n100 x101 w98=>
 Q (.agg #[iV n99,iV n100,x101.val]) w98)∧
 ((decide (n_3 > 0))=false→
 zt4 27 #[pt a_0,iV 3] w79 fun n104 w103=>
 ((decide (n104=0))=true→
 bS 28 1 #[(0,(iV 0))] w103 fun x107 w106=>
 ∃ n108,Wr .i64 (n_4 - 1) n108∧
 zt7 135 #[pt a_0,.agg #[x1_0.val,x1_1.val],x_2.val,x107.val,iV n108] w106 fun x111 w110=>
 zt12 102 #[iV 5,iV 0,x111.val] w110 fun n114 n115 x116 w113=>
 Q (.agg #[iV n114,iV n115,x116.val]) w113)∧
 ((decide (n104=0))=false→
 ∃ n117,Wr .i64 (n_4 - 1) n117∧
 (bS 28 4 #[(0,(iV 1)),(1,(iV 2)),(2,(iV 3)),(3,(iV 4))] w103 fun x120 w119=>
 (zt4 20 #[pt a_0,x120.val] w119 fun n123 w122=>
 bS 28 2 #[(0,(iV 0)),(1,(iV 0))] w122 fun x126 w125=>
 zt7 135 #[pt a_0,.agg #[x1_0.val,x1_1.val],x_2.val,x126.val,iV n117] w125 fun x129 w128=>
 zt12 102 #[iV n123,iV 0,x129.val] w128 fun n132 n133 x134 w131=>
 Q (.agg #[iV n132,iV n133,x134.val]) w131)∧
 bS 28 2 #[(0,(iV 0)),(1,(iV 0))] w119 fun x137 w136=>
 zt4 20 #[pt a_0,x120.val] w136 fun n140 w139=>
 zt7 135 #[pt a_0,.agg #[x1_0.val,x1_1.val],x_2.val,x137.val,iV n117] w139 fun x143 w142=>
 zt12 102 #[iV n140,iV 0,x143.val] w142 fun n146 n147 x148 w145=>
 Q (.agg #[iV n146,iV n147,x148.val]) w145)∧
 bS 28 2 #[(0,(iV 0)),(1,(iV 0))] w103 fun x151 w150=>
 bS 28 4 #[(0,(iV 1)),(1,(iV 2)),(2,(iV 3)),(3,(iV 4))] w150 fun x154 w153=>
 zt4 20 #[pt a_0,x154.val] w153 fun n157 w156=>
 zt7 135 #[pt a_0,.agg #[x1_0.val,x1_1.val],x_2.val,x151.val,iV n117] w156 fun x160 w159=>
 zt12 102 #[iV n157,iV 0,x160.val] w159 fun n163 n164 x165 w162=>
 Q (.agg #[iV n163,iV n164,x165.val]) w162)))
theorem of138 (a_0:Addr) (x1_0 x1_1 x_2:Sl) (n_3 n_4:Int) (v:World) (Q:QT) (h:vc138 a_0 x1_0 x1_1 x_2 n_3 n_4 v Q):Tr 138 #[pt a_0,.agg #[x1_0.val,x1_1.val],x_2.val,iV n_3,iV n_4] v Q:=
 trip_of_eq (args:=[.pt a_0 0,.ag [.sl x1_0,.sl x1_1],.sl x_2,.num .i64 n_3,.num .i64 n_4]) (A:=⟨[(3,[(11,.int .i64)],[])],[(7,[],[])],[(6,[]),(10,[7]),(15,[])],[],psG⟩) Tryz.func138 (by kernel_rfl) (by kernel_rfl) (by kernel_rfl) h
def vc139 (a_0:Addr) (v:World) (Q:QT):Prop:=
 zt4 27 #[pt a_0,iV 6] v fun n3 w2=>
 zt4 27 #[pt a_0,iV 6] w2 fun n6 w5=>
 zt4 27 #[pt a_0,iV 40] w5 fun n9 w8=>
 bS 28 10 #[(0,(iV n3)),(1,(iV n6)),(2,(iV 0)),(3,(iV 1)),(4,(iV 2)),(5,(iV (-1))),(6,(iV 3)),(7,(iV n9)),(8,(iV 999)),(9,(iV (-998)))] w8 fun x12 w11=>
 zt4 20 #[pt a_0,x12.val] w11 fun n15 w14=>
 Q (iV n15) w14
theorem of139 (a_0:Addr) (v:World) (Q:QT) (h:vc139 a_0 v Q):Tr 139 #[pt a_0] v Q:=
 trip_of_eq (args:=[.pt a_0 0]) (A:=aG) Tryz.func139 (by kernel_rfl) (by kernel_rfl) (by kernel_rfl) h
def vc140 (x_0:Sl) (n_1:Int) (v:World) (Q:QT):Prop:=
 bS 28 0 #[] v fun x3 w2=>
 ∃ I4:zI4,∃ m5:zN4,I4 x3 0 w2∧
 ∀ x6 n7 w8,I4 x6 n7 w8→
 ((decide (n7 < (x_0.n:Int)))=true→
 IxOk x_0 n7∧
 zl6 w8 x_0 n7 fun n9=>
 ((decide (n9=n_1))=true→
 bS 28 1 #[(0,(iV n7))] w8 fun x12 w11=>
 aS 28 x6 x12 w11 fun x15 w14=>
 ∃ n16,Wr .i64 (n7+1) n16∧
 I4 x15 n16 w14∧
 m5 x15 n16 w14 < m5 x6 n7 w8)∧
 ((decide (n9=n_1))=false→
 ∃ n17,Wr .i64 (n7+1) n17∧
 I4 x6 n17 w8∧
 m5 x6 n17 w8 < m5 x6 n7 w8))∧
 ((decide (n7 < (x_0.n:Int)))=false→
 Q (x6.val) w8)
theorem of140 (x_0:Sl) (n_1:Int) (v:World) (Q:QT) (h:vc140 x_0 n_1 v Q):Tr 140 #[x_0.val,iV n_1] v Q:=
 trip_of_eq (args:=[.sl x_0,.num .i64 n_1]) (A:=⟨[(3,[(5,.sl),(6,.int .i64)],[])],[],[],[],psG⟩) Tryz.func140 (by kernel_rfl) (by kernel_rfl) (by kernel_rfl) h
def vc141 (x0_0 x0_1 x_1:Sl) (n_2:Int) (v:World) (Q:QT):Prop:=
 ∃ q1,(pF 155 #[x0_0.val,iV n_2] v (.bool q1))∧
 ((!q1)=false→
 zt7 164 #[.agg #[x0_0.val,x0_1.val],iV n_2] v fun x6 w5=>
 ∃ q7:Bool,((decide ((x6.n:Int) > 0))=false→
 (pF 91 #[x_1.val,iV n_2] w5 (.bool q7)))∧
 Q (.bool ((decide ((x6.n:Int) > 0)) || q7)) w5)∧
 ((!q1)=true→
 Q (.bool true) v)
theorem of141 (x0_0 x0_1 x_1:Sl) (n_2:Int) (v:World) (Q:QT) (h:vc141 x0_0 x0_1 x_1 n_2 v Q):Tr 141 #[.agg #[x0_0.val,x0_1.val],x_1.val,iV n_2] v Q:=
 trip_of_eq (args:=[.ag [.sl x0_0,.sl x0_1],.sl x_1,.num .i64 n_2]) (A:=aG) Tryz.func141 (by kernel_rfl) (by kernel_rfl) (by kernel_rfl) h
def vc142 (a_0:Addr) (x1_0 x1_1:Sl) (n_2:Int) (v:World) (Q:QT):Prop:=
 zt7 94 #[x1_0.val,iV n_2] v fun x3 w2=>
 ((decide ((x3.n:Int) > 0))=true→
 IxOk x3 0∧
 zl6 w2 x3 0 fun n4=>
 ∃ J5:Int→World→Prop,(((decide ((x3.n:Int) > 1))=true→
 zt4 27 #[pt a_0,iV 4] w2 fun n8 w7=>
 ((decide (n8=0))=true→
 IxOk x3 1∧
 zl6 w7 x3 1 fun n9=>
 zq9 x1_0 x1_1 0 0 (Sl.mk none 0 0) fun _=>
 J5 n9 w7)∧
 ((decide (n8=0))=false→
 zq9 x1_0 x1_1 0 0 (Sl.mk none 0 0) fun _=>
 J5 n4 w7))∧
 ((decide ((x3.n:Int) > 1))=false→
 zq9 x1_0 x1_1 0 0 (Sl.mk none 0 0) fun _=>
 J5 n4 w2))∧
 ∀ n10:Int,∀ w11:World,J5 n10 w11→
 ∃ J12:Int→World→Prop,(zt7 95 #[x1_0.val,iV n10] w11 fun x15 w14=>
 ∃ q16,(pF 91 #[x15.val,iV n_2] w14 (.bool q16))∧
 (q16=true→
 IxOk x3 0∧
 zl6 w14 x3 0 fun n19=>
 zq9 x1_0 x1_1 0 0 (Sl.mk none 0 0) fun _=>
 J12 n19 w14)∧
 (q16=false→
 zq9 x1_0 x1_1 0 0 (Sl.mk none 0 0) fun _=>
 J12 n10 w14))∧
 ∀ n20:Int,∀ w21:World,J12 n20 w21→
 bS 84 0 #[] w21 fun x24 w23=>
 zt7 95 #[x1_0.val,iV n20] w23 fun x27 w26=>
 ∃ I28:zI4,∃ m29:zN4,I28 x24 0 w26∧
 ∀ x30 n31 w32,I28 x30 n31 w32→
 ((decide (n31 < (x27.n:Int)))=true→
 IxOk x27 n31∧
 zl6 w32 x27 n31 fun n33=>
 zt12 142 #[pt a_0,.agg #[x1_0.val,x1_1.val],iV n33] w32 fun n36 n37 x38 w35=>
 bS 84 1 #[(0,(.agg #[iV n36,iV n37,x38.val]))] w35 fun x41 w40=>
 aS 84 x30 x41 w40 fun x44 w43=>
 ∃ n45,Wr .i64 (n31+1) n45∧
 zq9 x1_0 x1_1 0 0 (Sl.mk none 0 0) fun _=>
 I28 x44 n45 w43∧
 m29 x44 n45 w43 < m29 x30 n31 w32)∧
 ((decide (n31 < (x27.n:Int)))=false→
 zt12 102 #[iV 6,iV n20,x30.val] w32 fun n48 n49 x50 w47=>
 Q (.agg #[iV n48,iV n49,x50.val]) w47))∧
 ((decide ((x3.n:Int) > 0))=false→
 zt7 164 #[.agg #[x1_0.val,x1_1.val],iV n_2] w2 fun x53 w52=>
 (((decide (n_2 > 0)) && (decide ((x53.n:Int) > 0)))=true→
 zt4 27 #[pt a_0,iV (x53.n:Int)] w52 fun n56 w55=>
 IxOk x53 n56∧
 zl6 w55 x53 n56 fun n57=>
 IxOk x1_1 n57∧
 zl9 w55 x1_1 n57 fun x58=>
 bS 84 0 #[] w55 fun x61 w60=>
 ∃ I62:zI4,∃ m63:zN4,I62 x61 0 w60∧
 ∀ x64 n65 w66,I62 x64 n65 w66→
 ∃ n67,Wr .i64 (n65+1) n67∧
 ((decide (n67 < (x58.n:Int)))=true→
 IxOk x58 n65∧
 zl6 w66 x58 n65 fun n68=>
 zt12 142 #[pt a_0,.agg #[x1_0.val,x1_1.val],iV n68] w66 fun n71 n72 x73 w70=>
 bS 84 1 #[(0,(.agg #[iV n71,iV n72,x73.val]))] w70 fun x76 w75=>
 aS 84 x64 x76 w75 fun x79 w78=>
 ∃ n80,Wr .i64 (n65+1) n80∧
 zq9 x1_0 x1_1 0 0 (Sl.mk none 0 0) fun _=>
 I62 x79 n80 w78∧
 m63 x79 n80 w78 < m63 x64 n65 w66)∧
 ((decide (n67 < (x58.n:Int)))=false→
 zt12 102 #[iV 10,iV n57,x64.val] w66 fun n83 n84 x85 w82=>
 Q (.agg #[iV n83,iV n84,x85.val]) w82))∧
 (((decide (n_2 > 0)) && (decide ((x53.n:Int) > 0)))=false→
 zt4 139 #[pt a_0] w52 fun n88 w87=>
 zt12 75 #[iV n88] w87 fun n91 n92 x93 w90=>
 Q (.agg #[iV n91,iV n92,x93.val]) w90))
theorem of142 (a_0:Addr) (x1_0 x1_1:Sl) (n_2:Int) (v:World) (Q:QT) (h:vc142 a_0 x1_0 x1_1 n_2 v Q):Tr 142 #[pt a_0,.agg #[x1_0.val,x1_1.val],iV n_2] v Q:=
 trip_of_eq (args:=[.pt a_0 0,.ag [.sl x1_0,.sl x1_1],.num .i64 n_2]) (A:=⟨[(11,[(9,.sl),(11,.int .i64)],[]),(21,[(15,.sl),(16,.int .i64)],[])],[(6,[(8,.int .i64)],[]),(8,[(8,.int .i64)],[])],[(13,[]),(23,[])],[],psG⟩) Tryz.func142 (by kernel_rfl) (by kernel_rfl) (by kernel_rfl) h
def vc143 (x0_0:Sl) (n0_1 n_1 n_2:Int) (x_3:Sl) (v:World) (Q:QT):Prop:=
 ∃ I1:zI4,∃ m2:zN4,I1 x_3 n_2 v∧
 ∀ x3 n4 w5,I1 x3 n4 w5→
 ((decide (n4 < (x0_0.n:Int)))=true→
 IxOk x0_0 n4∧
 zl0 w5 x0_0 n4 fun n6 n7 n8 x9 x10=>
 zt7 165 #[.agg #[iV n6,iV n7,iV n8,x9.val,x10.val],iV n_1,x3.val] w5 fun x13 w12=>
 ∃ n14,Wr .i64 (n4+1) n14∧
 zq1 x0_0 n0_1 fun _=>
 I1 x13 n14 w12∧
 m2 x13 n14 w12 < m2 x3 n4 w5)∧
 ((decide (n4 < (x0_0.n:Int)))=false→
 (((decide (n0_1≥0)) && (decide (n0_1 < n_1)))=true→
 zt7 133 #[x3.val,iV n0_1] w5 fun x17 w16=>
 Q (x17.val) w16)∧
 (((decide (n0_1≥0)) && (decide (n0_1 < n_1)))=false→
 Q (x3.val) w5))
theorem of143 (x0_0:Sl) (n0_1 n_1 n_2:Int) (x_3:Sl) (v:World) (Q:QT) (h:vc143 x0_0 n0_1 n_1 n_2 x_3 v Q):Tr 143 #[.agg #[x0_0.val,iV n0_1],iV n_1,iV n_2,x_3.val] v Q:=
 trip_of_eq (args:=[.ag [.sl x0_0,.num .i64 n0_1],.num .i64 n_1,.num .i64 n_2,.sl x_3]) (A:=⟨[(2,[(3,.sl),(9,.int .i64)],[])],[],[],[],psG⟩) Tryz.func143 (by kernel_rfl) (by kernel_rfl) (by kernel_rfl) h
def vc144 (x_0 x_1:Sl) (v:World) (Q:QT):Prop:=
 zt7 50 #[x_0.val] v fun x3 w2=>
 ∃ I4:zI4,∃ m5:zN4,I4 x3 0 w2∧
 ∀ x6 n7 w8,I4 x6 n7 w8→
 ((decide (n7 < (x_1.n:Int)))=true→
 IxOk x_1 n7∧
 zl6 w8 x_1 n7 fun n9=>
 zt7 133 #[x6.val,iV n9] w8 fun x12 w11=>
 ∃ n13,Wr .i64 (n7+1) n13∧
 I4 x12 n13 w11∧
 m5 x12 n13 w11 < m5 x6 n7 w8)∧
 ((decide (n7 < (x_1.n:Int)))=false→
 Q (x6.val) w8)
theorem of144 (x_0 x_1:Sl) (v:World) (Q:QT) (h:vc144 x_0 x_1 v Q):Tr 144 #[x_0.val,x_1.val] v Q:=
 trip_of_eq (args:=[.sl x_0,.sl x_1]) (A:=⟨[(3,[(5,.sl),(6,.int .i64)],[])],[],[],[],psG⟩) Tryz.func144 (by kernel_rfl) (by kernel_rfl) (by kernel_rfl) h
def vc145 (x0_0 x0_1 x_1:Sl) (n2_0 n2_1 n2_2:Int) (x2_3 x2_4 x_3 x_4:Sl) (v:World) (Q:QT):Prop:=
 bS 28 0 #[] v fun x3 w2=>
 ∃ I4:zI4,∃ m5:zN4,I4 x3 0 w2∧
 ∀ x6 n7 w8,I4 x6 n7 w8→
 ((decide (n7 < (x2_3.n:Int)))=true→
 ∃ q9,(pF 157 #[.agg #[x0_0.val,x0_1.val],x_1.val,.agg #[iV n2_0,iV n2_1,iV n2_2,x2_3.val,x2_4.val],iV n7] w8 (.bool q9))∧
 ∃ q12:Bool,(q9=true→
 (pF 166 #[.agg #[x0_0.val,x0_1.val],.agg #[iV n2_0,iV n2_1,iV n2_2,x2_3.val,x2_4.val],iV n7,x_3.val,x_4.val] w8 (.bool q12)))∧
 ((q9 && q12)=true→
 IxOk x2_3 n7∧
 zl6 w8 x2_3 n7 fun n15=>
 bS 28 1 #[(0,(iV n15))] w8 fun x18 w17=>
 aS 28 x6 x18 w17 fun x21 w20=>
 ∃ n22,Wr .i64 (n7+1) n22∧
 zq22 x0_0 x0_1 n2_0 n2_1 n2_2 x2_3 x2_4 fun _=>
 I4 x21 n22 w20∧
 m5 x21 n22 w20 < m5 x6 n7 w8)∧
 ((q9 && q12)=false→
 ∃ n23,Wr .i64 (n7+1) n23∧
 zq22 x0_0 x0_1 n2_0 n2_1 n2_2 x2_3 x2_4 fun _=>
 I4 x6 n23 w8∧
 m5 x6 n23 w8 < m5 x6 n7 w8))∧
 ((decide (n7 < (x2_3.n:Int)))=false→
 Q (x6.val) w8)
theorem of145 (x0_0 x0_1 x_1:Sl) (n2_0 n2_1 n2_2:Int) (x2_3 x2_4 x_3 x_4:Sl) (v:World) (Q:QT) (h:vc145 x0_0 x0_1 x_1 n2_0 n2_1 n2_2 x2_3 x2_4 x_3 x_4 v Q):Tr 145 #[.agg #[x0_0.val,x0_1.val],x_1.val,.agg #[iV n2_0,iV n2_1,iV n2_2,x2_3.val,x2_4.val],x_3.val,x_4.val] v Q:=
 trip_of_eq (args:=[.ag [.sl x0_0,.sl x0_1],.sl x_1,.ag [.num .i64 n2_0,.num .i64 n2_1,.num .i64 n2_2,.sl x2_3,.sl x2_4],.sl x_3,.sl x_4]) (A:=⟨[(3,[(11,.sl),(12,.int .i64)],[])],[],[],[],psG⟩) Tryz.func145 (by kernel_rfl) (by kernel_rfl) (by kernel_rfl) h
def vc146 (x0_0 x0_1 x_1:Sl) (n2_0 n2_1 n2_2:Int) (x2_3 x2_4 x_3 x_4:Sl) (v:World) (Q:QT):Prop:=
 bS 29 0 #[] v fun x3 w2=>
 zt7 94 #[x0_0.val,iV n2_1] w2 fun x6 w5=>
 ∃ I7:zI4,∃ m8:zN4,I7 x3 0 w5∧
 ∀ x9 n10 w11,I7 x9 n10 w11→
 ((decide (n10 < (x2_4.n:Int)))=true→
 bS 28 0 #[] w11 fun x14 w13=>
 ((decide (n2_0=8))=true→
 IxOk x6 n10∧
 zl6 w13 x6 n10 fun n15=>
 zt7 95 #[x0_0.val,iV n15] w13 fun x18 w17=>
 IxOk x2_4 n10∧
 zl1 w17 x2_4 n10 fun x19 n20=>
 zt3 167 #[.agg #[x0_0.val,x0_1.val],x_1.val,x18.val,.agg #[x19.val,iV n20],x_3.val,x_4.val] w17 fun x23 n24 w22=>
 bS 29 1 #[(0,(.agg #[x23.val,iV n24]))] w22 fun x27 w26=>
 aS 29 x9 x27 w26 fun x30 w29=>
 ∃ n31,Wr .i64 (n10+1) n31∧
 zq23 x0_0 x0_1 n2_0 n2_1 n2_2 x2_3 x2_4 0 0 0 (Sl.mk none 0 0) (Sl.mk none 0 0) fun _=>
 I7 x30 n31 w29∧
 m8 x30 n31 w29 < m8 x9 n10 w11)∧
 ((decide (n2_0=8))=false→
 IxOk x2_4 n10∧
 zl1 w13 x2_4 n10 fun x32 n33=>
 zt3 167 #[.agg #[x0_0.val,x0_1.val],x_1.val,x14.val,.agg #[x32.val,iV n33],x_3.val,x_4.val] w13 fun x36 n37 w35=>
 bS 29 1 #[(0,(.agg #[x36.val,iV n37]))] w35 fun x40 w39=>
 aS 29 x9 x40 w39 fun x43 w42=>
 ∃ n44,Wr .i64 (n10+1) n44∧
 zq23 x0_0 x0_1 n2_0 n2_1 n2_2 x2_3 x2_4 0 0 0 (Sl.mk none 0 0) (Sl.mk none 0 0) fun _=>
 I7 x43 n44 w42∧
 m8 x43 n44 w42 < m8 x9 n10 w11))∧
 ((decide (n10 < (x2_4.n:Int)))=false→
 zt7 50 #[x2_3.val] w11 fun x47 w46=>
 Sub w11 w46∧
 Q (.agg #[iV n2_0,iV n2_1,iV 0,x47.val,x9.val]) w46)
theorem of146 (x0_0 x0_1 x_1:Sl) (n2_0 n2_1 n2_2:Int) (x2_3 x2_4 x_3 x_4:Sl) (v:World) (Q:QT) (h:vc146 x0_0 x0_1 x_1 n2_0 n2_1 n2_2 x2_3 x2_4 x_3 x_4 v Q):Tr 146 #[.agg #[x0_0.val,x0_1.val],x_1.val,.agg #[iV n2_0,iV n2_1,iV n2_2,x2_3.val,x2_4.val],x_3.val,x_4.val] v Q:=
 trip_of_eq (args:=[.ag [.sl x0_0,.sl x0_1],.sl x_1,.ag [.num .i64 n2_0,.num .i64 n2_1,.num .i64 n2_2,.sl x2_3,.sl x2_4],.sl x_3,.sl x_4]) (A:=⟨[(4,[(11,.sl),(13,.int .i64)],[])],[],[(8,[]),(9,[]),(10,[6])],[],psG⟩) Tryz.func146 (by kernel_rfl) (by kernel_rfl) (by kernel_rfl) h
def vc147 (x0_0 x0_1 x_1:Sl) (n2_0 n2_1 n2_2:Int) (x2_3 x2_4 x_3 x_4:Sl) (v:World) (Q:QT):Prop:=
 (((decide (n2_0=7)) || (decide (n2_0=8)))=true→
 zt7 168 #[x_3.val,x_4.val] v fun x3 w2=>
 Q (x3.val) w2)∧
 (((decide (n2_0=7)) || (decide (n2_0=8)))=false→
 zt7 50 #[x_3.val] v fun x6 w5=>
 ∃ I7:zI4,∃ m8:zN4,I7 x6 0 w5∧
 ∀ x9 n10 w11,I7 x9 n10 w11→
 ((decide (n10 < (x2_3.n:Int)))=true→
 ∃ q12,(pF 157 #[.agg #[x0_0.val,x0_1.val],x_1.val,.agg #[iV n2_0,iV n2_1,iV n2_2,x2_3.val,x2_4.val],iV n10] w11 (.bool q12))∧
 ∃ q15:Bool,(q12=true→
 (pF 166 #[.agg #[x0_0.val,x0_1.val],.agg #[iV n2_0,iV n2_1,iV n2_2,x2_3.val,x2_4.val],iV n10,x_3.val,x_4.val] w11 (.bool q15)))∧
 ((q12 && (!q15))=true→
 IxOk x2_3 n10∧
 zl6 w11 x2_3 n10 fun n18=>
 zt7 149 #[x9.val,iV n18] w11 fun x21 w20=>
 ∃ n22,Wr .i64 (n10+1) n22∧
 zq22 x0_0 x0_1 n2_0 n2_1 n2_2 x2_3 x2_4 fun _=>
 I7 x21 n22 w20∧
 m8 x21 n22 w20 < m8 x9 n10 w11)∧
 ((q12 && (!q15))=false→
 ∃ n23,Wr .i64 (n10+1) n23∧
 zq22 x0_0 x0_1 n2_0 n2_1 n2_2 x2_3 x2_4 fun _=>
 I7 x9 n23 w11∧
 m8 x9 n23 w11 < m8 x9 n10 w11))∧
 ((decide (n10 < (x2_3.n:Int)))=false→
 Q (x9.val) w11))
theorem of147 (x0_0 x0_1 x_1:Sl) (n2_0 n2_1 n2_2:Int) (x2_3 x2_4 x_3 x_4:Sl) (v:World) (Q:QT) (h:vc147 x0_0 x0_1 x_1 n2_0 n2_1 n2_2 x2_3 x2_4 x_3 x_4 v Q):Tr 147 #[.agg #[x0_0.val,x0_1.val],x_1.val,.agg #[iV n2_0,iV n2_1,iV n2_2,x2_3.val,x2_4.val],x_3.val,x_4.val] v Q:=
 trip_of_eq (args:=[.ag [.sl x0_0,.sl x0_1],.sl x_1,.ag [.num .i64 n2_0,.num .i64 n2_1,.num .i64 n2_2,.sl x2_3,.sl x2_4],.sl x_3,.sl x_4]) (A:=⟨[(5,[(11,.sl),(12,.int .i64)],[])],[],[],[],psG⟩) Tryz.func147 (by kernel_rfl) (by kernel_rfl) (by kernel_rfl) h
def vc148 (x0_0 x0_1:Sl) (n1_0 n1_1 n1_2:Int) (x1_3 x1_4 x_2 x_3:Sl) (v:World) (Q:QT):Prop:=
 bS 28 0 #[] v fun x3 w2=>
 ∃ I4:zI4,∃ m5:zN4,I4 x3 0 w2∧
 ∀ x6 n7 w8,I4 x6 n7 w8→
 ((decide (n7 < (x1_3.n:Int)))=true→
 ∃ q9,(pF 109 #[.agg #[x0_0.val,x0_1.val],.agg #[iV n1_0,iV n1_1,iV n1_2,x1_3.val,x1_4.val],iV n7] w8 (.bool q9))∧
 (q9=true→
 IxOk x1_3 n7)∧
 ∃ n12:Int,(q9=true→
 w8.cell? ((elA x1_3 n7 1).add 0)=some (iV n12))∧
 ∃ q13:Bool,(q9=true→
 (pF 91 #[x_2.val,iV n12] w8 (.bool q13)))∧
 ((q9 && q13)=true→
 IxOk x1_3 n7)∧
 ∃ n16:Int,((q9 && q13)=true→
 w8.cell? ((elA x1_3 n7 1).add 0)=some (iV n16))∧
 ∃ q17:Bool,((q9 && q13)=true→
 (pF 91 #[x_3.val,iV n16] w8 (.bool q17)))∧
 (((q9 && q13) && (!q17))=true→
 IxOk x1_3 n7∧
 zl6 w8 x1_3 n7 fun n20=>
 zt7 133 #[x6.val,iV n20] w8 fun x23 w22=>
 ∃ n24,Wr .i64 (n7+1) n24∧
 zq22 x0_0 x0_1 n1_0 n1_1 n1_2 x1_3 x1_4 fun _=>
 I4 x23 n24 w22∧
 m5 x23 n24 w22 < m5 x6 n7 w8)∧
 (((q9 && q13) && (!q17))=false→
 ∃ n25,Wr .i64 (n7+1) n25∧
 zq22 x0_0 x0_1 n1_0 n1_1 n1_2 x1_3 x1_4 fun _=>
 I4 x6 n25 w8∧
 m5 x6 n25 w8 < m5 x6 n7 w8))∧
 ((decide (n7 < (x1_3.n:Int)))=false→
 Q (x6.val) w8)
theorem of148 (x0_0 x0_1:Sl) (n1_0 n1_1 n1_2:Int) (x1_3 x1_4 x_2 x_3:Sl) (v:World) (Q:QT) (h:vc148 x0_0 x0_1 n1_0 n1_1 n1_2 x1_3 x1_4 x_2 x_3 v Q):Tr 148 #[.agg #[x0_0.val,x0_1.val],.agg #[iV n1_0,iV n1_1,iV n1_2,x1_3.val,x1_4.val],x_2.val,x_3.val] v Q:=
 trip_of_eq (args:=[.ag [.sl x0_0,.sl x0_1],.ag [.num .i64 n1_0,.num .i64 n1_1,.num .i64 n1_2,.sl x1_3,.sl x1_4],.sl x_2,.sl x_3]) (A:=⟨[(3,[(9,.sl),(10,.int .i64)],[])],[],[],[],psG⟩) Tryz.func148 (by kernel_rfl) (by kernel_rfl) (by kernel_rfl) h
def vc149 (x_0:Sl) (n_1:Int) (v:World) (Q:QT):Prop:=
 bS 28 0 #[] v fun x3 w2=>
 ∃ I4:zI4,∃ m5:zN4,I4 x3 0 w2∧
 ∀ x6 n7 w8,I4 x6 n7 w8→
 ((decide (n7 < (x_0.n:Int)))=true→
 IxOk x_0 n7∧
 zl6 w8 x_0 n7 fun n9=>
 ((!decide (n9=n_1))=true→
 IxOk x_0 n7∧
 zl6 w8 x_0 n7 fun n10=>
 bS 28 1 #[(0,(iV n10))] w8 fun x13 w12=>
 aS 28 x6 x13 w12 fun x16 w15=>
 ∃ n17,Wr .i64 (n7+1) n17∧
 I4 x16 n17 w15∧
 m5 x16 n17 w15 < m5 x6 n7 w8)∧
 ((!decide (n9=n_1))=false→
 ∃ n18,Wr .i64 (n7+1) n18∧
 I4 x6 n18 w8∧
 m5 x6 n18 w8 < m5 x6 n7 w8))∧
 ((decide (n7 < (x_0.n:Int)))=false→
 Q (x6.val) w8)
theorem of149 (x_0:Sl) (n_1:Int) (v:World) (Q:QT) (h:vc149 x_0 n_1 v Q):Tr 149 #[x_0.val,iV n_1] v Q:=
 trip_of_eq (args:=[.sl x_0,.num .i64 n_1]) (A:=⟨[(3,[(5,.sl),(6,.int .i64)],[])],[],[],[],psG⟩) Tryz.func149 (by kernel_rfl) (by kernel_rfl) (by kernel_rfl) h
def vc150 (n_0:Int) (v:World) (Q:QT):Prop:=
 Q (.bool (((((decide (n_0=0)) || (decide (n_0=6))) || (decide (n_0=8))) || (decide (n_0=9))) || (decide (n_0=10)))) v
theorem of150 (n_0:Int) (v:World) (Q:QT) (h:vc150 n_0 v Q):Tr 150 #[iV n_0] v Q:=
 trip_of_eq (args:=[.num .i64 n_0]) (A:=aG) Tryz.func150 (by kernel_rfl) (by kernel_rfl) (by kernel_rfl) h
def vc151 (x_0:Sl) (n1_0 n1_1 n1_2:Int) (x1_3 x1_4:Sl) (v:World) (Q:QT):Prop:=
 ((decide (n1_2=0))=true→
 Q (.bool true) v)∧
 ((decide (n1_2=0))=false→
 ∃ q1:Bool,((decide (n1_0=6))=true→
 (pF 36 #[iV n1_2,iV 1,iV (x_0.n:Int)] v (.bool q1)))∧
 ∃ n4:Int,(((decide (n1_0=6)) && q1)=true→
 Wr .i64 (n1_2 - 1) n4)∧
 (((decide (n1_0=6)) && q1)=true→
 IxOk x_0 n4)∧
 ∃ n5:Int,(((decide (n1_0=6)) && q1)=true→
 v.cell? ((elA x_0 n4 1).add 0)=some (iV n5))∧
 Q (.bool (((decide (n1_0=6)) && q1) && (decide (n5 > 0)))) v)
theorem of151 (x_0:Sl) (n1_0 n1_1 n1_2:Int) (x1_3 x1_4:Sl) (v:World) (Q:QT) (h:vc151 x_0 n1_0 n1_1 n1_2 x1_3 x1_4 v Q):Tr 151 #[x_0.val,.agg #[iV n1_0,iV n1_1,iV n1_2,x1_3.val,x1_4.val]] v Q:=
 trip_of_eq (args:=[.sl x_0,.ag [.num .i64 n1_0,.num .i64 n1_1,.num .i64 n1_2,.sl x1_3,.sl x1_4]]) (A:=aG) Tryz.func151 (by kernel_rfl) (by kernel_rfl) (by kernel_rfl) h
def vc152 (x_0 x_1 x_2:Sl) (v:World) (Q:QT):Prop:=
 ((!decide ((x_1.n:Int)=(x_2.n:Int)))=true→
 Q (.bool false) v)∧
 ((!decide ((x_1.n:Int)=(x_2.n:Int)))=false→
 ∃ I1:zI1,∃ m2:zN1,I1 0 v∧
 ∀ n3 w4,I1 n3 w4→
 ((decide (n3 < (x_1.n:Int)))=true→
 IxOk x_1 n3∧
 zl6 w4 x_1 n3 fun n5=>
 ∃ n6,Wr .i64 ((x_0.n:Int) - 1) n6∧
 ∃ q7,(pF 36 #[iV n5,iV 0,iV n6] w4 (.bool q7))∧
 ((!q7)=false→
 IxOk x_1 n3)∧
 ∃ n10:Int,((!q7)=false→
 w4.cell? ((elA x_1 n3 1).add 0)=some (iV n10))∧
 ((!q7)=false→
 IxOk x_0 n10)∧
 ∃ n11:Int,((!q7)=false→
 w4.cell? ((elA x_0 n10 1).add 0)=some (iV n11))∧
 ((!q7)=false→
 IxOk x_2 n3)∧
 ∃ n12:Int,((!q7)=false→
 w4.cell? ((elA x_2 n3 1).add 0)=some (iV n12))∧
 (((!q7) || (!decide (n11=n12)))=true→
 Q (.bool false) w4)∧
 (((!q7) || (!decide (n11=n12)))=false→
 ∃ n13,Wr .i64 (n3+1) n13∧
 I1 n13 w4∧
 m2 n13 w4 < m2 n3 w4))∧
 ((decide (n3 < (x_1.n:Int)))=false→
 Q (.bool true) w4))
theorem of152 (x_0 x_1 x_2:Sl) (v:World) (Q:QT) (h:vc152 x_0 x_1 x_2 v Q):Tr 152 #[x_0.val,x_1.val,x_2.val] v Q:=
 trip_of_eq (args:=[.sl x_0,.sl x_1,.sl x_2]) (A:=⟨[(4,[(7,.int .i64)],[])],[],[],[],psG⟩) Tryz.func152 (by kernel_rfl) (by kernel_rfl) (by kernel_rfl) h
def vc153 (x0_0 x0_1 x_1:Sl) (n2_0 n2_1 n2_2:Int) (x2_3 x2_4:Sl) (v:World) (Q:QT):Prop:=
 zt7 94 #[x0_0.val,iV n2_1] v fun x3 w2=>
 ((decide (n2_0=7))=true→
 (((decide ((2:Int)=0)) || (!decide ((x2_4.n:Int)=2)))=true→
 Q (iV (-1)) w2)∧
 (((decide ((2:Int)=0)) || (!decide ((x2_4.n:Int)=2)))=false→
 ∃ I4:zI0,∃ m5:zN0,I4 0 0 w2∧
 ∀ n6 n7 w8,I4 n6 n7 w8→
 ((decide (n7 < 2))=true→
 ((decide (n2_0=8))=true→
 IxOk x3 n7∧
 zl6 w8 x3 n7 fun n9=>
 zt7 95 #[x0_0.val,iV n9] w8 fun x12 w11=>
 zt7 99 #[x_1.val,x12.val] w11 fun x15 w14=>
 IxOk x2_4 n7∧
 zl1 w14 x2_4 n7 fun x16 n17=>
 ∃ n18,(pF 117 #[.agg #[x0_0.val,x0_1.val],x15.val,.agg #[x16.val,iV n17]] w14 (iV n18))∧
 (((decide (n18 < 0)) || ((decide (n7 > 0)) && (!decide (n18=n6))))=true→
 Q (iV (-1)) w14)∧
 (((decide (n18 < 0)) || ((decide (n7 > 0)) && (!decide (n18=n6))))=false→
 ∃ n21,Wr .i64 (n7+1) n21∧
 zq22 x0_0 x0_1 n2_0 n2_1 n2_2 x2_3 x2_4 fun _=>
 I4 n18 n21 w14∧
 m5 n18 n21 w14 < m5 n6 n7 w8))∧
 ((decide (n2_0=8))=false→
 IxOk x2_4 n7∧
 zl1 w8 x2_4 n7 fun x22 n23=>
 ∃ n24,(pF 117 #[.agg #[x0_0.val,x0_1.val],x_1.val,.agg #[x22.val,iV n23]] w8 (iV n24))∧
 (((decide (n24 < 0)) || ((decide (n7 > 0)) && (!decide (n24=n6))))=true→
 Q (iV (-1)) w8)∧
 (((decide (n24 < 0)) || ((decide (n7 > 0)) && (!decide (n24=n6))))=false→
 ∃ n27,Wr .i64 (n7+1) n27∧
 zq22 x0_0 x0_1 n2_0 n2_1 n2_2 x2_3 x2_4 fun _=>
 I4 n24 n27 w8∧
 m5 n24 n27 w8 < m5 n6 n7 w8)))∧
 ((decide (n7 < 2))=false→
 Q (iV n6) w8)))∧
 ((decide (n2_0=7))=false→
 (((decide ((x3.n:Int)=0)) || (!decide ((x2_4.n:Int)=(x3.n:Int))))=true→
 Q (iV (-1)) w2)∧
 (((decide ((x3.n:Int)=0)) || (!decide ((x2_4.n:Int)=(x3.n:Int))))=false→
 ∃ I28:zI0,∃ m29:zN0,I28 0 0 w2∧
 ∀ n30 n31 w32,I28 n30 n31 w32→
 ((decide (n31 < (x3.n:Int)))=true→
 ((decide (n2_0=8))=true→
 IxOk x3 n31∧
 zl6 w32 x3 n31 fun n33=>
 zt7 95 #[x0_0.val,iV n33] w32 fun x36 w35=>
 zt7 99 #[x_1.val,x36.val] w35 fun x39 w38=>
 IxOk x2_4 n31∧
 zl1 w38 x2_4 n31 fun x40 n41=>
 ∃ n42,(pF 117 #[.agg #[x0_0.val,x0_1.val],x39.val,.agg #[x40.val,iV n41]] w38 (iV n42))∧
 (((decide (n42 < 0)) || ((decide (n31 > 0)) && (!decide (n42=n30))))=true→
 Q (iV (-1)) w38)∧
 (((decide (n42 < 0)) || ((decide (n31 > 0)) && (!decide (n42=n30))))=false→
 ∃ n45,Wr .i64 (n31+1) n45∧
 zq22 x0_0 x0_1 n2_0 n2_1 n2_2 x2_3 x2_4 fun _=>
 I28 n42 n45 w38∧
 m29 n42 n45 w38 < m29 n30 n31 w32))∧
 ((decide (n2_0=8))=false→
 IxOk x2_4 n31∧
 zl1 w32 x2_4 n31 fun x46 n47=>
 ∃ n48,(pF 117 #[.agg #[x0_0.val,x0_1.val],x_1.val,.agg #[x46.val,iV n47]] w32 (iV n48))∧
 (((decide (n48 < 0)) || ((decide (n31 > 0)) && (!decide (n48=n30))))=true→
 Q (iV (-1)) w32)∧
 (((decide (n48 < 0)) || ((decide (n31 > 0)) && (!decide (n48=n30))))=false→
 ∃ n51,Wr .i64 (n31+1) n51∧
 zq22 x0_0 x0_1 n2_0 n2_1 n2_2 x2_3 x2_4 fun _=>
 I28 n48 n51 w32∧
 m29 n48 n51 w32 < m29 n30 n31 w32)))∧
 ((decide (n31 < (x3.n:Int)))=false→
 Q (iV n30) w32)))
theorem of153 (x0_0 x0_1 x_1:Sl) (n2_0 n2_1 n2_2:Int) (x2_3 x2_4:Sl) (v:World) (Q:QT) (h:vc153 x0_0 x0_1 x_1 n2_0 n2_1 n2_2 x2_3 x2_4 v Q):Tr 153 #[.agg #[x0_0.val,x0_1.val],x_1.val,.agg #[iV n2_0,iV n2_1,iV n2_2,x2_3.val,x2_4.val]] v Q:=
 trip_of_eq (args:=[.ag [.sl x0_0,.sl x0_1],.sl x_1,.ag [.num .i64 n2_0,.num .i64 n2_1,.num .i64 n2_2,.sl x2_3,.sl x2_4]]) (A:=⟨[(9,[(9,.int .i64),(10,.int .i64)],[])],[],[(13,[])],[999999],psG⟩) Tryz.func153 (by kernel_rfl) (by kernel_rfl) (by kernel_rfl) h
def vc154 (x0_0 x0_1 x_1:Sl) (n2_0 n2_1 n2_2:Int) (x2_3 x2_4:Sl) (v:World) (Q:QT):Prop:=
 ∃ n1,Wr .i64 ((x0_1.n:Int) - 1) n1∧
 ∃ q2,(pF 36 #[iV n2_1,iV 0,iV n1] v (.bool q2))∧
 ((!q2)=true→
 Q (iV (-1)) v)∧
 ((!q2)=false→
 IxOk x0_1 n2_1∧
 zl3 v x0_1 n2_1 fun x5 x6 n7 x8 n9=>
 ((decide (n2_0=9))=true→
 ∃ q10,(pF 152 #[x_1.val,x2_3.val,x5.val] v (.bool q10))∧
 ((!q10)=true→
 Q (iV (-1)) v)∧
 ((!q10)=false→
 Q (iV n7) v))∧
 ((decide (n2_0=9))=false→
 ∃ n13:Int,(((decide ((x5.n:Int)=0)) || (decide ((x6.n:Int) > 0)))=false→
 Wr .i64 ((x5.n:Int) - 1) n13)∧
 (((decide ((x5.n:Int)=0)) || (decide ((x6.n:Int) > 0)))=false→
 CutOk x5 0 n13)∧
 ∃ q14:Bool,(((decide ((x5.n:Int)=0)) || (decide ((x6.n:Int) > 0)))=false→
 (pF 152 #[x_1.val,x2_3.val,(x5.cut 0 n13 1).val] v (.bool q14)))∧
 ((((decide ((x5.n:Int)=0)) || (decide ((x6.n:Int) > 0))) || (!q14))=true→
 Q (iV (-1)) v)∧
 ((((decide ((x5.n:Int)=0)) || (decide ((x6.n:Int) > 0))) || (!q14))=false→
 ∃ n17,Wr .i64 ((x5.n:Int) - 1) n17∧
 IxOk x5 n17∧
 zl6 v x5 n17 fun n18=>
 ∃ n19,(pF 169 #[x0_0.val,iV n18,iV n7] v (iV n19))∧
 Q (iV n19) v)))
theorem of154 (x0_0 x0_1 x_1:Sl) (n2_0 n2_1 n2_2:Int) (x2_3 x2_4:Sl) (v:World) (Q:QT) (h:vc154 x0_0 x0_1 x_1 n2_0 n2_1 n2_2 x2_3 x2_4 v Q):Tr 154 #[.agg #[x0_0.val,x0_1.val],x_1.val,.agg #[iV n2_0,iV n2_1,iV n2_2,x2_3.val,x2_4.val]] v Q:=
 trip_of_eq (args:=[.ag [.sl x0_0,.sl x0_1],.sl x_1,.ag [.num .i64 n2_0,.num .i64 n2_1,.num .i64 n2_2,.sl x2_3,.sl x2_4]]) (A:=⟨[],[],[],[999999],psG⟩) Tryz.func154 (by kernel_rfl) (by kernel_rfl) (by kernel_rfl) h
def vc155 (x_0:Sl) (n_1:Int) (v:World) (Q:QT):Prop:=
 ∃ q1,(pF 36 #[iV n_1,iV 1,iV (x_0.n:Int)] v (.bool q1))∧
 ∃ n4:Int,(q1=true→
 Wr .i64 (n_1 - 1) n4)∧
 (q1=true→
 IxOk x_0 n4)∧
 ∃ x5:Sl,(q1=true→
 v.cell? ((elA x_0 n4 3).add 2)=some (x5.val))∧
 Q (.bool (q1 && (decide ((x5.n:Int)=0)))) v
theorem of155 (x_0:Sl) (n_1:Int) (v:World) (Q:QT) (h:vc155 x_0 n_1 v Q):Tr 155 #[x_0.val,iV n_1] v Q:=
 trip_of_eq (args:=[.sl x_0,.num .i64 n_1]) (A:=aG) Tryz.func155 (by kernel_rfl) (by kernel_rfl) (by kernel_rfl) h
def vc156 (x0_0 x0_1 x_1:Sl) (n2_0 n2_1 n2_2:Int) (x2_3 x2_4:Sl) (v:World) (Q:QT):Prop:=
 ((!decide ((x2_3.n:Int)=1))=false→
 IxOk x2_3 0)∧
 ∃ n1:Int,((!decide ((x2_3.n:Int)=1))=false→
 v.cell? ((elA x2_3 0 1).add 0)=some (iV n1))∧
 ∃ n2:Int,((!decide ((x2_3.n:Int)=1))=false→
 Wr .i64 ((x_1.n:Int) - 1) n2)∧
 ∃ q3:Bool,((!decide ((x2_3.n:Int)=1))=false→
 (pF 36 #[iV n1,iV 0,iV n2] v (.bool q3)))∧
 (((!decide ((x2_3.n:Int)=1)) || (!q3))=false→
 IxOk x2_3 0)∧
 ∃ n6:Int,(((!decide ((x2_3.n:Int)=1)) || (!q3))=false→
 v.cell? ((elA x2_3 0 1).add 0)=some (iV n6))∧
 (((!decide ((x2_3.n:Int)=1)) || (!q3))=false→
 IxOk x_1 n6)∧
 ∃ n7:Int,(((!decide ((x2_3.n:Int)=1)) || (!q3))=false→
 v.cell? ((elA x_1 n6 1).add 0)=some (iV n7))∧
 ((((!decide ((x2_3.n:Int)=1)) || (!q3)) || (decide (n7=0)))=true→
 Q (iV (-1)) v)∧
 ((((!decide ((x2_3.n:Int)=1)) || (!q3)) || (decide (n7=0)))=false→
 (((!decide (n2_0=14)) && (!decide (n2_0=15)))=true→
 IxOk x2_3 0)∧
 ∃ n8:Int,(((!decide (n2_0=14)) && (!decide (n2_0=15)))=true→
 v.cell? ((elA x2_3 0 1).add 0)=some (iV n8))∧
 (((!decide (n2_0=14)) && (!decide (n2_0=15)))=true→
 IxOk x_1 n8)∧
 ∃ n9:Int,(((!decide (n2_0=14)) && (!decide (n2_0=15)))=true→
 v.cell? ((elA x_1 n8 1).add 0)=some (iV n9))∧
 ∃ q10:Bool,(((!decide (n2_0=14)) && (!decide (n2_0=15)))=true→
 (pF 155 #[x0_0.val,iV n9] v (.bool q10)))∧
 ((((!decide (n2_0=14)) && (!decide (n2_0=15))) && q10)=true→
 Q (iV (-1)) v)∧
 ((((!decide (n2_0=14)) && (!decide (n2_0=15))) && q10)=false→
 Q (iV 0) v))
theorem of156 (x0_0 x0_1 x_1:Sl) (n2_0 n2_1 n2_2:Int) (x2_3 x2_4:Sl) (v:World) (Q:QT) (h:vc156 x0_0 x0_1 x_1 n2_0 n2_1 n2_2 x2_3 x2_4 v Q):Tr 156 #[.agg #[x0_0.val,x0_1.val],x_1.val,.agg #[iV n2_0,iV n2_1,iV n2_2,x2_3.val,x2_4.val]] v Q:=
 trip_of_eq (args:=[.ag [.sl x0_0,.sl x0_1],.sl x_1,.ag [.num .i64 n2_0,.num .i64 n2_1,.num .i64 n2_2,.sl x2_3,.sl x2_4]]) (A:=⟨[],[],[],[999999],psG⟩) Tryz.func156 (by kernel_rfl) (by kernel_rfl) (by kernel_rfl) h
def vc157 (x0_0 x0_1 x_1:Sl) (n2_0 n2_1 n2_2:Int) (x2_3 x2_4:Sl) (n_3:Int) (v:World) (Q:QT):Prop:=
 ∃ q1,(pF 108 #[iV n2_0] v (.bool q1))∧
 (q1=true→
 IxOk x2_3 n_3)∧
 ∃ n4:Int,(q1=true→
 v.cell? ((elA x2_3 n_3 1).add 0)=some (iV n4))∧
 (q1=true→
 IxOk x_1 n4)∧
 ∃ n5:Int,(q1=true→
 v.cell? ((elA x_1 n4 1).add 0)=some (iV n5))∧
 ∃ q6:Bool,((q1 && (!decide (n5=0)))=true→
 (pF 109 #[.agg #[x0_0.val,x0_1.val],.agg #[iV n2_0,iV n2_1,iV n2_2,x2_3.val,x2_4.val],iV n_3] v (.bool q6)))∧
 Q (.bool ((q1 && (!decide (n5=0))) && (!q6))) v
theorem of157 (x0_0 x0_1 x_1:Sl) (n2_0 n2_1 n2_2:Int) (x2_3 x2_4:Sl) (n_3:Int) (v:World) (Q:QT) (h:vc157 x0_0 x0_1 x_1 n2_0 n2_1 n2_2 x2_3 x2_4 n_3 v Q):Tr 157 #[.agg #[x0_0.val,x0_1.val],x_1.val,.agg #[iV n2_0,iV n2_1,iV n2_2,x2_3.val,x2_4.val],iV n_3] v Q:=
 trip_of_eq (args:=[.ag [.sl x0_0,.sl x0_1],.sl x_1,.ag [.num .i64 n2_0,.num .i64 n2_1,.num .i64 n2_2,.sl x2_3,.sl x2_4],.num .i64 n_3]) (A:=aG) Tryz.func157 (by kernel_rfl) (by kernel_rfl) (by kernel_rfl) h
def vc158 (x0_0 x0_1:Sl) (v:World) (Q:QT):Prop:=
 ∃ q1,(pF 170 #[x0_0.val] v (.bool q1))∧
 ∃ q4:Bool,((!q1)=false→
 (pF 36 #[iV (x0_1.n:Int),iV 1,iV 4] v (.bool q4)))∧
 (((!q1) || (!q4))=true→
 Q (.bool false) v)∧
 (((!q1) || (!q4))=false→
 ∃ I7:zI1,∃ m8:zN1,I7 0 v∧
 ∀ n9 w10,I7 n9 w10→
 ((decide (n9 < (x0_1.n:Int)))=true→
 IxOk x0_1 n9∧
 zl4 w10 x0_1 n9 fun x11 n12 n13 n14 x15=>
 ∃ q16:Bool,((decide ((x11.n:Int) > 3))=false→
 (pF 171 #[x0_0.val,x11.val] w10 (.bool q16)))∧
 ∃ q19:Bool,(((decide ((x11.n:Int) > 3)) || (!q16))=false→
 (pF 36 #[iV n12,iV 0,iV (x0_0.n:Int)] w10 (.bool q19)))∧
 ((((decide ((x11.n:Int) > 3)) || (!q16)) || (!q19))=true→
 Q (.bool false) w10)∧
 ((((decide ((x11.n:Int) > 3)) || (!q16)) || (!q19))=false→
 ∃ n22,Wr .i64 (n9+1) n22∧
 zq10 x0_0 x0_1 fun _=>
 I7 n22 w10∧
 m8 n22 w10 < m8 n9 w10))∧
 ((decide (n9 < (x0_1.n:Int)))=false→
 IxOk x0_1 0∧
 zl9 w10 x0_1 0 fun x23=>
 ((decide ((x23.n:Int)=0))=true→
 IxOk x0_1 0)∧
 ∃ n24:Int,((decide ((x23.n:Int)=0))=true→
 w10.cell? ((elA x0_1 0 5).add 1)=some (iV n24))∧
 Q (.bool ((decide ((x23.n:Int)=0)) && (decide (n24=0)))) w10))
theorem of158 (x0_0 x0_1:Sl) (v:World) (Q:QT) (h:vc158 x0_0 x0_1 v Q):Tr 158 #[.agg #[x0_0.val,x0_1.val]] v Q:=
 trip_of_eq (args:=[.ag [.sl x0_0,.sl x0_1]]) (A:=⟨[(4,[(3,.int .i64)],[])],[],[],[],psG⟩) Tryz.func158 (by kernel_rfl) (by kernel_rfl) (by kernel_rfl) h
def vc159 (x0_0 x0_1:Sl) (v:World) (Q:QT):Prop:=
 bS 66 0 #[] v fun x3 w2=>
 ∃ I4:zI2,∃ m5:zN2,I4 0 x3 w2∧
 ∀ n6 x7 w8,I4 n6 x7 w8→
 ((decide (n6 < (x0_1.n:Int)))=true→
 IxOk x0_1 n6∧
 zl9 w8 x0_1 n6 fun x9=>
 IxOk x0_1 n6∧
 zl17 w8 x0_1 n6 fun n10=>
 bS 66 1 #[(0,(.agg #[x9.val,iV n10,iV 0,iV 0,.slice none 0 0]))] w8 fun x13 w12=>
 Sub w8 w12∧
 aS 66 x7 x13 w12 fun x16 w15=>
 ∃ n17,Wr .i64 (n6+1) n17∧
 zq3 x0_0 x0_1 (Sl.mk none 0 0) (Sl.mk none 0 0) x0_0 fun _=>
 I4 n17 x16 w15∧
 m5 n17 x16 w15 < m5 n6 x7 w8)∧
 ((decide (n6 < (x0_1.n:Int)))=false→
 Q (.agg #[x0_0.val,x7.val]) w8)
theorem of159 (x0_0 x0_1:Sl) (v:World) (Q:QT) (h:vc159 x0_0 x0_1 v Q):Tr 159 #[.agg #[x0_0.val,x0_1.val]] v Q:=
 trip_of_eq (args:=[.ag [.sl x0_0,.sl x0_1]]) (A:=⟨[(3,[(4,.int .i64)],[(2,1,.sl)])],[],[(5,[15])],[],psG⟩) Tryz.func159 (by kernel_rfl) (by kernel_rfl) (by kernel_rfl) h
def vc160 (x_0 x_1:Sl) (v:World) (Q:QT):Prop:=
 ∃ I1:zI1,∃ m2:zN1,I1 0 v∧
 ∀ n3 w4,I1 n3 w4→
 ((decide (n3 < (x_1.n:Int)))=true→
 IxOk x_1 n3∧
 zl6 w4 x_1 n3 fun n5=>
 ∃ n6,Wr .i64 ((x_0.n:Int) - 1) n6∧
 ∃ q7,(pF 36 #[iV n5,iV 0,iV n6] w4 (.bool q7))∧
 ((!q7)=false→
 IxOk x_1 n3)∧
 ∃ n10:Int,((!q7)=false→
 w4.cell? ((elA x_1 n3 1).add 0)=some (iV n10))∧
 ((!q7)=false→
 IxOk x_0 n10)∧
 ∃ n11:Int,((!q7)=false→
 w4.cell? ((elA x_0 n10 1).add 0)=some (iV n11))∧
 ((decide (n3 > 0))=true→
 ((!q7) || (decide (n11=0)))=false→
 IxOk x_1 n3)∧
 ∃ n12:Int,((decide (n3 > 0))=true→
 ((!q7) || (decide (n11=0)))=false→
 w4.cell? ((elA x_1 n3 1).add 0)=some (iV n12))∧
 ∃ n13:Int,((decide (n3 > 0))=true→
 ((!q7) || (decide (n11=0)))=false→
 Wr .i64 (n3 - 1) n13)∧
 ((decide (n3 > 0))=true→
 ((!q7) || (decide (n11=0)))=false→
 IxOk x_1 n13)∧
 ∃ n14:Int,((decide (n3 > 0))=true→
 ((!q7) || (decide (n11=0)))=false→
 w4.cell? ((elA x_1 n13 1).add 0)=some (iV n14))∧
 ((((!q7) || (decide (n11=0))) || ((decide (n3 > 0)) && (decide (n12≤n14))))=true→
 Q (.bool false) w4)∧
 ((((!q7) || (decide (n11=0))) || ((decide (n3 > 0)) && (decide (n12≤n14))))=false→
 ∃ n15,Wr .i64 (n3+1) n15∧
 I1 n15 w4∧
 m2 n15 w4 < m2 n3 w4))∧
 ((decide (n3 < (x_1.n:Int)))=false→
 Q (.bool true) w4)
theorem of160 (x_0 x_1:Sl) (v:World) (Q:QT) (h:vc160 x_0 x_1 v Q):Tr 160 #[x_0.val,x_1.val] v Q:=
 trip_of_eq (args:=[.sl x_0,.sl x_1]) (A:=⟨[(2,[(5,.int .i64)],[])],[],[],[],psG⟩) Tryz.func160 (by kernel_rfl) (by kernel_rfl) (by kernel_rfl) h
def vc161 (a_0:Addr) (x1_0 x1_1:Sl) (n2_0 n2_1 n2_2:Int) (x2_3 x2_4:Sl) (n_3:Int) (v:World) (Q:QT):Prop:=
 ∃ x1:Sl,v.cell? (a_0.add 0)=some (x1.val)∧
 zt2 172 #[pt a_0] v fun a4 w3=>
 ((decide (n2_0=8))=true→
 zt7 94 #[x1_0.val,iV n2_1] w3 fun x7 w6=>
 IxOk x7 n_3∧
 zl6 w6 x7 n_3 fun n8=>
 zt7 95 #[x1_0.val,iV n8] w6 fun x11 w10=>
 ∃ x12:Sl,w10.cell? (a4.add 3)=some (x12.val)∧
 IxOk x2_3 0∧
 zl6 w10 x2_3 0 fun n13=>
 IxOk x12 n13∧
 StoreAt w10 (elA x12 n13 1) 0 [iV n8] fun w14=>
 ∃ x15:Sl,w14.cell? (a4.add 4)=some (x15.val)∧
 IxOk x2_3 0∧
 zl6 w14 x2_3 0 fun n16=>
 IxOk x15 n16∧
 StoreAt w14 (elA x15 n16 1) 0 [iV (x1.n:Int)] fun w17=>
 ∃ I18:zI1,∃ m19:zN1,I18 0 w17∧
 ∀ n20 w21,I18 n20 w21→
 ((decide (n20 < (x11.n:Int)))=true→
 IxOk x11 n20∧
 zl6 w21 x11 n20 fun n22=>
 IxOk x2_3 0∧
 zl6 w21 x2_3 0 fun n23=>
 zt5 118 #[pt a4,iV n22,iV 0,iV n23] w21 fun  w25=>
 ∃ n26,Wr .i64 (n20+1) n26∧
 zq22 x1_0 x1_1 n2_0 n2_1 n2_2 x2_3 x2_4 fun _=>
 I18 n26 w25∧
 m19 n26 w25 < m19 n20 w21)∧
 ((decide (n20 < (x11.n:Int)))=false→
 IxOk x2_4 n_3∧
 zl1 w21 x2_4 n_3 fun x27 n28=>
 zt1 173 #[pt a4,.agg #[x1_0.val,x1_1.val],.agg #[x27.val,iV n28],iV (x1.n:Int)] w21 fun q31 w30=>
 Q (.tuple #[pt a4,.bool q31]) w30))∧
 ((decide (n2_0=8))=false→
 IxOk x2_4 n_3∧
 zl1 w3 x2_4 n_3 fun x32 n33=>
 zt1 173 #[pt a4,.agg #[x1_0.val,x1_1.val],.agg #[x32.val,iV n33],iV (x1.n:Int)] w3 fun q36 w35=>
 Q (.tuple #[pt a4,.bool q36]) w35)
theorem of161 (a_0:Addr) (x1_0 x1_1:Sl) (n2_0 n2_1 n2_2:Int) (x2_3 x2_4:Sl) (n_3:Int) (v:World) (Q:QT) (h:vc161 a_0 x1_0 x1_1 n2_0 n2_1 n2_2 x2_3 x2_4 n_3 v Q):Tr 161 #[pt a_0,.agg #[x1_0.val,x1_1.val],.agg #[iV n2_0,iV n2_1,iV n2_2,x2_3.val,x2_4.val],iV n_3] v Q:=
 trip_of_eq (args:=[.pt a_0 0,.ag [.sl x1_0,.sl x1_1],.ag [.num .i64 n2_0,.num .i64 n2_1,.num .i64 n2_2,.sl x2_3,.sl x2_4],.num .i64 n_3]) (A:=⟨[(9,[(14,.int .i64)],[])],[],[(6,[]),(7,[]),(11,[]),(12,[])],[],psG⟩) Tryz.func161 (by kernel_rfl) (by kernel_rfl) (by kernel_rfl) h
def vc162 (x_0 x_1:Sl) (v:World) (Q:QT):Prop:=
 ((!decide ((x_0.n:Int)=(x_1.n:Int)))=true→
 Q (.bool false) v)∧
 ((!decide ((x_0.n:Int)=(x_1.n:Int)))=false→
 ∃ I1:zI1,∃ m2:zN1,I1 0 v∧
 ∀ n3 w4,I1 n3 w4→
 ((decide (n3 < (x_0.n:Int)))=true→
 IxOk x_0 n3∧
 zl6 w4 x_0 n3 fun n5=>
 IxOk x_1 n3∧
 zl6 w4 x_1 n3 fun n6=>
 ((!decide (n5=n6))=true→
 Q (.bool false) w4)∧
 ((!decide (n5=n6))=false→
 ∃ n7,Wr .i64 (n3+1) n7∧
 I1 n7 w4∧
 m2 n7 w4 < m2 n3 w4))∧
 ((decide (n3 < (x_0.n:Int)))=false→
 Q (.bool true) w4))
theorem of162 (x_0 x_1:Sl) (v:World) (Q:QT) (h:vc162 x_0 x_1 v Q):Tr 162 #[x_0.val,x_1.val] v Q:=
 trip_of_eq (args:=[.sl x_0,.sl x_1]) (A:=⟨[(4,[(5,.int .i64)],[])],[],[],[],psG⟩) Tryz.func162 (by kernel_rfl) (by kernel_rfl) (by kernel_rfl) h
def vc163 (x0_0:Sl) (n0_1 n_1 n_2:Int) (v:World) (Q:QT):Prop:=
 ∃ I1:zI1,∃ m2:zN1,I1 n_1 v∧
 ∀ n3 w4,I1 n3 w4→
 ((decide (n3 < (x0_0.n:Int)))=true→
 IxOk x0_0 n3∧
 zl16 w4 x0_0 n3 fun n5=>
 ((decide (n5=6))=true→
 IxOk x0_0 n3)∧
 ∃ n6:Int,((decide (n5=6))=true→
 w4.cell? ((elA x0_0 n3 5).add 2)=some (iV n6))∧
 (((decide (n5=6)) && (decide (n6=0)))=true→
 IxOk x0_0 n3)∧
 ∃ x7:Sl,(((decide (n5=6)) && (decide (n6=0)))=true→
 w4.cell? ((elA x0_0 n3 5).add 3)=some (x7.val))∧
 ((((decide (n5=6)) && (decide (n6=0))) && (decide ((x7.n:Int)=n_2)))=true→
 Q (iV n3) w4)∧
 ((((decide (n5=6)) && (decide (n6=0))) && (decide ((x7.n:Int)=n_2)))=false→
 ∃ n8,Wr .i64 (n3+1) n8∧
 zq1 x0_0 n0_1 fun _=>
 I1 n8 w4∧
 m2 n8 w4 < m2 n3 w4))∧
 ((decide (n3 < (x0_0.n:Int)))=false→
 Q (iV (-1)) w4)
theorem of163 (x0_0:Sl) (n0_1 n_1 n_2:Int) (v:World) (Q:QT) (h:vc163 x0_0 n0_1 n_1 n_2 v Q):Tr 163 #[.agg #[x0_0.val,iV n0_1],iV n_1,iV n_2] v Q:=
 trip_of_eq (args:=[.ag [.sl x0_0,.num .i64 n0_1],.num .i64 n_1,.num .i64 n_2]) (A:=⟨[(2,[(7,.int .i64)],[])],[],[],[],psG⟩) Tryz.func163 (by kernel_rfl) (by kernel_rfl) (by kernel_rfl) h
def vc164 (x0_0 x0_1:Sl) (n_1:Int) (v:World) (Q:QT):Prop:=
 bS 28 0 #[] v fun x3 w2=>
 ∃ I4:zI4,∃ m5:zN4,I4 x3 0 w2∧
 ∀ x6 n7 w8,I4 x6 n7 w8→
 ((decide (n7 < (x0_1.n:Int)))=true→
 IxOk x0_1 n7∧
 zl9 w8 x0_1 n7 fun x9=>
 ((decide ((x9.n:Int) > 0))=true→
 IxOk x0_1 n7)∧
 ∃ x10:Sl,((decide ((x9.n:Int) > 0))=true→
 w8.cell? ((elA x0_1 n7 5).add 0)=some (x10.val))∧
 ∃ n11:Int,((decide ((x9.n:Int) > 0))=true→
 Wr .i64 ((x9.n:Int) - 1) n11)∧
 ((decide ((x9.n:Int) > 0))=true→
 IxOk x10 n11)∧
 ∃ n12:Int,((decide ((x9.n:Int) > 0))=true→
 w8.cell? ((elA x10 n11 1).add 0)=some (iV n12))∧
 ((decide ((x9.n:Int) > 0))=true→
 IxOk x0_1 n7)∧
 ∃ n13:Int,((decide ((x9.n:Int) > 0))=true→
 w8.cell? ((elA x0_1 n7 5).add 1)=some (iV n13))∧
 ∃ n14:Int,((decide ((x9.n:Int) > 0))=true→
 (pF 169 #[x0_0.val,iV n12,iV n13] w8 (iV n14)))∧
 (((decide ((x9.n:Int) > 0)) && (decide (n14=n_1)))=true→
 bS 28 1 #[(0,(iV n7))] w8 fun x19 w18=>
 aS 28 x6 x19 w18 fun x22 w21=>
 ∃ n23,Wr .i64 (n7+1) n23∧
 zq10 x0_0 x0_1 fun _=>
 I4 x22 n23 w21∧
 m5 x22 n23 w21 < m5 x6 n7 w8)∧
 (((decide ((x9.n:Int) > 0)) && (decide (n14=n_1)))=false→
 ∃ n24,Wr .i64 (n7+1) n24∧
 zq10 x0_0 x0_1 fun _=>
 I4 x6 n24 w8∧
 m5 x6 n24 w8 < m5 x6 n7 w8))∧
 ((decide (n7 < (x0_1.n:Int)))=false→
 Q (x6.val) w8)
theorem of164 (x0_0 x0_1:Sl) (n_1:Int) (v:World) (Q:QT) (h:vc164 x0_0 x0_1 n_1 v Q):Tr 164 #[.agg #[x0_0.val,x0_1.val],iV n_1] v Q:=
 trip_of_eq (args:=[.ag [.sl x0_0,.sl x0_1],.num .i64 n_1]) (A:=⟨[(3,[(5,.sl),(6,.int .i64)],[])],[],[],[],psG⟩) Tryz.func164 (by kernel_rfl) (by kernel_rfl) (by kernel_rfl) h
def vc165 (n0_0 n0_1 n0_2:Int) (x0_3 x0_4:Sl) (n_1:Int) (x_2:Sl) (v:World) (Q:QT):Prop:=
 ∃ q1,(pF 31 #[iV n0_0] v (.bool q1))∧
 (q1=true→
 Q (x_2.val) v)∧
 (q1=false→
 ∃ I4:zI4,∃ m5:zN4,I4 x_2 0 v∧
 ∀ x6 n7 w8,I4 x6 n7 w8→
 ((decide (n7 < (x0_3.n:Int)))=true→
 IxOk x0_3 n7∧
 zl6 w8 x0_3 n7 fun n9=>
 ((decide (n9≥0))=true→
 IxOk x0_3 n7)∧
 ∃ n10:Int,((decide (n9≥0))=true→
 w8.cell? ((elA x0_3 n7 1).add 0)=some (iV n10))∧
 (((decide (n9≥0)) && (decide (n10 < n_1)))=true→
 IxOk x0_3 n7∧
 zl6 w8 x0_3 n7 fun n11=>
 zt7 133 #[x6.val,iV n11] w8 fun x14 w13=>
 ∃ n15,Wr .i64 (n7+1) n15∧
 zq2 n0_0 n0_1 n0_2 x0_3 x0_4 fun _=>
 I4 x14 n15 w13∧
 m5 x14 n15 w13 < m5 x6 n7 w8)∧
 (((decide (n9≥0)) && (decide (n10 < n_1)))=false→
 ∃ n16,Wr .i64 (n7+1) n16∧
 zq2 n0_0 n0_1 n0_2 x0_3 x0_4 fun _=>
 I4 x6 n16 w8∧
 m5 x6 n16 w8 < m5 x6 n7 w8))∧
 ((decide (n7 < (x0_3.n:Int)))=false→
 ∃ I17:zI4,∃ m18:zN4,I17 x6 0 w8∧
 ∀ x19 n20 w21,I17 x19 n20 w21→
 ((decide (n20 < (x0_4.n:Int)))=true→
 IxOk x0_4 n20∧
 zl1 w21 x0_4 n20 fun x22 n23=>
 zt7 143 #[.agg #[x22.val,iV n23],iV n_1,iV 0,x19.val] w21 fun x26 w25=>
 ∃ n27,Wr .i64 (n20+1) n27∧
 zq2 n0_0 n0_1 n0_2 x0_3 x0_4 fun _=>
 I17 x26 n27 w25∧
 m18 x26 n27 w25 < m18 x19 n20 w21)∧
 ((decide (n20 < (x0_4.n:Int)))=false→
 Q (x19.val) w21)))
theorem of165 (n0_0 n0_1 n0_2:Int) (x0_3 x0_4:Sl) (n_1:Int) (x_2:Sl) (v:World) (Q:QT) (h:vc165 n0_0 n0_1 n0_2 x0_3 x0_4 n_1 x_2 v Q):Tr 165 #[.agg #[iV n0_0,iV n0_1,iV n0_2,x0_3.val,x0_4.val],iV n_1,x_2.val] v Q:=
 trip_of_eq (args:=[.ag [.num .i64 n0_0,.num .i64 n0_1,.num .i64 n0_2,.sl x0_3,.sl x0_4],.num .i64 n_1,.sl x_2]) (A:=⟨[(4,[(2,.sl),(7,.int .i64)],[]),(9,[(2,.sl),(8,.int .i64)],[])],[],[],[],psG⟩) Tryz.func165 (by kernel_rfl) (by kernel_rfl) (by kernel_rfl) h
def vc166 (x0_0 x0_1:Sl) (n1_0 n1_1 n1_2:Int) (x1_3 x1_4:Sl) (n_2:Int) (x_3 x_4:Sl) (v:World) (Q:QT):Prop:=
 IxOk x1_3 n_2∧
 zl6 v x1_3 n_2 fun n1=>
 ∃ q2,(pF 91 #[x_4.val,iV n1] v (.bool q2))∧
 (q2=false→
 IxOk x1_3 n_2)∧
 ∃ n5:Int,(q2=false→
 v.cell? ((elA x1_3 n_2 1).add 0)=some (iV n5))∧
 ∃ q6:Bool,(q2=false→
 (pF 91 #[x_3.val,iV n5] v (.bool q6)))∧
 ∃ q9:Bool,((q2 || (!q6))=false→
 (pF 174 #[.agg #[x0_0.val,x0_1.val],.agg #[iV n1_0,iV n1_1,iV n1_2,x1_3.val,x1_4.val],iV n_2] v (.bool q9)))∧
 Q (.bool ((q2 || (!q6)) || q9)) v
theorem of166 (x0_0 x0_1:Sl) (n1_0 n1_1 n1_2:Int) (x1_3 x1_4:Sl) (n_2:Int) (x_3 x_4:Sl) (v:World) (Q:QT) (h:vc166 x0_0 x0_1 n1_0 n1_1 n1_2 x1_3 x1_4 n_2 x_3 x_4 v Q):Tr 166 #[.agg #[x0_0.val,x0_1.val],.agg #[iV n1_0,iV n1_1,iV n1_2,x1_3.val,x1_4.val],iV n_2,x_3.val,x_4.val] v Q:=
 trip_of_eq (args:=[.ag [.sl x0_0,.sl x0_1],.ag [.num .i64 n1_0,.num .i64 n1_1,.num .i64 n1_2,.sl x1_3,.sl x1_4],.num .i64 n_2,.sl x_3,.sl x_4]) (A:=aG) Tryz.func166 (by kernel_rfl) (by kernel_rfl) (by kernel_rfl) h
def vc167 (x0_0 x0_1 x_1 x_2 x3_0:Sl) (n3_1:Int) (x_4 x_5:Sl) (v:World) (Q:QT):Prop:=
 zt7 99 #[x_1.val,x_2.val] v fun x3 w2=>
 zt7 110 #[.agg #[x3_0.val,iV n3_1],iV (x3.n:Int)] w2 fun x6 w5=>
 bS 28 0 #[] w5 fun x9 w8=>
 bS 28 0 #[] w8 fun x12 w11=>
 ∃ I13:zI5,∃ m14:zN5,I13 x9 x12 0 w11∧
 ∀ x15 x16 n17 w18,I13 x15 x16 n17 w18→
 ((decide (n17 < (x_4.n:Int)))=true→
 IxOk x_4 n17∧
 zl6 w18 x_4 n17 fun n19=>
 ∃ q20,(pF 91 #[x6.val,iV n19] w18 (.bool q20))∧
 (q20=false→
 IxOk x_4 n17)∧
 ∃ n23:Int,(q20=false→
 w18.cell? ((elA x_4 n17 1).add 0)=some (iV n23))∧
 ∃ q24:Bool,(q20=false→
 (pF 91 #[x_5.val,iV n23] w18 (.bool q24)))∧
 ((q20 || q24)=true→
 IxOk x_4 n17∧
 zl6 w18 x_4 n17 fun n27=>
 bS 28 1 #[(0,(iV n27))] w18 fun x30 w29=>
 aS 28 x15 x30 w29 fun x33 w32=>
 ∃ n34,Wr .i64 (n17+1) n34∧
 zq25 x0_0 x0_1 x3_0 n3_1 (Sl.mk none 0 0) 0 fun _=>
 I13 x33 x16 n34 w32∧
 m14 x33 x16 n34 w32 < m14 x15 x16 n17 w18)∧
 ((q20 || q24)=false→
 IxOk x_4 n17∧
 zl6 w18 x_4 n17 fun n35=>
 bS 28 1 #[(0,(iV n35))] w18 fun x38 w37=>
 aS 28 x16 x38 w37 fun x41 w40=>
 ∃ n42,Wr .i64 (n17+1) n42∧
 zq25 x0_0 x0_1 x3_0 n3_1 (Sl.mk none 0 0) 0 fun _=>
 I13 x15 x41 n42 w40∧
 m14 x15 x41 n42 w40 < m14 x15 x16 n17 w18))∧
 ((decide (n17 < (x_4.n:Int)))=false→
 bS 28 0 #[] w18 fun x45 w44=>
 ∃ I46:zI4,∃ m47:zN4,I46 x45 0 w44∧
 ∀ x48 n49 w50,I46 x48 n49 w50→
 ((decide (n49 < (x_2.n:Int)))=true→
 IxOk x_2 n49∧
 zl6 w50 x_2 n49 fun n51=>
 ∃ n52:Int,((!decide (n51=0))=true→
 Wr .i64 ((x_1.n:Int)+n49) n52)∧
 ∃ q53:Bool,((!decide (n51=0))=true→
 (pF 91 #[x6.val,iV n52] w50 (.bool q53)))∧
 (((!decide (n51=0)) && q53)=true→
 ∃ n56,Wr .i64 ((x_1.n:Int)+n49) n56∧
 bS 28 1 #[(0,(iV n56))] w50 fun x59 w58=>
 aS 28 x48 x59 w58 fun x62 w61=>
 ∃ n63,Wr .i64 (n49+1) n63∧
 zq25 x0_0 x0_1 x3_0 n3_1 (Sl.mk none 0 0) 0 fun _=>
 I46 x62 n63 w61∧
 m47 x62 n63 w61 < m47 x48 n49 w50)∧
 (((!decide (n51=0)) && q53)=false→
 ∃ n64,Wr .i64 (n49+1) n64∧
 zq25 x0_0 x0_1 x3_0 n3_1 (Sl.mk none 0 0) 0 fun _=>
 I46 x48 n64 w50∧
 m47 x48 n64 w50 < m47 x48 n49 w50))∧
 ((decide (n49 < (x_2.n:Int)))=false→
 zt7 112 #[iV 14,x48.val] w50 fun x67 w66=>
 zt7 112 #[iV 15,x16.val] w66 fun x70 w69=>
 aS 23 x67 x70 w69 fun x73 w72=>
 (aS 28 x15 x48 w72 fun x76 w75=>
 (zt7 175 #[x_5.val,iV (x_1.n:Int)] w75 fun x79 w78=>
 (zt3 111 #[.agg #[x0_0.val,x0_1.val],x3.val,.agg #[x3_0.val,iV n3_1],x76.val,x79.val] w78 fun x82 n83 w81=>
 aS 23 x73 x82 w81 fun x86 w85=>
 Q (.agg #[x86.val,iV n83]) w85)∧
 zt3 111 #[.agg #[x0_0.val,x0_1.val],x3.val,.agg #[x3_0.val,iV n3_1],x76.val,x79.val] w78 fun x89 n90 w88=>
 aS 23 x73 x89 w88 fun x93 w92=>
 Q (.agg #[x93.val,iV n90]) w92)∧
 zt7 175 #[x_5.val,iV (x_1.n:Int)] w75 fun x96 w95=>
 zt3 111 #[.agg #[x0_0.val,x0_1.val],x3.val,.agg #[x3_0.val,iV n3_1],x76.val,x96.val] w95 fun x99 n100 w98=>
 aS 23 x73 x99 w98 fun x103 w102=>
 Q (.agg #[x103.val,iV n100]) w102)∧
 aS 28 x15 x48 w72 fun x106 w105=>
 zt7 175 #[x_5.val,iV (x_1.n:Int)] w105 fun x109 w108=>
 zt3 111 #[.agg #[x0_0.val,x0_1.val],x3.val,.agg #[x3_0.val,iV n3_1],x106.val,x109.val] w108 fun x112 n113 w111=>
 aS 23 x73 x112 w111 fun x116 w115=>
 Q (.agg #[x116.val,iV n113]) w115))
theorem of167 (x0_0 x0_1 x_1 x_2 x3_0:Sl) (n3_1:Int) (x_4 x_5:Sl) (v:World) (Q:QT) (h:vc167 x0_0 x0_1 x_1 x_2 x3_0 n3_1 x_4 x_5 v Q):Tr 167 #[.agg #[x0_0.val,x0_1.val],x_1.val,x_2.val,.agg #[x3_0.val,iV n3_1],x_4.val,x_5.val] v Q:=
 trip_of_eq (args:=[.ag [.sl x0_0,.sl x0_1],.sl x_1,.sl x_2,.ag [.sl x3_0,.num .i64 n3_1],.sl x_4,.sl x_5]) (A:=⟨[(7,[(16,.sl),(17,.sl),(18,.int .i64)],[]),(14,[(19,.sl),(20,.int .i64)],[])],[],[(19,[]),(20,[])],[],psG⟩) Tryz.func167 (by kernel_rfl) (by kernel_rfl) (by kernel_rfl) h
def vc168 (x_0 x_1:Sl) (v:World) (Q:QT):Prop:=
 bS 28 0 #[] v fun x3 w2=>
 ∃ I4:zI4,∃ m5:zN4,I4 x3 0 w2∧
 ∀ x6 n7 w8,I4 x6 n7 w8→
 ((decide (n7 < (x_0.n:Int)))=true→
 IxOk x_0 n7∧
 zl6 w8 x_0 n7 fun n9=>
 ∃ q10,(pF 91 #[x_1.val,iV n9] w8 (.bool q10))∧
 (q10=true→
 IxOk x_0 n7∧
 zl6 w8 x_0 n7 fun n13=>
 bS 28 1 #[(0,(iV n13))] w8 fun x16 w15=>
 aS 28 x6 x16 w15 fun x19 w18=>
 ∃ n20,Wr .i64 (n7+1) n20∧
 I4 x19 n20 w18∧
 m5 x19 n20 w18 < m5 x6 n7 w8)∧
 (q10=false→
 ∃ n21,Wr .i64 (n7+1) n21∧
 I4 x6 n21 w8∧
 m5 x6 n21 w8 < m5 x6 n7 w8))∧
 ((decide (n7 < (x_0.n:Int)))=false→
 Q (x6.val) w8)
theorem of168 (x_0 x_1:Sl) (v:World) (Q:QT) (h:vc168 x_0 x_1 v Q):Tr 168 #[x_0.val,x_1.val] v Q:=
 trip_of_eq (args:=[.sl x_0,.sl x_1]) (A:=⟨[(3,[(5,.sl),(6,.int .i64)],[])],[],[],[],psG⟩) Tryz.func168 (by kernel_rfl) (by kernel_rfl) (by kernel_rfl) h
def vc169 (x_0:Sl) (n_1 n_2:Int) (v:World) (Q:QT):Prop:=
 ∃ I1:zI1,∃ m2:zN1,I1 0 v∧
 ∀ n3 w4,I1 n3 w4→
 ((decide (n3 < (x_0.n:Int)))=true→
 IxOk x_0 n3∧
 zl11 w4 x_0 n3 fun x5=>
 ((decide ((x5.n:Int)=0))=true→
 IxOk x_0 n3)∧
 ∃ n6:Int,((decide ((x5.n:Int)=0))=true→
 w4.cell? ((elA x_0 n3 3).add 0)=some (iV n6))∧
 (((decide ((x5.n:Int)=0)) && (decide (n6=n_1)))=true→
 IxOk x_0 n3)∧
 ∃ n7:Int,(((decide ((x5.n:Int)=0)) && (decide (n6=n_1)))=true→
 w4.cell? ((elA x_0 n3 3).add 1)=some (iV n7))∧
 ((((decide ((x5.n:Int)=0)) && (decide (n6=n_1))) && (decide (n7=n_2)))=true→
 ∃ n8,Wr .i64 (n3+1) n8∧
 Q (iV n8) w4)∧
 ((((decide ((x5.n:Int)=0)) && (decide (n6=n_1))) && (decide (n7=n_2)))=false→
 ∃ n9,Wr .i64 (n3+1) n9∧
 I1 n9 w4∧
 m2 n9 w4 < m2 n3 w4))∧
 ((decide (n3 < (x_0.n:Int)))=false→
 Q (iV (-1)) w4)
theorem of169 (x_0:Sl) (n_1 n_2:Int) (v:World) (Q:QT) (h:vc169 x_0 n_1 n_2 v Q):Tr 169 #[x_0.val,iV n_1,iV n_2] v Q:=
 trip_of_eq (args:=[.sl x_0,.num .i64 n_1,.num .i64 n_2]) (A:=⟨[(2,[(7,.int .i64)],[])],[],[],[],psG⟩) Tryz.func169 (by kernel_rfl) (by kernel_rfl) (by kernel_rfl) h
def vc170 (x_0:Sl) (v:World) (Q:QT):Prop:=
 ((decide ((x_0.n:Int) > 4))=true→
 Q (.bool false) v)∧
 ((decide ((x_0.n:Int) > 4))=false→
 ∃ I1:zI1,∃ m2:zN1,I1 0 v∧
 ∀ n3 w4,I1 n3 w4→
 ((decide (n3 < (x_0.n:Int)))=true→
 ∃ q5,(pF 176 #[x_0.val,iV n3] w4 (.bool q5))∧
 ((!q5)=true→
 Q (.bool false) w4)∧
 ((!q5)=false→
 ∃ n8,Wr .i64 (n3+1) n8∧
 I1 n8 w4∧
 m2 n8 w4 < m2 n3 w4))∧
 ((decide (n3 < (x_0.n:Int)))=false→
 Q (.bool true) w4))
theorem of170 (x_0:Sl) (v:World) (Q:QT) (h:vc170 x_0 v Q):Tr 170 #[x_0.val] v Q:=
 trip_of_eq (args:=[.sl x_0]) (A:=⟨[(4,[(3,.int .i64)],[])],[],[],[],psG⟩) Tryz.func170 (by kernel_rfl) (by kernel_rfl) (by kernel_rfl) h
def vc171 (x_0 x_1:Sl) (v:World) (Q:QT):Prop:=
 ∃ I1:zI1,∃ m2:zN1,I1 0 v∧
 ∀ n3 w4,I1 n3 w4→
 ((decide (n3 < (x_1.n:Int)))=true→
 IxOk x_1 n3∧
 zl6 w4 x_1 n3 fun n5=>
 ∃ q6,(pF 36 #[iV n5,iV 0,iV (x_0.n:Int)] w4 (.bool q6))∧
 ((!q6)=true→
 Q (.bool false) w4)∧
 ((!q6)=false→
 ∃ n9,Wr .i64 (n3+1) n9∧
 I1 n9 w4∧
 m2 n9 w4 < m2 n3 w4))∧
 ((decide (n3 < (x_1.n:Int)))=false→
 Q (.bool true) w4)
theorem of171 (x_0 x_1:Sl) (v:World) (Q:QT) (h:vc171 x_0 x_1 v Q):Tr 171 #[x_0.val,x_1.val] v Q:=
 trip_of_eq (args:=[.sl x_0,.sl x_1]) (A:=⟨[(2,[(5,.int .i64)],[])],[],[],[],psG⟩) Tryz.func171 (by kernel_rfl) (by kernel_rfl) (by kernel_rfl) h
def vc172 (a_0:Addr) (v:World) (Q:QT):Prop:=
 ∃ x1:Sl,v.cell? (a_0.add 0)=some (x1.val)∧
 ∃ x2:Sl,v.cell? (a_0.add 1)=some (x2.val)∧
 ∃ x3:Sl,v.cell? (a_0.add 2)=some (x3.val)∧
 ∃ x4:Sl,v.cell? (a_0.add 3)=some (x4.val)∧
 ∃ x5:Sl,v.cell? (a_0.add 4)=some (x5.val)∧
 ∃ x6:Sl,v.cell? (a_0.add 5)=some (x6.val)∧
 ∃ x7:Sl,v.cell? (a_0.add 6)=some (x7.val)∧
 zt7 50 #[x1.val] v fun x10 w9=>
 Sub v w9∧
 zt7 50 #[x2.val] w9 fun x13 w12=>
 Sub w9 w12∧
 zt7 50 #[x3.val] w12 fun x16 w15=>
 Sub w12 w15∧
 zt7 50 #[x4.val] w15 fun x19 w18=>
 Sub w15 w18∧
 zt7 50 #[x5.val] w18 fun x22 w21=>
 Sub w18 w21∧
 zt7 50 #[x6.val] w21 fun x25 w24=>
 Sub w21 w24∧
 zt7 50 #[x7.val] w24 fun x28 w27=>
 NewAt w27 (.cells #[x10.val,x13.val,x16.val,x19.val,x22.val,x25.val,x28.val] 101 (0,0)) fun a29 w30=>
 Q (pt a29) w30
theorem of172 (a_0:Addr) (v:World) (Q:QT) (h:vc172 a_0 v Q):Tr 172 #[pt a_0] v Q:=
 trip_of_eq (args:=[.pt a_0 0]) (A:=⟨[],[],[(1,[4,9,14,19,24,29])],[39],psG⟩) Tryz.func172 (by kernel_rfl) (by kernel_rfl) (by kernel_rfl) h
def vc173 (a_0:Addr) (x1_0 x1_1 x2_0:Sl) (n2_1 n_3:Int) (v:World) (Q:QT):Prop:=
 ∃ I1:zI1,∃ m2:zN1,I1 0 v∧
 ∀ n3 w4,I1 n3 w4→
 ((decide (n3 < (x2_0.n:Int)))=true→
 IxOk x2_0 n3∧
 zl0 w4 x2_0 n3 fun n5 n6 n7 x8 x9=>
 zt1 90 #[pt a_0,.agg #[x1_0.val,x1_1.val],.agg #[iV n5,iV n6,iV n7,x8.val,x9.val]] w4 fun q12 w11=>
 ((!q12)=true→
 Q (.bool false) w11)∧
 ((!q12)=false→
 ∃ n13,Wr .i64 (n3+1) n13∧
 zq24 x1_0 x1_1 x2_0 n2_1 fun _=>
 I1 n13 w11∧
 m2 n13 w11 < m2 n3 w4))∧
 ((decide (n3 < (x2_0.n:Int)))=false→
 ∃ x14:Sl,w4.cell? (a_0.add 0)=some (x14.val)∧
 IxOk x14 n2_1∧
 zl6 w4 x14 n2_1 fun n15=>
 ((!decide (n15=0))=true→
 zt1 119 #[pt a_0,iV n2_1] w4 fun q18 w17=>
 ((!q18)=true→
 Q (.bool false) w17)∧
 ((!q18)=false→
 zt1 177 #[pt a_0,iV n_3] w17 fun q21 w20=>
 Q (.bool q21) w20))∧
 ((!decide (n15=0))=false→
 zt1 177 #[pt a_0,iV n_3] w4 fun q24 w23=>
 Q (.bool q24) w23))
theorem of173 (a_0:Addr) (x1_0 x1_1 x2_0:Sl) (n2_1 n_3:Int) (v:World) (Q:QT) (h:vc173 a_0 x1_0 x1_1 x2_0 n2_1 n_3 v Q):Tr 173 #[pt a_0,.agg #[x1_0.val,x1_1.val],.agg #[x2_0.val,iV n2_1],iV n_3] v Q:=
 trip_of_eq (args:=[.pt a_0 0,.ag [.sl x1_0,.sl x1_1],.ag [.sl x2_0,.num .i64 n2_1],.num .i64 n_3]) (A:=⟨[(2,[(9,.int .i64)],[])],[],[(4,[]),(6,[])],[],psG⟩) Tryz.func173 (by kernel_rfl) (by kernel_rfl) (by kernel_rfl) h
def vc174 (x0_0 x0_1:Sl) (n1_0 n1_1 n1_2:Int) (x1_3 x1_4:Sl) (n_2:Int) (v:World) (Q:QT):Prop:=
 ∃ I1:zI1,∃ m2:zN1,I1 0 v∧
 ∀ n3 w4,I1 n3 w4→
 ((decide (n3 < (x1_3.n:Int)))=true→
 ((!decide (n3=n_2))=true→
 IxOk x1_3 n3)∧
 ∃ n5:Int,((!decide (n3=n_2))=true→
 w4.cell? ((elA x1_3 n3 1).add 0)=some (iV n5))∧
 ((!decide (n3=n_2))=true→
 IxOk x1_3 n_2)∧
 ∃ n6:Int,((!decide (n3=n_2))=true→
 w4.cell? ((elA x1_3 n_2 1).add 0)=some (iV n6))∧
 ∃ q7:Bool,((decide (n3 > n_2))=false→
 ((!decide (n3=n_2)) && (decide (n5=n6)))=true→
 (pF 109 #[.agg #[x0_0.val,x0_1.val],.agg #[iV n1_0,iV n1_1,iV n1_2,x1_3.val,x1_4.val],iV n3] w4 (.bool q7)))∧
 ((((!decide (n3=n_2)) && (decide (n5=n6))) && ((decide (n3 > n_2)) || q7))=true→
 Q (.bool true) w4)∧
 ((((!decide (n3=n_2)) && (decide (n5=n6))) && ((decide (n3 > n_2)) || q7))=false→
 ∃ n10,Wr .i64 (n3+1) n10∧
 zq22 x0_0 x0_1 n1_0 n1_1 n1_2 x1_3 x1_4 fun _=>
 I1 n10 w4∧
 m2 n10 w4 < m2 n3 w4))∧
 ((decide (n3 < (x1_3.n:Int)))=false→
 Q (.bool false) w4)
theorem of174 (x0_0 x0_1:Sl) (n1_0 n1_1 n1_2:Int) (x1_3 x1_4:Sl) (n_2:Int) (v:World) (Q:QT) (h:vc174 x0_0 x0_1 n1_0 n1_1 n1_2 x1_3 x1_4 n_2 v Q):Tr 174 #[.agg #[x0_0.val,x0_1.val],.agg #[iV n1_0,iV n1_1,iV n1_2,x1_3.val,x1_4.val],iV n_2] v Q:=
 trip_of_eq (args:=[.ag [.sl x0_0,.sl x0_1],.ag [.num .i64 n1_0,.num .i64 n1_1,.num .i64 n1_2,.sl x1_3,.sl x1_4],.num .i64 n_2]) (A:=⟨[(2,[(7,.int .i64)],[])],[],[],[],psG⟩) Tryz.func174 (by kernel_rfl) (by kernel_rfl) (by kernel_rfl) h
def vc175 (x_0:Sl) (n_1:Int) (v:World) (Q:QT):Prop:=
 bS 28 0 #[] v fun x3 w2=>
 ∃ I4:zI4,∃ m5:zN4,I4 x3 0 w2∧
 ∀ x6 n7 w8,I4 x6 n7 w8→
 ((decide (n7 < (x_0.n:Int)))=true→
 IxOk x_0 n7∧
 zl6 w8 x_0 n7 fun n9=>
 ((decide (n9 < n_1))=true→
 IxOk x_0 n7∧
 zl6 w8 x_0 n7 fun n10=>
 bS 28 1 #[(0,(iV n10))] w8 fun x13 w12=>
 aS 28 x6 x13 w12 fun x16 w15=>
 ∃ n17,Wr .i64 (n7+1) n17∧
 I4 x16 n17 w15∧
 m5 x16 n17 w15 < m5 x6 n7 w8)∧
 ((decide (n9 < n_1))=false→
 ∃ n18,Wr .i64 (n7+1) n18∧
 I4 x6 n18 w8∧
 m5 x6 n18 w8 < m5 x6 n7 w8))∧
 ((decide (n7 < (x_0.n:Int)))=false→
 Q (x6.val) w8)
theorem of175 (x_0:Sl) (n_1:Int) (v:World) (Q:QT) (h:vc175 x_0 n_1 v Q):Tr 175 #[x_0.val,iV n_1] v Q:=
 trip_of_eq (args:=[.sl x_0,.num .i64 n_1]) (A:=⟨[(3,[(5,.sl),(6,.int .i64)],[])],[],[],[],psG⟩) Tryz.func175 (by kernel_rfl) (by kernel_rfl) (by kernel_rfl) h
def vc176 (x_0:Sl) (n_1:Int) (v:World) (Q:QT):Prop:=
 IxOk x_0 n_1∧
 zl5 v x_0 n_1 fun n1 n2 x3=>
 ((decide ((x3.n:Int) > 0))=true→
 ((((decide ((x3.n:Int) > 3)) || (!decide (n1=0))) || (!decide (n2=0)))=true→
 Q (.bool false) v)∧
 ((((decide ((x3.n:Int) > 3)) || (!decide (n1=0))) || (!decide (n2=0)))=false→
 ∃ I4:zI1,∃ m5:zN1,I4 0 v∧
 ∀ n6 w7,I4 n6 w7→
 ((decide (n6 < (x3.n:Int)))=true→
 IxOk x3 n6∧
 zl12 w7 x3 n6 fun x8=>
 ((decide ((x8.n:Int) > 3))=false→
 IxOk x3 n6)∧
 ∃ x9:Sl,((decide ((x8.n:Int) > 3))=false→
 w7.cell? ((elA x3 n6 1).add 0)=some (x9.val))∧
 ∃ q10:Bool,((decide ((x8.n:Int) > 3))=false→
 (pF 171 #[x_0.val,x9.val] w7 (.bool q10)))∧
 (((decide ((x8.n:Int) > 3)) || (!q10))=true→
 Q (.bool false) w7)∧
 (((decide ((x8.n:Int) > 3)) || (!q10))=false→
 ∃ n13,Wr .i64 (n6+1) n13∧
 zq21 n1 n2 x3 fun _=>
 I4 n13 w7∧
 m5 n13 w7 < m5 n6 w7))∧
 ((decide (n6 < (x3.n:Int)))=false→
 Q (.bool true) w7)))∧
 ((decide ((x3.n:Int) > 0))=false→
 ∃ I14:zI1,∃ m15:zN1,I14 0 v∧
 ∀ n16 w17,I14 n16 w17→
 ((decide (n16 < n_1))=true→
 IxOk x_0 n16∧
 zl11 w17 x_0 n16 fun x18=>
 ((decide ((x18.n:Int)=0))=true→
 IxOk x_0 n16)∧
 ∃ n19:Int,((decide ((x18.n:Int)=0))=true→
 w17.cell? ((elA x_0 n16 3).add 0)=some (iV n19))∧
 (((decide ((x18.n:Int)=0)) && (decide (n19=n1)))=true→
 IxOk x_0 n16)∧
 ∃ n20:Int,(((decide ((x18.n:Int)=0)) && (decide (n19=n1)))=true→
 w17.cell? ((elA x_0 n16 3).add 1)=some (iV n20))∧
 ((((decide ((x18.n:Int)=0)) && (decide (n19=n1))) && (decide (n20=n2)))=true→
 Q (.bool false) w17)∧
 ((((decide ((x18.n:Int)=0)) && (decide (n19=n1))) && (decide (n20=n2)))=false→
 ∃ n21,Wr .i64 (n16+1) n21∧
 zq21 n1 n2 x3 fun _=>
 I14 n21 w17∧
 m15 n21 w17 < m15 n16 w17))∧
 ((decide (n16 < n_1))=false→
 ∃ q22,(pF 36 #[iV n1,iV 0,iV (x_0.n:Int)] w17 (.bool q22))∧
 ∃ q25:Bool,(q22=true→
 (pF 36 #[iV n2,iV 0,iV (x_0.n:Int)] w17 (.bool q25)))∧
 Q (.bool (q22 && q25)) w17))
theorem of176 (x_0:Sl) (n_1:Int) (v:World) (Q:QT) (h:vc176 x_0 n_1 v Q):Tr 176 #[x_0.val,iV n_1] v Q:=
 trip_of_eq (args:=[.sl x_0,.num .i64 n_1]) (A:=⟨[(6,[(6,.int .i64)],[]),(12,[(7,.int .i64)],[])],[],[],[],psG⟩) Tryz.func176 (by kernel_rfl) (by kernel_rfl) (by kernel_rfl) h
def vc177 (a_0:Addr) (n_1:Int) (v:World) (Q:QT):Prop:=
 ∃ I1:zI1,∃ m2:zN1,I1 n_1 v∧
 ∀ n3 w4,I1 n3 w4→
 ∃ x5:Sl,w4.cell? (a_0.add 0)=some (x5.val)∧
 ((decide (n3 < (x5.n:Int)))=true→
 ∃ x6:Sl,w4.cell? (a_0.add 1)=some (x6.val)∧
 IxOk x6 n3∧
 zl6 w4 x6 n3 fun n7=>
 ∃ x8:Sl,((!decide (n7=0))=false→
 w4.cell? (a_0.add 5)=some (x8.val))∧
 ((!decide (n7=0))=false→
 IxOk x8 n3)∧
 ∃ n9:Int,((!decide (n7=0))=false→
 w4.cell? ((elA x8 n3 1).add 0)=some (iV n9))∧
 (((!decide (n7=0)) || (decide (n9≥0)))=true→
 Q (.bool false) w4)∧
 (((!decide (n7=0)) || (decide (n9≥0)))=false→
 ∃ n10,Wr .i64 (n3+1) n10∧
 I1 n10 w4∧
 m2 n10 w4 < m2 n3 w4))∧
 ((decide (n3 < (x5.n:Int)))=false→
 ∃ x11:Sl,w4.cell? (a_0.add 0)=some (x11.val)∧
 CutOk x11 0 n_1∧
 StoreAt w4 a_0 0 [(x11.cut 0 n_1 1).val] fun w12=>
 ∃ x13:Sl,w12.cell? (a_0.add 1)=some (x13.val)∧
 CutOk x13 0 n_1∧
 StoreAt w12 a_0 1 [(x13.cut 0 n_1 1).val] fun w14=>
 ∃ x15:Sl,w14.cell? (a_0.add 2)=some (x15.val)∧
 CutOk x15 0 n_1∧
 StoreAt w14 a_0 2 [(x15.cut 0 n_1 1).val] fun w16=>
 ∃ x17:Sl,w16.cell? (a_0.add 3)=some (x17.val)∧
 CutOk x17 0 n_1∧
 StoreAt w16 a_0 3 [(x17.cut 0 n_1 1).val] fun w18=>
 ∃ x19:Sl,w18.cell? (a_0.add 4)=some (x19.val)∧
 CutOk x19 0 n_1∧
 StoreAt w18 a_0 4 [(x19.cut 0 n_1 1).val] fun w20=>
 ∃ x21:Sl,w20.cell? (a_0.add 5)=some (x21.val)∧
 CutOk x21 0 n_1∧
 StoreAt w20 a_0 5 [(x21.cut 0 n_1 1).val] fun w22=>
 Q (.bool true) w22)
theorem of177 (a_0:Addr) (n_1:Int) (v:World) (Q:QT) (h:vc177 a_0 n_1 v Q):Tr 177 #[pt a_0,iV n_1] v Q:=
 trip_of_eq (args:=[.pt a_0 0,.num .i64 n_1]) (A:=⟨[(2,[(5,.int .i64)],[])],[],[],[],psG⟩) Tryz.func177 (by kernel_rfl) (by kernel_rfl) (by kernel_rfl) h
end Go.Vc
