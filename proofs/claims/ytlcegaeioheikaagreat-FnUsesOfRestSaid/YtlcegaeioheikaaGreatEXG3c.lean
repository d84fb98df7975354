/- Part of the proofs about the heaps and memories: a law is joined in the text whose name ends in W and the law. -/
import Derived.Test.YtlcegaeioheikaaGreatEG
set_option linter.all false
namespace Go.Vc
open Go Go.Proofs
def vc90j (a_0:Addr) (x1_0 x1_1:Sl) (n2_0 n2_1 n2_2:Int) (x2_3 x2_4:Sl) (v:World) (Q:QT):Prop:=
 ∃ x1:Sl,v.cell? (a_0.add 0)=some (x1.val)∧
 ∃ n2,(pF 113 #[.agg #[x1_0.val,x1_1.val],x1.val,.agg #[iV n2_0,iV n2_1,iV n2_2,x2_3.val,x2_4.val]] v (iV n2))∧
 ∃ J5:Bool→World→Prop,(((decide (n2_0=14))=true→
 IxOk x2_3 0∧
 zl6 v x2_3 0 fun n6=>
 ∃ q7,(pF 68 #[pt a_0,iV n6] v (.bool q7))∧
 ∃ x10:Sl,v.cell? (a_0.add 1)=some (x10.val)∧
 IxOk x2_3 0∧
 zl6 v x2_3 0 fun n11=>
 ∃ x12:Sl,v.cell? (a_0.add 1)=some (x12.val)∧
 IxOk x2_3 0∧
 zl6 v x2_3 0 fun n13=>
 IxOk x12 n13∧
 zl6 v x12 n13 fun n14=>
 ∃ n15,Wr .i64 (n14+1) n15∧
 IxOk x10 n11∧
 StoreAt v (elA x10 n11 1) 0 [iV n15] fun w16=>
 zq22 x1_0 x1_1 n2_0 n2_1 n2_2 x2_3 x2_4 fun _=>
 J5 q7 w16)∧
 ((decide (n2_0=14))=false→
 ((decide (n2_0=15))=true→
 IxOk x2_3 0∧
 zl6 v x2_3 0 fun n17=>
 zt1 119 #[pt a_0,iV n17] v fun q20 w19=>
 zq22 x1_0 x1_1 n2_0 n2_1 n2_2 x2_3 x2_4 fun _=>
 J5 q20 w19)∧
 ((decide (n2_0=15))=false→
 ((decide (n2_0=16))=true→
 zt1 120 #[pt a_0,.agg #[x1_0.val,x1_1.val],.agg #[iV n2_0,iV n2_1,iV n2_2,x2_3.val,x2_4.val]] v fun q23 w22=>
 zq22 x1_0 x1_1 n2_0 n2_1 n2_2 x2_3 x2_4 fun _=>
 J5 q23 w22)∧
 ((decide (n2_0=16))=false→
 ((decide (n2_0=17))=true→
 zt1 120 #[pt a_0,.agg #[x1_0.val,x1_1.val],.agg #[iV n2_0,iV n2_1,iV n2_2,x2_3.val,x2_4.val]] v fun q26 w25=>
 zq22 x1_0 x1_1 n2_0 n2_1 n2_2 x2_3 x2_4 fun _=>
 J5 q26 w25)∧
 ((decide (n2_0=17))=false→
 ((decide (n2_0=7))=true→
 zt1 121 #[pt a_0,.agg #[x1_0.val,x1_1.val],.agg #[iV n2_0,iV n2_1,iV n2_2,x2_3.val,x2_4.val]] v fun q29 w28=>
 zq22 x1_0 x1_1 n2_0 n2_1 n2_2 x2_3 x2_4 fun _=>
 J5 q29 w28)∧
 ((decide (n2_0=7))=false→
 ((decide (n2_0=8))=true→
 zt1 121 #[pt a_0,.agg #[x1_0.val,x1_1.val],.agg #[iV n2_0,iV n2_1,iV n2_2,x2_3.val,x2_4.val]] v fun q32 w31=>
 zq22 x1_0 x1_1 n2_0 n2_1 n2_2 x2_3 x2_4 fun _=>
 J5 q32 w31)∧
 ((decide (n2_0=8))=false→
 zt1 122 #[pt a_0,.agg #[x1_0.val,x1_1.val],.agg #[iV n2_0,iV n2_1,iV n2_2,x2_3.val,x2_4.val]] v fun q35 w34=>
 zq22 x1_0 x1_1 n2_0 n2_1 n2_2 x2_3 x2_4 fun _=>
 J5 q35 w34)))))))∧
 ∀ q36:Bool,∀ w37:World,J5 q36 w37→
 ((!q36)=true→
 Q (.bool false) w37)∧
 ((!q36)=false→
 ∃ q38,(pF 97 #[iV n2_0] w37 (.bool q38))∧
 ((q38 && (!decide (n2=0)))=true→
 zt5 118 #[pt a_0,iV n2,iV 1,iV (-1)] w37 fun  w42=>
 Q (.bool true) w42)∧
 ((q38 && (!decide (n2=0)))=false→
 ∃ q43,(pF 97 #[iV n2_0] w37 (.bool q43))∧
 (q43=true→
 zt5 118 #[pt a_0,iV 0,iV 0,iV (-1)] w37 fun  w47=>
 Q (.bool true) w47)∧
 (q43=false→
 Q (.bool true) w37)))
theorem of90j (a_0:Addr) (x1_0 x1_1:Sl) (n2_0 n2_1 n2_2:Int) (x2_3 x2_4:Sl) (v:World) (Q:QT) (h:vc90j a_0 x1_0 x1_1 n2_0 n2_1 n2_2 x2_3 x2_4 v Q):Tr 90 #[pt a_0,.agg #[x1_0.val,x1_1.val],.agg #[iV n2_0,iV n2_1,iV n2_2,x2_3.val,x2_4.val]] v Q:=
 trip_of_eq (args:=[.pt a_0 0,.ag [.sl x1_0,.sl x1_1],.ag [.num .i64 n2_0,.num .i64 n2_1,.num .i64 n2_2,.sl x2_3,.sl x2_4]]) (A:=⟨[],[(16,[(8,.bool)],[])],[(7,[])],[999999],psG⟩) Tryz.func90 (by kernel_rfl) (by kernel_rfl) (by kernel_rfl:vc90j a_0 x1_0 x1_1 n2_0 n2_1 n2_2 x2_3 x2_4 v Q=_) h
end Go.Vc
