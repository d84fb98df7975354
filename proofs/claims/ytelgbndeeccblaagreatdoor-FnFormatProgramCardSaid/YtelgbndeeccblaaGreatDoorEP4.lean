/- Part of the proofs about the heaps and memories: a law is joined in the text whose name ends in W and the law. -/
import Derived.Shelf.Strings.OnBuilder
import Derived.Test.YtelgbndeeccblaaGreatDoorProg
namespace Go.Proofs
open Go.Shelf
def Tryz.lays156_ren:Go.Shelf.Ren:=⟨fun|156=>82|165=>145|166=>37|169=>40|240=>80|241=>188|276=>143|277=>223|n=>n,fun|31=>83|9=>9|3=>3|4=>4|0=>0|20=>20|72=>59|76=>65|70=>57|37=>39|75=>64|127=>120|164=>173|5=>5|80=>74|n=>n,fun|n=>n⟩
theorem Tryz.lays156:Go.Proofs.Lays.n156 Tryz.prog Tryz.lays156_ren:={
 mixed:=by kernel_rfl
 f156:=Tryz.func82.trans (congrArg some (by kernel_rfl))
 f165:=Tryz.func145.trans (congrArg some (by kernel_rfl))
 f166:=Tryz.func37.trans (congrArg some (by kernel_rfl))
 f169:=Tryz.func40.trans (congrArg some (by kernel_rfl))
 f240:=Tryz.func80.trans (congrArg some (by kernel_rfl))
 f241:=Tryz.func188.trans (congrArg some (by kernel_rfl))
 f276:=Tryz.func143.trans (congrArg some (by kernel_rfl))
 f277:=Tryz.func223.trans (congrArg some (by kernel_rfl))
 t0:=Tryz.underlying0
 a0:=Tryz.isAgg0
 z0:=Tryz.sizeOf0
 v0:=Tryz.zeroValue0
 t3:=Tryz.underlying3
 a3:=Tryz.isAgg3
 z3:=Tryz.sizeOf3
 v3:=Tryz.zeroValue3
 t4:=Tryz.underlying4
 a4:=Tryz.isAgg4
 z4:=Tryz.sizeOf4
 v4:=Tryz.zeroValue4
 t9:=Tryz.underlying9
 a9:=Tryz.isAgg9
 z9:=Tryz.sizeOf9
 v9:=Tryz.zeroValue9
 t20:=Tryz.underlying20
 a20:=Tryz.isAgg20
 z20:=Tryz.sizeOf20
 v20:=Tryz.zeroValue20
 t31:=Tryz.underlying83
 a31:=Tryz.isAgg83
 z31:=Tryz.sizeOf83
 v31:=Tryz.zeroValue83
 t37:=Tryz.underlying39
 a37:=Tryz.isAgg39
 z37:=Tryz.sizeOf39
 v37:=Tryz.zeroValue39
 t70:=Tryz.underlying57
 a70:=Tryz.isAgg57
 z70:=Tryz.sizeOf57
 v70:=Tryz.zeroValue57
 t72:=Tryz.underlying59
 a72:=Tryz.isAgg59
 z72:=Tryz.sizeOf59
 v72:=Tryz.zeroValue59
 t75:=Tryz.underlying64
 a75:=Tryz.isAgg64
 z75:=Tryz.sizeOf64
 v75:=Tryz.zeroValue64
 t76:=Tryz.underlying65
 a76:=Tryz.isAgg65
 z76:=Tryz.sizeOf65
 v76:=Tryz.zeroValue65
 t127:=Tryz.underlying120
 a127:=Tryz.isAgg120
 z127:=Tryz.sizeOf120
 v127:=Tryz.zeroValue120
 t164:=Tryz.underlying173
 a164:=Tryz.isAgg173
 z164:=Tryz.sizeOf173
 v164:=Tryz.zeroValue173 }
theorem Tryz.Builder_Extra_156:Builder.Extra Tryz.prog Tryz.lays156_ren:={
 sizeBuilder:=by kernel_rfl
 liesBuilder:=by kernel_rfl
 t5:=Tryz.underlying5
 a5:=Tryz.isAgg5
 z5:=Tryz.sizeOf5
 v5:=Tryz.zeroValue5
 infoByte:=by kernel_rfl
 cellsByte:=by kernel_rfl
 sizeByte:=by kernel_rfl
 neB5:=by decide }
open Go.RowKit in
theorem Tryz.strings_Join_none (a:Option Addr) (c:Nat) (sep:ByteArray) (w:World):
  Calls Tryz.prog 82 #[.slice a 0 c,.string sep] w fun e w'=>e=.returned (.string ⟨#[]⟩)∧w'=w:=Any.strings_Join_none Tryz.lays156 Tryz.Builder_Extra_156 a c sep w
open Go.RowKit in
theorem Tryz.strings_Join (bk o c:Nat) (xs:List ByteArray) (sep:ByteArray) (w:World) (hcells:∀ (j:Nat) x,xs[j]?=some x→w.cell? ⟨bk,o+j,none⟩=some (.string x)) (hbk:bk < w.heap.size) (hN:xs.length≤140737488355328) (hcap:xs.length≤c) (hlen:(Lib.join (xs.map (·.data.toList)) sep.data.toList).length≤140737488355328):
  Calls Tryz.prog 82 #[.slice (some ⟨bk,o,none⟩) xs.length c,.string sep] w fun e w'=>e=.returned (.string ⟨(Lib.join (xs.map (·.data.toList)) sep.data.toList).toArray⟩)∧Below w.heap.size w w':=Any.strings_Join Tryz.lays156 Tryz.Builder_Extra_156 bk o c xs sep w hcells hbk hN hcap hlen
end Go.Proofs
