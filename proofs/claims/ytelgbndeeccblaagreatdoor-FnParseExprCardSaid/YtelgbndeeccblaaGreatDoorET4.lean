/- Part of the proofs about the heaps and memories: a law is joined in the text whose name ends in W and the law. -/
import Derived.Shelf.LaysM
import Derived.Shelf.Strconv.Itoa3
import Derived.Test.YtelgbndeeccblaaGreatDoorProg
/- Contracts of Go's library, laid at this program. -/
namespace Go.Proofs
open Go.Shelf
def Tryz.laysM171_ren : Go.Shelf.Ren := ⟨fun | 171 => 38 | 243 => 81 | 246 => 144 | 283 => 184 | 284 => 185 | 285 => 186 | 286 => 187 | 129 => 219 | 317 => 218 | 318 => 220 | 319 => 221 | 320 => 222 | 337 => 246 | 338 => 247 | n => n, fun | 3 => 3 | 9 => 9 | 2 => 2 | 4 => 4 | 171 => 198 | 0 => 0 | 53 => 199 | 37 => 39 | 5 => 5 | 173 => 202 | 212 => 233 | 51 => 234 | 20 => 20 | 213 => 235 | 46 => 236 | 232 => 265 | 233 => 266 | n => n, fun | 17 => 0 | 18 => 6 | 19 => 7 | n => n⟩
theorem Tryz.laysM171 : Go.Proofs.LaysM.n171 Tryz.prog Tryz.laysM171_ren := {
 mixed := by kernel_rfl
 f129 := Tryz.func219.trans (congrArg some (by kernel_rfl))
 f171 := Tryz.func38.trans (congrArg some (by kernel_rfl))
 f243 := Tryz.func81.trans (congrArg some (by kernel_rfl))
 f246 := Tryz.func144.trans (congrArg some (by kernel_rfl))
 f283 := Tryz.func184.trans (congrArg some (by kernel_rfl))
 f284 := Tryz.func185.trans (congrArg some (by kernel_rfl))
 f285 := Tryz.func186.trans (congrArg some (by kernel_rfl))
 f286 := Tryz.func187.trans (congrArg some (by kernel_rfl))
 f317 := Tryz.func218.trans (congrArg some (by kernel_rfl))
 f318 := Tryz.func220.trans (congrArg some (by kernel_rfl))
 f319 := Tryz.func221.trans (congrArg some (by kernel_rfl))
 f320 := Tryz.func222.trans (congrArg some (by kernel_rfl))
 f337 := Tryz.func246.trans (congrArg some (by kernel_rfl))
 f338 := Tryz.func247.trans (congrArg some (by kernel_rfl))
 t0 := Tryz.underlying0
 a0 := Tryz.isAgg0
 z0 := Tryz.sizeOf0
 v0 := Tryz.zeroValue0
 t2 := Tryz.underlying2
 a2 := Tryz.isAgg2
 z2 := Tryz.sizeOf2
 v2 := Tryz.zeroValue2
 t3 := Tryz.underlying3
 a3 := Tryz.isAgg3
 z3 := Tryz.sizeOf3
 v3 := Tryz.zeroValue3
 t4 := Tryz.underlying4
 a4 := Tryz.isAgg4
 z4 := Tryz.sizeOf4
 v4 := Tryz.zeroValue4
 t5 := Tryz.underlying5
 a5 := Tryz.isAgg5
 z5 := Tryz.sizeOf5
 v5 := Tryz.zeroValue5
 t9 := Tryz.underlying9
 a9 := Tryz.isAgg9
 z9 := Tryz.sizeOf9
 v9 := Tryz.zeroValue9
 t20 := Tryz.underlying20
 a20 := Tryz.isAgg20
 z20 := Tryz.sizeOf20
 v20 := Tryz.zeroValue20
 t37 := Tryz.underlying39
 a37 := Tryz.isAgg39
 z37 := Tryz.sizeOf39
 v37 := Tryz.zeroValue39
 t46 := Tryz.underlying236
 a46 := Tryz.isAgg236
 z46 := Tryz.sizeOf236
 v46 := Tryz.zeroValue236
 t51 := Tryz.underlying234
 a51 := Tryz.isAgg234
 z51 := Tryz.sizeOf234
 v51 := Tryz.zeroValue234
 t53 := Tryz.underlying199
 a53 := Tryz.isAgg199
 z53 := Tryz.sizeOf199
 v53 := Tryz.zeroValue199
 t171 := Tryz.underlying198
 a171 := Tryz.isAgg198
 z171 := Tryz.sizeOf198
 v171 := Tryz.zeroValue198
 t173 := Tryz.underlying202
 a173 := Tryz.isAgg202
 z173 := Tryz.sizeOf202
 v173 := Tryz.zeroValue202
 t212 := Tryz.underlying233
 a212 := Tryz.isAgg233
 z212 := Tryz.sizeOf233
 v212 := Tryz.zeroValue233
 t213 := Tryz.underlying235
 a213 := Tryz.isAgg235
 z213 := Tryz.sizeOf235
 t232 := Tryz.underlying265
 a232 := Tryz.isAgg265
 z232 := Tryz.sizeOf265
 v232 := Tryz.zeroValue265
 t233 := Tryz.underlying266
 a233 := Tryz.isAgg266
 z233 := Tryz.sizeOf266
 v233 := Tryz.zeroValue266
 g17 := by kernel_rfl
 g18 := by kernel_rfl
 g19 := by kernel_rfl
 i0 := by kernel_rfl
 i2 := by kernel_rfl
 i3 := by kernel_rfl
 i4 := by kernel_rfl
 i5 := by kernel_rfl
 i9 := by kernel_rfl
 i20 := by kernel_rfl
 i37 := by kernel_rfl
 i46 := by kernel_rfl
 i51 := by kernel_rfl
 i53 := by kernel_rfl
 i171 := by kernel_rfl
 i173 := by kernel_rfl
 i212 := by kernel_rfl
 i232 := by kernel_rfl
 i233 := by kernel_rfl
 m17 := by kernel_rfl
 m18 := by kernel_rfl
 m19 := by kernel_rfl }
open Go.RowKit Go.Sort Go.Lib in
theorem Tryz.strconv_Itoa (n : Int) (h0 : -9223372036854775808 ≤ n) (h1 : n ≤ 9223372036854775807) (w : World) (htab : Lib.TabIs Tryz.prog w "internal/strconv.uint64pow10" .u64 Lib.pow10Tab) :
  Calls Tryz.prog 38 #[.int .i64 n] w fun e w' => e = .returned (.string ⟨(Lib.itoa n).toArray⟩) ∧ ∃ k os, w' = grow (w.drewN k) os := Any.strconv_Itoa Tryz.laysM171 n h0 h1 w htab
end Go.Proofs
