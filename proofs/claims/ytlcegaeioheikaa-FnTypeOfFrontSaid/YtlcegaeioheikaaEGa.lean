/- Part of the proofs about the heaps and memories: a law is joined in the text whose name ends in W and the law. -/
import Derived.Test.YtlcegaeioheikaaEVcFn
import Derived.Test.YtlcegaeioheikaaProg
import Derived.KernelRfl
namespace Go.Vc
open Go Go.Proofs
set_option linter.all false
abbrev ldF (w : World) (x : Sl) (i : Int) (K : Sl → Int → Int → Int → Sl → Prop) : Prop := ∃ f : Sl, ∃ a : Int, ∃ b : Int, ∃ c : Int, ∃ k : Sl, (w.cell? ((elA x i 5).add 0) = some (f.val) ∧ w.cell? ((elA x i 5).add 1) = some (.int .i64 a) ∧ w.cell? ((elA x i 5).add 2) = some (.int .i64 b) ∧ w.cell? ((elA x i 5).add 3) = some (.int .i64 c) ∧ w.cell? ((elA x i 5).add 4) = some (k.val)) ∧ K f a b c k
abbrev ldT (w : World) (x : Sl) (i : Int) (K : Int → Int → Sl → Prop) : Prop := ∃ a : Int, ∃ b : Int, ∃ k : Sl, (w.cell? ((elA x i 3).add 0) = some (.int .i64 a) ∧ w.cell? ((elA x i 3).add 1) = some (.int .i64 b) ∧ w.cell? ((elA x i 3).add 2) = some (k.val)) ∧ K a b k
abbrev eqS (x : SV) : Prop := x = x
abbrev psG : List Nat := [5, 6, 17, 18, 19, 23, 24, 25, 26, 38, 40, 43, 44, 45, 46, 47, 48, 49, 50, 52, 53, 54, 66, 68, 69, 70, 71, 72, 73, 74, 76, 77, 83, 88]
def vc3 (x_0 : Sl) (v : World) (Q : Value → World → Prop) : Prop :=
 ((decide ((x_0.n : Int) > 1048576)) = true →
 Q (.bool true) v) ∧
 ((decide ((x_0.n : Int) > 1048576)) = false →
 Trip Try.prog 4 #[x_0.val] v fun r1 w2 =>
 ∃ x3 : Sl, ∃ x4 : Sl, ∃ x5 : Sl, ∃ n6 : Int, ∃ n7 : Int, ∃ x8 : Sl, r1 = .tuple #[.agg #[x3.val, x4.val], x5.val, .agg #[.int .i64 n6, .int .i64 n7, x8.val]] ∧
 ∃ n9 : Int, (Trip Try.prog 5 #[.agg #[x3.val, x4.val], x5.val, .agg #[.int .i64 n6, .int .i64 n7, x8.val]] w2 fun r10 w11 => r10 = .int .i64 n9 ∧ Sub w2 w11) ∧
 ∃ n12 : Int, (Trip Try.prog 6 #[.agg #[x3.val, x4.val], x5.val, .agg #[.int .i64 n6, .int .i64 n7, x8.val]] w2 fun r13 w14 => r13 = .int .i64 n12 ∧ Sub w2 w14) ∧
 (((!decide (n9 = n12)) || (decide (n9 < 0))) = true →
 ∃ n15 : Int, (Trip Try.prog 6 #[.agg #[x3.val, x4.val], x5.val, .agg #[.int .i64 n6, .int .i64 n7, x8.val]] w2 fun r16 w17 => r16 = .int .i64 n15 ∧ Sub w2 w17) ∧
 Q (.bool (decide (n9 = n15))) w2) ∧
 (((!decide (n9 = n12)) || (decide (n9 < 0))) = false →
 Trip Try.prog 7 #[.agg #[.int .i64 n6, .int .i64 n7, x8.val], .int .i64 0, .int .i64 1] w2 fun r18 w19 =>
 ∃ n20 : Int, ∃ n21 : Int, ∃ x22 : Sl, ∃ q23 : Bool, r18 = .tuple #[.agg #[.int .i64 n20, .int .i64 n21, x22.val], .bool q23] ∧
 (q23 = true →
 StepT Try.prog (Instr.buildSlice 27 1 #[(0, (.int .i64 0))]) w19 fun r24 w25 =>
 ∃ x26 : Sl, r24 = x26.val ∧
 Sub w19 w25 ∧
 Trip Try.prog 8 #[x26.val, x5.val] w25 fun r27 w28 =>
 ∃ x29 : Sl, r27 = x29.val ∧
 Sub w25 w28 ∧
 ∃ n30 : Int, (Trip Try.prog 5 #[.agg #[x3.val, x4.val], x29.val, .agg #[.int .i64 n20, .int .i64 n21, x22.val]] w28 fun r31 w32 => r31 = .int .i64 n30 ∧ Sub w28 w32) ∧
 Q (.bool (decide (n30 = n9))) w28) ∧
 (q23 = false →
 Sub w19 w19 ∧
 Sub w19 w19 ∧
 Q (.bool false) w19)))
theorem of3 (x_0 : Sl) (v : World) (Q : Value → World → Prop) (h : vc3 x_0 v Q) : Trip Try.prog 3 #[x_0.val] v Q :=
 trip_of_eq (args := [.sl x_0]) (A := ⟨[], [], [(8, [3, 5])], [], psG⟩) Try.func3 (by kernel_rfl) (by kernel_rfl) (by kernel_rfl : vc3 x_0 v Q = _) h

def vc4 (x_0 : Sl) (v : World) (Q : Value → World → Prop) : Prop :=
 Trip Try.prog 9 #[x_0.val] v fun r1 w2 =>
 ∃ a3 : Addr, r1 = .pointer (some (a3.add 0)) ∧
 Trip Try.prog 10 #[.pointer (some (a3.add 0))] w2 fun r4 w5 =>
 ∃ x6 : Sl, ∃ x7 : Sl, ∃ n8 : Int, r4 = .tuple #[.agg #[x6.val, x7.val], .int .i64 n8] ∧
 IxOk x7 n8 ∧
 ∃ x9 : Sl, w5.cell? ((elA x7 n8 5).add 0) = some (x9.val) ∧
 Trip Try.prog 11 #[x9.val] w5 fun r10 w11 =>
 ∃ x12 : Sl, r10 = x12.val ∧
 IxOk x7 n8 ∧
 ∃ n13 : Int, ∃ n14 : Int, ∃ x15 : Sl, (w11.cell? ((elA x7 n8 5).add 2) = some (.int .i64 n13) ∧
 w11.cell? ((elA x7 n8 5).add 3) = some (.int .i64 n14) ∧
 w11.cell? ((elA x7 n8 5).add 4) = some (x15.val)) ∧
 Trip Try.prog 12 #[.pointer (some (a3.add 0)), .int .i64 3] w11 fun r16 w17 =>
 ∃ n18 : Int, r16 = .int .i64 n18 ∧
 ((decide (n18 = 0)) = true →
 StepT Try.prog (Instr.buildSlice 27 3 #[(0, (.int .i64 0)), (1, (.int .i64 1)), (2, (.int .i64 3))]) w17 fun r19 w20 =>
 ∃ x21 : Sl, r19 = x21.val ∧
 Trip Try.prog 14 #[.pointer (some (a3.add 0)), x21.val] w20 fun r22 w23 =>
 ∃ n24 : Int, r22 = .int .i64 n24 ∧
 Trip Try.prog 13 #[.pointer (some (a3.add 0)), .agg #[x6.val, x7.val], x12.val, .int .i64 n24, .int .i64 12] w23 fun r25 w26 =>
 ∃ n27 : Int, ∃ n28 : Int, ∃ x29 : Sl, r25 = .agg #[.int .i64 n27, .int .i64 n28, x29.val] ∧
 Trip Try.prog 12 #[.pointer (some (a3.add 0)), .int .i64 8] w26 fun r30 w31 =>
 ∃ n32 : Int, r30 = .int .i64 n32 ∧
 ((decide (n32 = 0)) = true →
 StepT Try.prog (Instr.buildSlice 27 4 #[(0, (.int .i64 0)), (1, (.int .i64 1)), (2, (.int .i64 9)), (3, (.int .i64 (-1)))]) w31 fun r33 w34 =>
 ∃ x35 : Sl, r33 = x35.val ∧
 Trip Try.prog 14 #[.pointer (some (a3.add 0)), x35.val] w34 fun r36 w37 =>
 ∃ n38 : Int, r36 = .int .i64 n38 ∧
 StepT Try.prog (Instr.buildSlice 27 1 #[(0, (.int .i64 n38))]) w37 fun r39 w40 =>
 ∃ x41 : Sl, r39 = x41.val ∧
 StepT Try.prog (Builtin.append_ #[27, 27] 27 #[(x12.val), (x41.val)]) w40 fun r42 w43 =>
 ∃ x44 : Sl, r42 = x44.val ∧
 Trip Try.prog 12 #[.pointer (some (a3.add 0)), .int .i64 6] w43 fun r45 w46 =>
 ∃ n47 : Int, r45 = .int .i64 n47 ∧
 ((decide (n47 = 0)) = true →
 Trip Try.prog 15 #[.pointer (some (a3.add 0)), .agg #[.int .i64 n27, .int .i64 n28, x29.val]] w46 fun r48 w49 =>
 ∃ n50 : Int, ∃ n51 : Int, ∃ x52 : Sl, r48 = .agg #[.int .i64 n50, .int .i64 n51, x52.val] ∧
 (Trip Try.prog 16 #[.pointer (some (a3.add 0)), .agg #[x6.val, x7.val]] w49 fun r53 w54 =>
 ∃ x55 : Sl, ∃ x56 : Sl, r53 = .agg #[x55.val, x56.val] ∧
 Q (.tuple #[.agg #[x55.val, x56.val], x44.val, .agg #[.int .i64 n50, .int .i64 n51, x52.val]]) w54 ∧
 Q (.tuple #[.agg #[x55.val, x56.val], x44.val, .agg #[.int .i64 n50, .int .i64 n51, x52.val]]) w54) ∧
 Trip Try.prog 16 #[.pointer (some (a3.add 0)), .agg #[x6.val, x7.val]] w49 fun r57 w58 =>
 ∃ x59 : Sl, ∃ x60 : Sl, r57 = .agg #[x59.val, x60.val] ∧
 Q (.tuple #[.agg #[x59.val, x60.val], x44.val, .agg #[.int .i64 n50, .int .i64 n51, x52.val]]) w58) ∧
 ((decide (n47 = 0)) = false →
 (Trip Try.prog 16 #[.pointer (some (a3.add 0)), .agg #[x6.val, x7.val]] w46 fun r61 w62 =>
 ∃ x63 : Sl, ∃ x64 : Sl, r61 = .agg #[x63.val, x64.val] ∧
 Q (.tuple #[.agg #[x63.val, x64.val], x44.val, .agg #[.int .i64 n27, .int .i64 n28, x29.val]]) w62 ∧
 Q (.tuple #[.agg #[x63.val, x64.val], x44.val, .agg #[.int .i64 n27, .int .i64 n28, x29.val]]) w62) ∧
 Trip Try.prog 16 #[.pointer (some (a3.add 0)), .agg #[x6.val, x7.val]] w46 fun r65 w66 =>
 ∃ x67 : Sl, ∃ x68 : Sl, r65 = .agg #[x67.val, x68.val] ∧
 Q (.tuple #[.agg #[x67.val, x68.val], x44.val, .agg #[.int .i64 n27, .int .i64 n28, x29.val]]) w66)) ∧
 ((decide (n32 = 0)) = false →
 Trip Try.prog 12 #[.pointer (some (a3.add 0)), .int .i64 6] w31 fun r69 w70 =>
 ∃ n71 : Int, r69 = .int .i64 n71 ∧
 ((decide (n71 = 0)) = true →
 Trip Try.prog 15 #[.pointer (some (a3.add 0)), .agg #[.int .i64 n27, .int .i64 n28, x29.val]] w70 fun r72 w73 =>
 ∃ n74 : Int, ∃ n75 : Int, ∃ x76 : Sl, r72 = .agg #[.int .i64 n74, .int .i64 n75, x76.val] ∧
 (Trip Try.prog 16 #[.pointer (some (a3.add 0)), .agg #[x6.val, x7.val]] w73 fun r77 w78 =>
 ∃ x79 : Sl, ∃ x80 : Sl, r77 = .agg #[x79.val, x80.val] ∧
 Q (.tuple #[.agg #[x79.val, x80.val], x12.val, .agg #[.int .i64 n74, .int .i64 n75, x76.val]]) w78 ∧
 Q (.tuple #[.agg #[x79.val, x80.val], x12.val, .agg #[.int .i64 n74, .int .i64 n75, x76.val]]) w78) ∧
 Trip Try.prog 16 #[.pointer (some (a3.add 0)), .agg #[x6.val, x7.val]] w73 fun r81 w82 =>
 ∃ x83 : Sl, ∃ x84 : Sl, r81 = .agg #[x83.val, x84.val] ∧
 Q (.tuple #[.agg #[x83.val, x84.val], x12.val, .agg #[.int .i64 n74, .int .i64 n75, x76.val]]) w82) ∧
 ((decide (n71 = 0)) = false →
 (Trip Try.prog 16 #[.pointer (some (a3.add 0)), .agg #[x6.val, x7.val]] w70 fun r85 w86 =>
 ∃ x87 : Sl, ∃ x88 : Sl, r85 = .agg #[x87.val, x88.val] ∧
 Q (.tuple #[.agg #[x87.val, x88.val], x12.val, .agg #[.int .i64 n27, .int .i64 n28, x29.val]]) w86 ∧
 Q (.tuple #[.agg #[x87.val, x88.val], x12.val, .agg #[.int .i64 n27, .int .i64 n28, x29.val]]) w86) ∧
 Trip Try.prog 16 #[.pointer (some (a3.add 0)), .agg #[x6.val, x7.val]] w70 fun r89 w90 =>
 ∃ x91 : Sl, ∃ x92 : Sl, r89 = .agg #[x91.val, x92.val] ∧
 Q (.tuple #[.agg #[x91.val, x92.val], x12.val, .agg #[.int .i64 n27, .int .i64 n28, x29.val]]) w90))) ∧
 ((decide (n18 = 0)) = false →
 Trip Try.prog 12 #[.pointer (some (a3.add 0)), .int .i64 8] w17 fun r93 w94 =>
 ∃ n95 : Int, r93 = .int .i64 n95 ∧
 ((decide (n95 = 0)) = true →
 StepT Try.prog (Instr.buildSlice 27 4 #[(0, (.int .i64 0)), (1, (.int .i64 1)), (2, (.int .i64 9)), (3, (.int .i64 (-1)))]) w94 fun r96 w97 =>
 ∃ x98 : Sl, r96 = x98.val ∧
 Trip Try.prog 14 #[.pointer (some (a3.add 0)), x98.val] w97 fun r99 w100 =>
 ∃ n101 : Int, r99 = .int .i64 n101 ∧
 StepT Try.prog (Instr.buildSlice 27 1 #[(0, (.int .i64 n101))]) w100 fun r102 w103 =>
 ∃ x104 : Sl, r102 = x104.val ∧
 StepT Try.prog (Builtin.append_ #[27, 27] 27 #[(x12.val), (x104.val)]) w103 fun r105 w106 =>
 ∃ x107 : Sl, r105 = x107.val ∧
 Trip Try.prog 12 #[.pointer (some (a3.add 0)), .int .i64 6] w106 fun r108 w109 =>
 ∃ n110 : Int, r108 = .int .i64 n110 ∧
 ((decide (n110 = 0)) = true →
 Trip Try.prog 15 #[.pointer (some (a3.add 0)), .agg #[.int .i64 n13, .int .i64 n14, x15.val]] w109 fun r111 w112 =>
 ∃ n113 : Int, ∃ n114 : Int, ∃ x115 : Sl, r111 = .agg #[.int .i64 n113, .int .i64 n114, x115.val] ∧
 (Trip Try.prog 16 #[.pointer (some (a3.add 0)), .agg #[x6.val, x7.val]] w112 fun r116 w117 =>
 ∃ x118 : Sl, ∃ x119 : Sl, r116 = .agg #[x118.val, x119.val] ∧
 Q (.tuple #[.agg #[x118.val, x119.val], x107.val, .agg #[.int .i64 n113, .int .i64 n114, x115.val]]) w117 ∧
 Q (.tuple #[.agg #[x118.val, x119.val], x107.val, .agg #[.int .i64 n113, .int .i64 n114, x115.val]]) w117) ∧
 Trip Try.prog 16 #[.pointer (some (a3.add 0)), .agg #[x6.val, x7.val]] w112 fun r120 w121 =>
 ∃ x122 : Sl, ∃ x123 : Sl, r120 = .agg #[x122.val, x123.val] ∧
 Q (.tuple #[.agg #[x122.val, x123.val], x107.val, .agg #[.int .i64 n113, .int .i64 n114, x115.val]]) w121) ∧
 ((decide (n110 = 0)) = false →
 (Trip Try.prog 16 #[.pointer (some (a3.add 0)), .agg #[x6.val, x7.val]] w109 fun r124 w125 =>
 ∃ x126 : Sl, ∃ x127 : Sl, r124 = .agg #[x126.val, x127.val] ∧
 Q (.tuple #[.agg #[x126.val, x127.val], x107.val, .agg #[.int .i64 n13, .int .i64 n14, x15.val]]) w125 ∧
 Q (.tuple #[.agg #[x126.val, x127.val], x107.val, .agg #[.int .i64 n13, .int .i64 n14, x15.val]]) w125) ∧
 Trip Try.prog 16 #[.pointer (some (a3.add 0)), .agg #[x6.val, x7.val]] w109 fun r128 w129 =>
 ∃ x130 : Sl, ∃ x131 : Sl, r128 = .agg #[x130.val, x131.val] ∧
 Q (.tuple #[.agg #[x130.val, x131.val], x107.val, .agg #[.int .i64 n13, .int .i64 n14, x15.val]]) w129)) ∧
 ((decide (n95 = 0)) = false →
 Trip Try.prog 12 #[.pointer (some (a3.add 0)), .int .i64 6] w94 fun r132 w133 =>
 ∃ n134 : Int, r132 = .int .i64 n134 ∧
 ((decide (n134 = 0)) = true →
 Trip Try.prog 15 #[.pointer (some (a3.add 0)), .agg #[.int .i64 n13, .int .i64 n14, x15.val]] w133 fun r135 w136 =>
 ∃ n137 : Int, ∃ n138 : Int, ∃ x139 : Sl, r135 = .agg #[.int .i64 n137, .int .i64 n138, x139.val] ∧
 (Trip Try.prog 16 #[.pointer (some (a3.add 0)), .agg #[x6.val, x7.val]] w136 fun r140 w141 =>
 ∃ x142 : Sl, ∃ x143 : Sl, r140 = .agg #[x142.val, x143.val] ∧
 Q (.tuple #[.agg #[x142.val, x143.val], x12.val, .agg #[.int .i64 n137, .int .i64 n138, x139.val]]) w141 ∧
 Q (.tuple #[.agg #[x142.val, x143.val], x12.val, .agg #[.int .i64 n137, .int .i64 n138, x139.val]]) w141) ∧
 Trip Try.prog 16 #[.pointer (some (a3.add 0)), .agg #[x6.val, x7.val]] w136 fun r144 w145 =>
 ∃ x146 : Sl, ∃ x147 : Sl, r144 = .agg #[x146.val, x147.val] ∧
 Q (.tuple #[.agg #[x146.val, x147.val], x12.val, .agg #[.int .i64 n137, .int .i64 n138, x139.val]]) w145) ∧
 ((decide (n134 = 0)) = false →
 (Trip Try.prog 16 #[.pointer (some (a3.add 0)), .agg #[x6.val, x7.val]] w133 fun r148 w149 =>
 ∃ x150 : Sl, ∃ x151 : Sl, r148 = .agg #[x150.val, x151.val] ∧
 Q (.tuple #[.agg #[x150.val, x151.val], x12.val, .agg #[.int .i64 n13, .int .i64 n14, x15.val]]) w149 ∧
 Q (.tuple #[.agg #[x150.val, x151.val], x12.val, .agg #[.int .i64 n13, .int .i64 n14, x15.val]]) w149) ∧
 Trip Try.prog 16 #[.pointer (some (a3.add 0)), .agg #[x6.val, x7.val]] w133 fun r152 w153 =>
 ∃ x154 : Sl, ∃ x155 : Sl, r152 = .agg #[x154.val, x155.val] ∧
 Q (.tuple #[.agg #[x154.val, x155.val], x12.val, .agg #[.int .i64 n13, .int .i64 n14, x15.val]]) w153)))
theorem of4 (x_0 : Sl) (v : World) (Q : Value → World → Prop) (h : vc4 x_0 v Q) : Trip Try.prog 4 #[x_0.val] v Q :=
 trip_of_eq (args := [.sl x_0]) (A := ⟨[], [], [(6, []), (11, [])], [], psG⟩) Try.func4 (by kernel_rfl) (by kernel_rfl) (by kernel_rfl : vc4 x_0 v Q = _) h

def vc5 (x0_0 : Sl) (x0_1 : Sl) (x_1 : Sl) (n2_0 : Int) (n2_1 : Int) (x2_2 : Sl) (v : World) (Q : Value → World → Prop) : Prop :=
 ∃ q1 : Bool, (Trip Try.prog 17 #[.agg #[x0_0.val, x0_1.val]] v fun r2 w3 => r2 = .bool q1 ∧ Sub v w3) ∧
 ∃ n4 : Int, ((!q1) = false →
 (Trip Try.prog 18 #[.agg #[.int .i64 n2_0, .int .i64 n2_1, x2_2.val]] v fun r5 w6 => r5 = .int .i64 n4 ∧ Sub v w6)) ∧
 ∃ q7 : Bool, (((!q1) || (decide (n4 < 0))) = false →
 (Trip Try.prog 19 #[x0_0.val, x_1.val] v fun r8 w9 => r8 = .bool q7 ∧ Sub v w9)) ∧
 ((((!q1) || (decide (n4 < 0))) || (!q7)) = true →
 Q (.int .i64 (-1)) v) ∧
 ((((!q1) || (decide (n4 < 0))) || (!q7)) = false →
 Trip Try.prog 20 #[.agg #[x0_0.val, x0_1.val]] v fun r10 w11 =>
 ∃ x12 : Sl, ∃ x13 : Sl, r10 = .agg #[x12.val, x13.val] ∧
 Sub v w11 ∧
 Trip Try.prog 22 #[x_1.val] w11 fun r14 w15 =>
 ∃ x16 : Sl, r14 = x16.val ∧
 Sub w11 w15 ∧
 Trip Try.prog 21 #[.agg #[x12.val, x13.val], x16.val, .agg #[.int .i64 n2_0, .int .i64 n2_1, x2_2.val]] w15 fun r17 w18 =>
 ∃ n19 : Int, r17 = .int .i64 n19 ∧
 Q (.int .i64 n19) w18)
theorem of5 (x0_0 : Sl) (x0_1 : Sl) (x_1 : Sl) (n2_0 : Int) (n2_1 : Int) (x2_2 : Sl) (v : World) (Q : Value → World → Prop) (h : vc5 x0_0 x0_1 x_1 n2_0 n2_1 x2_2 v Q) : Trip Try.prog 5 #[.agg #[x0_0.val, x0_1.val], x_1.val, .agg #[.int .i64 n2_0, .int .i64 n2_1, x2_2.val]] v Q :=
 trip_of_eq (args := [.ag [.sl x0_0, .sl x0_1], .sl x_1, .ag [.num .i64 n2_0, .num .i64 n2_1, .sl x2_2]]) (A := ⟨[], [], [(3, [1, 3])], [], psG⟩) Try.func5 (by kernel_rfl) (by kernel_rfl) (by kernel_rfl : vc5 x0_0 x0_1 x_1 n2_0 n2_1 x2_2 v Q = _) h

def vc6 (x0_0 : Sl) (x0_1 : Sl) (x_1 : Sl) (n2_0 : Int) (n2_1 : Int) (x2_2 : Sl) (v : World) (Q : Value → World → Prop) : Prop :=
 ∃ q1 : Bool, (Trip Try.prog 23 #[.agg #[x0_0.val, x0_1.val]] v fun r2 w3 => r2 = .bool q1 ∧ Sub v w3) ∧
 ∃ n4 : Int, ((!q1) = false →
 (Trip Try.prog 24 #[.agg #[.int .i64 n2_0, .int .i64 n2_1, x2_2.val]] v fun r5 w6 => r5 = .int .i64 n4 ∧ Sub v w6)) ∧
 ∃ q7 : Bool, (((!q1) || (decide (n4 < 0))) = false →
 (Trip Try.prog 25 #[x0_0.val, x_1.val] v fun r8 w9 => r8 = .bool q7 ∧ Sub v w9)) ∧
 ((((!q1) || (decide (n4 < 0))) || (!q7)) = true →
 Q (.int .i64 (-1)) v) ∧
 ((((!q1) || (decide (n4 < 0))) || (!q7)) = false →
 ∃ n10 : Int, (Trip Try.prog 26 #[.agg #[x0_0.val, x0_1.val], x_1.val, .agg #[.int .i64 n2_0, .int .i64 n2_1, x2_2.val]] v fun r11 w12 => r11 = .int .i64 n10 ∧ Sub v w12) ∧
 Q (.int .i64 n10) v)
theorem of6 (x0_0 : Sl) (x0_1 : Sl) (x_1 : Sl) (n2_0 : Int) (n2_1 : Int) (x2_2 : Sl) (v : World) (Q : Value → World → Prop) (h : vc6 x0_0 x0_1 x_1 n2_0 n2_1 x2_2 v Q) : Trip Try.prog 6 #[.agg #[x0_0.val, x0_1.val], x_1.val, .agg #[.int .i64 n2_0, .int .i64 n2_1, x2_2.val]] v Q :=
 trip_of_eq (args := [.ag [.sl x0_0, .sl x0_1], .sl x_1, .ag [.num .i64 n2_0, .num .i64 n2_1, .sl x2_2]]) (A := ⟨[], [], [], [], psG⟩) Try.func6 (by kernel_rfl) (by kernel_rfl) (by kernel_rfl : vc6 x0_0 x0_1 x_1 n2_0 n2_1 x2_2 v Q = _) h

def vc7 (n0_0 : Int) (n0_1 : Int) (x0_2 : Sl) (n_1 : Int) (n_2 : Int) (v : World) (Q : Value → World → Prop) : Prop :=
 ∃ n1 : Int, (Trip Try.prog 18 #[.agg #[.int .i64 n0_0, .int .i64 n0_1, x0_2.val]] v fun r2 w3 => r2 = .int .i64 n1 ∧ Sub v w3) ∧
 ((((((decide (n1 < 0)) || (decide (n_1 < 0))) || (decide (n_1 > 99))) || (decide (n_2 < 0))) || (decide (n_2 > 99))) = true →
 Q (.tuple #[.agg #[.int .i64 0, .int .i64 0, .slice none 0 0], .bool false]) v) ∧
 ((((((decide (n1 < 0)) || (decide (n_1 < 0))) || (decide (n_1 > 99))) || (decide (n_2 < 0))) || (decide (n_2 > 99))) = false →
 NewAt v (.cells #[.bool false] 4 (0, 0)) fun a4 w5 =>
 StoreAt w5 a4 0 [.bool true] fun w6 =>
 Trip Try.prog 27 #[.agg #[.int .i64 n0_0, .int .i64 n0_1, x0_2.val], .func (.func 28) #[] #[.pointer (some (a4.add 0))]] w6 fun r7 w8 =>
 r7 = .tuple #[] ∧
 ∃ q9 : Bool, w8.cell? (a4.add 0) = some (.bool q9) ∧
 ((!q9) = true →
 Q (.tuple #[.agg #[.int .i64 0, .int .i64 0, .slice none 0 0], .bool false]) w8) ∧
 ((!q9) = false →
 Trip Try.prog 29 #[.agg #[.int .i64 n0_0, .int .i64 n0_1, x0_2.val], .int .i64 n_1, .int .i64 n_2] w8 fun r10 w11 =>
 ∃ n12 : Int, ∃ n13 : Int, ∃ x14 : Sl, r10 = .agg #[.int .i64 n12, .int .i64 n13, x14.val] ∧
 Q (.tuple #[.agg #[.int .i64 n12, .int .i64 n13, x14.val], .bool true]) w11))
theorem of7 (n0_0 : Int) (n0_1 : Int) (x0_2 : Sl) (n_1 : Int) (n_2 : Int) (v : World) (Q : Value → World → Prop) (h : vc7 n0_0 n0_1 x0_2 n_1 n_2 v Q) : Trip Try.prog 7 #[.agg #[.int .i64 n0_0, .int .i64 n0_1, x0_2.val], .int .i64 n_1, .int .i64 n_2] v Q :=
 trip_of_eq (args := [.ag [.num .i64 n0_0, .num .i64 n0_1, .sl x0_2], .num .i64 n_1, .num .i64 n_2]) (A := ⟨[], [], [], [8], psG⟩) Try.func7 (by kernel_rfl) (by kernel_rfl) (by kernel_rfl : vc7 n0_0 n0_1 x0_2 n_1 n_2 v Q = _) h

def vc8 (x_0 : Sl) (x_1 : Sl) (v : World) (Q : Value → World → Prop) : Prop :=
 StepT Try.prog (Instr.buildSlice 27 0 #[]) v fun r1 w2 =>
 ∃ x3 : Sl, r1 = x3.val ∧
 StepT Try.prog (Builtin.append_ #[27, 27] 27 #[(x3.val), (x_0.val)]) w2 fun r4 w5 =>
 ∃ x6 : Sl, r4 = x6.val ∧
 StepT Try.prog (Builtin.append_ #[27, 27] 27 #[(x6.val), (x_1.val)]) w5 fun r7 w8 =>
 ∃ x9 : Sl, r7 = x9.val ∧
 Q (x9.val) w8
theorem of8 (x_0 : Sl) (x_1 : Sl) (v : World) (Q : Value → World → Prop) (h : vc8 x_0 x_1 v Q) : Trip Try.prog 8 #[x_0.val, x_1.val] v Q :=
 trip_of_eq (args := [.sl x_0, .sl x_1]) (A := ⟨[], [], [], [], psG⟩) Try.func8 (by kernel_rfl) (by kernel_rfl) (by kernel_rfl : vc8 x_0 x_1 v Q = _) h

def vc9 (x_0 : Sl) (v : World) (Q : Value → World → Prop) : Prop :=
 ((decide ((x_0.n : Int) > 2000)) = true →
 CutOk x_0 0 2000 ∧
 NewAt v (.cells #[(x_0.cut 0 2000 1).val, .int .i64 0] 62 (0, 0)) fun a1 w2 =>
 Q (.pointer (some (a1.add 0))) w2) ∧
 ((decide ((x_0.n : Int) > 2000)) = false →
 NewAt v (.cells #[x_0.val, .int .i64 0] 62 (0, 0)) fun a3 w4 =>
 Q (.pointer (some (a3.add 0))) w4)
theorem of9 (x_0 : Sl) (v : World) (Q : Value → World → Prop) (h : vc9 x_0 v Q) : Trip Try.prog 9 #[x_0.val] v Q :=
 trip_of_eq (args := [.sl x_0]) (A := ⟨[], [], [], [10], psG⟩) Try.func9 (by kernel_rfl) (by kernel_rfl) (by kernel_rfl : vc9 x_0 v Q = _) h

def vc10 (a_0 : Addr) (v : World) (Q : Value → World → Prop) : Prop :=
 Trip Try.prog 30 #[.pointer (some (a_0.add 0))] v fun r1 w2 =>
 ∃ x3 : Sl, ∃ x4 : Sl, r1 = .agg #[x3.val, x4.val] ∧
 Trip Try.prog 12 #[.pointer (some (a_0.add 0)), .int .i64 (x4.n : Int)] w2 fun r5 w6 =>
 ∃ n7 : Int, r5 = .int .i64 n7 ∧
 Q (.tuple #[.agg #[x3.val, x4.val], .int .i64 n7]) w6
theorem of10 (a_0 : Addr) (v : World) (Q : Value → World → Prop) (h : vc10 a_0 v Q) : Trip Try.prog 10 #[.pointer (some (a_0.add 0))] v Q :=
 trip_of_eq (args := [.pt a_0 0]) (A := ⟨[], [], [(2, [])], [], psG⟩) Try.func10 (by kernel_rfl) (by kernel_rfl) (by kernel_rfl : vc10 a_0 v Q = _) h

def vc11 (x_0 : Sl) (v : World) (Q : Value → World → Prop) : Prop :=
 StepT Try.prog (Instr.buildSlice 27 0 #[]) v fun r1 w2 =>
 ∃ x3 : Sl, r1 = x3.val ∧
 StepT Try.prog (Builtin.append_ #[27, 27] 27 #[(x3.val), (x_0.val)]) w2 fun r4 w5 =>
 ∃ x6 : Sl, r4 = x6.val ∧
 Q (x6.val) w5
theorem of11 (x_0 : Sl) (v : World) (Q : Value → World → Prop) (h : vc11 x_0 v Q) : Trip Try.prog 11 #[x_0.val] v Q :=
 trip_of_eq (args := [.sl x_0]) (A := ⟨[], [], [], [], psG⟩) Try.func11 (by kernel_rfl) (by kernel_rfl) (by kernel_rfl : vc11 x_0 v Q = _) h

def vc12 (a_0 : Addr) (n_1 : Int) (v : World) (Q : Value → World → Prop) : Prop :=
 ∃ n1 : Int, v.cell? (a_0.add 1) = some (.int .i64 n1) ∧
 ∃ n2 : Int, Wr .i64 (n1 + 1) n2 ∧
 StoreAt v a_0 1 [.int .i64 n2] fun w3 =>
 ∃ x4 : Sl, ((decide (n_1 < 1)) = false →
 w3.cell? (a_0.add 0) = some (x4.val)) ∧
 (((decide (n_1 < 1)) || (decide ((x4.n : Int) = 0))) = true →
 Q (.int .i64 0) w3) ∧
 (((decide (n_1 < 1)) || (decide ((x4.n : Int) = 0))) = false →
 ∃ n5 : Int, w3.cell? (a_0.add 1) = some (.int .i64 n5) ∧
 ∃ n6 : Int, Wr .i64 (n5 - 1) n6 ∧
 ∃ x7 : Sl, w3.cell? (a_0.add 0) = some (x7.val) ∧
 ((decide (n6 < (x7.n : Int))) = true →
 ∃ x8 : Sl, w3.cell? (a_0.add 0) = some (x8.val) ∧
 IxOk x8 n6 ∧
 ∃ n9 : Int, w3.cell? ((elA x8 n6 1).add 0) = some (.int .u8 n9) ∧
 ∃ n10 : Int, Wr .i64 n9 n10 ∧
 (n_1 : Int) ≠ 0 ∧
 Q (.int .i64 (Int.tmod n10 n_1)) w3) ∧
 ((decide (n6 < (x7.n : Int))) = false →
 ∃ x11 : Sl, w3.cell? (a_0.add 0) = some (x11.val) ∧
 ∃ x12 : Sl, w3.cell? (a_0.add 0) = some (x12.val) ∧
 ((x12.n : Int) : Int) ≠ 0 ∧
 IxOk x11 (Int.tmod n6 (x12.n : Int)) ∧
 ∃ n13 : Int, w3.cell? ((elA x11 (Int.tmod n6 (x12.n : Int)) 1).add 0) = some (.int .u8 n13) ∧
 ∃ n14 : Int, Wr .i64 n13 n14 ∧
 ∃ n15 : Int, Wr .i64 (n14 * 131) n15 ∧
 ∃ x16 : Sl, w3.cell? (a_0.add 0) = some (x16.val) ∧
 ∃ n17 : Int, Wr .i64 (n6 * 7) n17 ∧
 ∃ n18 : Int, Wr .i64 (n17 + 3) n18 ∧
 ∃ x19 : Sl, w3.cell? (a_0.add 0) = some (x19.val) ∧
 ((x19.n : Int) : Int) ≠ 0 ∧
 IxOk x16 (Int.tmod n18 (x19.n : Int)) ∧
 ∃ n20 : Int, w3.cell? ((elA x16 (Int.tmod n18 (x19.n : Int)) 1).add 0) = some (.int .u8 n20) ∧
 ∃ n21 : Int, Wr .i64 n20 n21 ∧
 ∃ n22 : Int, Wr .i64 (n21 * 1117) n22 ∧
 ∃ n23 : Int, Wr .i64 (n15 + n22) n23 ∧
 ∃ n24 : Int, Wr .i64 (n6 * 29) n24 ∧
 ∃ n25 : Int, Wr .i64 (n23 + n24) n25 ∧
 ∃ x26 : Sl, w3.cell? (a_0.add 0) = some (x26.val) ∧
 ∃ n27 : Int, (((x26.n : Int) : Int) ≠ 0 ∧ Wr .i64 (Int.tdiv n6 (x26.n : Int)) n27) ∧
 ∃ n28 : Int, Wr .i64 (n27 * 53) n28 ∧
 ∃ n29 : Int, Wr .i64 (n25 + n28) n29 ∧
 ∃ n30 : Int, ((64 : Int) ≠ 0 ∧ Wr .i64 (Int.tdiv n29 64) n30) ∧
 ∃ n31 : Int, PureT Try.prog (do eqGuard .xor 3 (.tmp 92) (.tmp 94) (.int .i64 n29) (.int .i64 n30); binOp .xor 3 (.int .i64 n29) (.int .i64 n30)) w3 (.int .i64 n31) ∧
 (n_1 : Int) ≠ 0 ∧
 Q (.int .i64 (Int.tmod n31 n_1)) w3))
theorem of12 (a_0 : Addr) (n_1 : Int) (v : World) (Q : Value → World → Prop) (h : vc12 a_0 n_1 v Q) : Trip Try.prog 12 #[.pointer (some (a_0.add 0)), .int .i64 n_1] v Q :=
 trip_of_eq (args := [.pt a_0 0, .num .i64 n_1]) (A := ⟨[], [], [], [], psG⟩) Try.func12 (by kernel_rfl) (by kernel_rfl) (by kernel_rfl : vc12 a_0 n_1 v Q = _) h

def vc13 (a_0 : Addr) (x1_0 : Sl) (x1_1 : Sl) (x_2 : Sl) (n_3 : Int) (n_4 : Int) (v : World) (Q : Value → World → Prop) : Prop :=
 Trip Try.prog 31 #[.pointer (some (a_0.add 0)), .agg #[x1_0.val, x1_1.val], x_2.val, .int .i64 n_3, .int .i64 n_4] v fun r1 w2 =>
 ∃ n3 : Int, ∃ n4 : Int, ∃ x5 : Sl, r1 = .agg #[.int .i64 n3, .int .i64 n4, x5.val] ∧
 ∃ I6 : Int → Int → Int → Sl → World → Prop, ∃ m7 : Int → Int → Int → Sl → World → Nat, I6 n_4 n3 n4 x5 w2 ∧
 ∀ n8 : Int, ∀ n9 : Int, ∀ n10 : Int, ∀ x11 : Sl, ∀ w12 : World, I6 n8 n9 n10 x11 w12 →
 ∃ n13 : Int, (Trip Try.prog 24 #[.agg #[.int .i64 n9, .int .i64 n10, x11.val]] w12 fun r14 w15 => r14 = .int .i64 n13 ∧ Sub w12 w15) ∧
 (((decide (n13 < 0)) && (decide (n8 > 2))) = true →
 ∃ n16 : Int, ((2 : Int) ≠ 0 ∧ Wr .i64 (Int.tdiv n8 2) n16) ∧
 Trip Try.prog 31 #[.pointer (some (a_0.add 0)), .agg #[x1_0.val, x1_1.val], x_2.val, .int .i64 n_3, .int .i64 n16] w12 fun r17 w18 =>
 ∃ n19 : Int, ∃ n20 : Int, ∃ x21 : Sl, r17 = .agg #[.int .i64 n19, .int .i64 n20, x21.val] ∧
 eqS (.sl x1_0) ∧
 eqS (.sl x1_1) ∧
 eqS (.num .i64 0) ∧
 eqS (.num .i64 0) ∧
 eqS (.sl (Sl.mk none 0 0)) ∧
 I6 n16 n19 n20 x21 w18 ∧
 m7 n16 n19 n20 x21 w18 < m7 n8 n9 n10 x11 w12) ∧
 (((decide (n13 < 0)) && (decide (n8 > 2))) = false →
 Q (.agg #[.int .i64 n9, .int .i64 n10, x11.val]) w12)
theorem of13 (a_0 : Addr) (x1_0 : Sl) (x1_1 : Sl) (x_2 : Sl) (n_3 : Int) (n_4 : Int) (v : World) (Q : Value → World → Prop) (h : vc13 a_0 x1_0 x1_1 x_2 n_3 n_4 v Q) : Trip Try.prog 13 #[.pointer (some (a_0.add 0)), .agg #[x1_0.val, x1_1.val], x_2.val, .int .i64 n_3, .int .i64 n_4] v Q :=
 trip_of_eq (args := [.pt a_0 0, .ag [.sl x1_0, .sl x1_1], .sl x_2, .num .i64 n_3, .num .i64 n_4]) (A := ⟨[(2, [(4, .int .i64)], [(2, 0, .int .i64), (2, 1, .int .i64), (2, 2, .sl)])], [], [], [], psG⟩) Try.func13 (by kernel_rfl) (by kernel_rfl) (by kernel_rfl : vc13 a_0 x1_0 x1_1 x_2 n_3 n_4 v Q = _) h

def vc14 (a_0 : Addr) (x_1 : Sl) (v : World) (Q : Value → World → Prop) : Prop :=
 Trip Try.prog 12 #[.pointer (some (a_0.add 0)), .int .i64 (x_1.n : Int)] v fun r1 w2 =>
 ∃ n3 : Int, r1 = .int .i64 n3 ∧
 IxOk x_1 n3 ∧
 ∃ n4 : Int, w2.cell? ((elA x_1 n3 1).add 0) = some (.int .i64 n4) ∧
 Q (.int .i64 n4) w2
theorem of14 (a_0 : Addr) (x_1 : Sl) (v : World) (Q : Value → World → Prop) (h : vc14 a_0 x_1 v Q) : Trip Try.prog 14 #[.pointer (some (a_0.add 0)), x_1.val] v Q :=
 trip_of_eq (args := [.pt a_0 0, .sl x_1]) (A := ⟨[], [], [], [], psG⟩) Try.func14 (by kernel_rfl) (by kernel_rfl) (by kernel_rfl : vc14 a_0 x_1 v Q = _) h

def vc15 (a_0 : Addr) (n1_0 : Int) (n1_1 : Int) (x1_2 : Sl) (v : World) (Q : Value → World → Prop) : Prop :=
 ∃ J1 : World → Prop, (((decide ((x1_2.n : Int) > 0)) = true →
 Trip Try.prog 12 #[.pointer (some (a_0.add 0)), .int .i64 3] v fun r2 w3 =>
 ∃ n4 : Int, r2 = .int .i64 n4 ∧
 ((decide (n4 > 0)) = true →
 Trip Try.prog 32 #[x1_2.val] w3 fun r5 w6 =>
 ∃ x7 : Sl, r5 = x7.val ∧
 Trip Try.prog 12 #[.pointer (some (a_0.add 0)), .int .i64 (x7.n : Int)] w6 fun r8 w9 =>
 ∃ n10 : Int, r8 = .int .i64 n10 ∧
 IxOk x7 n10 ∧
 ldT w9 x7 n10 fun n11 n12 x13 =>
 Trip Try.prog 15 #[.pointer (some (a_0.add 0)), .agg #[.int .i64 n11, .int .i64 n12, x13.val]] w9 fun r14 w15 =>
 ∃ n16 : Int, ∃ n17 : Int, ∃ x18 : Sl, r14 = .agg #[.int .i64 n16, .int .i64 n17, x18.val] ∧
 IxOk x7 n10 ∧
 StoreAt w15 (elA x7 n10 3) 0 [.int .i64 n16, .int .i64 n17, x18.val] fun w19 =>
 Trip Try.prog 33 #[.int .i64 n1_0, .int .i64 n1_1, x7.val] w19 fun r20 w21 =>
 ∃ n22 : Int, ∃ n23 : Int, ∃ x24 : Sl, r20 = .agg #[.int .i64 n22, .int .i64 n23, x24.val] ∧
 Q (.agg #[.int .i64 n22, .int .i64 n23, x24.val]) w21) ∧
 ((decide (n4 > 0)) = false →
 eqS (.num .i64 n1_0) ∧
 eqS (.num .i64 n1_1) ∧
 eqS (.sl x1_2) ∧
 eqS (.num .i64 0) ∧
 eqS (.num .i64 0) ∧
 eqS (.sl (Sl.mk none 0 0)) ∧
 J1 w3)) ∧
 ((decide ((x1_2.n : Int) > 0)) = false →
 eqS (.num .i64 n1_0) ∧
 eqS (.num .i64 n1_1) ∧
 eqS (.sl x1_2) ∧
 eqS (.num .i64 0) ∧
 eqS (.num .i64 0) ∧
 eqS (.sl (Sl.mk none 0 0)) ∧
 J1 v)) ∧
 ∀ w25 : World, J1 w25 →
 Trip Try.prog 12 #[.pointer (some (a_0.add 0)), .int .i64 5] w25 fun r26 w27 =>
 ∃ n28 : Int, r26 = .int .i64 n28 ∧
 ((decide (n28 = 0)) = true →
 Trip Try.prog 12 #[.pointer (some (a_0.add 0)), .int .i64 15] w27 fun r29 w30 =>
 ∃ n31 : Int, r29 = .int .i64 n31 ∧
 Trip Try.prog 33 #[.int .i64 n31, .int .i64 n1_1, x1_2.val] w30 fun r32 w33 =>
 ∃ n34 : Int, ∃ n35 : Int, ∃ x36 : Sl, r32 = .agg #[.int .i64 n34, .int .i64 n35, x36.val] ∧
 Q (.agg #[.int .i64 n34, .int .i64 n35, x36.val]) w33) ∧
 ((decide (n28 = 0)) = false →
 ((decide (n28 = 1)) = true →
 StepT Try.prog (Instr.buildSlice 27 4 #[(0, (.int .i64 1)), (1, (.int .i64 (-1))), (2, (.int .i64 1000)), (3, (.int .i64 2))]) w27 fun r37 w38 =>
 ∃ x39 : Sl, r37 = x39.val ∧
 Trip Try.prog 14 #[.pointer (some (a_0.add 0)), x39.val] w38 fun r40 w41 =>
 ∃ n42 : Int, r40 = .int .i64 n42 ∧
 ∃ n43 : Int, Wr .i64 (n1_1 + n42) n43 ∧
 Trip Try.prog 33 #[.int .i64 n1_0, .int .i64 n43, x1_2.val] w41 fun r44 w45 =>
 ∃ n46 : Int, ∃ n47 : Int, ∃ x48 : Sl, r44 = .agg #[.int .i64 n46, .int .i64 n47, x48.val] ∧
 Q (.agg #[.int .i64 n46, .int .i64 n47, x48.val]) w45) ∧
 ((decide (n28 = 1)) = false →
 ((decide (n28 = 2)) = true →
 Trip Try.prog 32 #[x1_2.val] w27 fun r49 w50 =>
 ∃ x51 : Sl, r49 = x51.val ∧
 Trip Try.prog 34 #[.int .i64 1] w50 fun r52 w53 =>
 ∃ n54 : Int, ∃ n55 : Int, ∃ x56 : Sl, r52 = .agg #[.int .i64 n54, .int .i64 n55, x56.val] ∧
 StepT Try.prog (Instr.buildSlice 28 1 #[(0, (.agg #[.int .i64 n54, .int .i64 n55, x56.val]))]) w53 fun r57 w58 =>
 ∃ x59 : Sl, r57 = x59.val ∧
 StepT Try.prog (Builtin.append_ #[28, 28] 28 #[(x51.val), (x59.val)]) w58 fun r60 w61 =>
 ∃ x62 : Sl, r60 = x62.val ∧
 Trip Try.prog 33 #[.int .i64 n1_0, .int .i64 n1_1, x62.val] w61 fun r63 w64 =>
 ∃ n65 : Int, ∃ n66 : Int, ∃ x67 : Sl, r63 = .agg #[.int .i64 n65, .int .i64 n66, x67.val] ∧
 Q (.agg #[.int .i64 n65, .int .i64 n66, x67.val]) w64) ∧
 ((decide (n28 = 2)) = false →
 ((decide (n28 = 3)) = true →
 StepT Try.prog (Instr.buildSlice 27 6 #[(0, (.int .i64 0)), (1, (.int .i64 1)), (2, (.int .i64 2)), (3, (.int .i64 5)), (4, (.int .i64 100)), (5, (.int .i64 (-1)))]) w27 fun r68 w69 =>
 ∃ x70 : Sl, r68 = x70.val ∧
 Trip Try.prog 14 #[.pointer (some (a_0.add 0)), x70.val] w69 fun r71 w72 =>
 ∃ n73 : Int, r71 = .int .i64 n73 ∧
 Trip Try.prog 35 #[.int .i64 n73] w72 fun r74 w75 =>
 ∃ n76 : Int, ∃ n77 : Int, ∃ x78 : Sl, r74 = .agg #[.int .i64 n76, .int .i64 n77, x78.val] ∧
 Q (.agg #[.int .i64 n76, .int .i64 n77, x78.val]) w75) ∧
 ((decide (n28 = 3)) = false →
 StepT Try.prog (Instr.buildSlice 27 4 #[(0, (.int .i64 0)), (1, (.int .i64 1000)), (2, (.int .i64 (-1000))), (3, (.int .i64 5))]) w27 fun r79 w80 =>
 ∃ x81 : Sl, r79 = x81.val ∧
 Trip Try.prog 14 #[.pointer (some (a_0.add 0)), x81.val] w80 fun r82 w83 =>
 ∃ n84 : Int, r82 = .int .i64 n84 ∧
 Trip Try.prog 34 #[.int .i64 n84] w83 fun r85 w86 =>
 ∃ n87 : Int, ∃ n88 : Int, ∃ x89 : Sl, r85 = .agg #[.int .i64 n87, .int .i64 n88, x89.val] ∧
 Q (.agg #[.int .i64 n87, .int .i64 n88, x89.val]) w86))))
theorem of15 (a_0 : Addr) (n1_0 : Int) (n1_1 : Int) (x1_2 : Sl) (v : World) (Q : Value → World → Prop) (h : vc15 a_0 n1_0 n1_1 x1_2 v Q) : Trip Try.prog 15 #[.pointer (some (a_0.add 0)), .agg #[.int .i64 n1_0, .int .i64 n1_1, x1_2.val]] v Q :=
 trip_of_eq (args := [.pt a_0 0, .ag [.num .i64 n1_0, .num .i64 n1_1, .sl x1_2]]) (A := ⟨[], [(6, [], [])], [(8, []), (10, []), (12, [])], [], psG⟩) Try.func15 (by kernel_rfl) (by kernel_rfl) (by kernel_rfl : vc15 a_0 n1_0 n1_1 x1_2 v Q = _) h

def vc16 (a_0 : Addr) (x1_0 : Sl) (x1_1 : Sl) (v : World) (Q : Value → World → Prop) : Prop :=
 Trip Try.prog 12 #[.pointer (some (a_0.add 0)), .int .i64 (x1_1.n : Int)] v fun r1 w2 =>
 ∃ n3 : Int, r1 = .int .i64 n3 ∧
 IxOk x1_1 n3 ∧
 ldF w2 x1_1 n3 fun x4 n5 n6 n7 x8 =>
 Trip Try.prog 12 #[.pointer (some (a_0.add 0)), .int .i64 24] w2 fun r9 w10 =>
 ∃ n11 : Int, r9 = .int .i64 n11 ∧
 ((decide (n11 = 0)) = true →
 Trip Try.prog 15 #[.pointer (some (a_0.add 0)), .agg #[.int .i64 n6, .int .i64 n7, x8.val]] w10 fun r12 w13 =>
 ∃ n14 : Int, ∃ n15 : Int, ∃ x16 : Sl, r12 = .agg #[.int .i64 n14, .int .i64 n15, x16.val] ∧
 IxOk x1_1 n3 ∧
 StoreAt w13 (elA x1_1 n3 5) 0 [x4.val, .int .i64 n5, .int .i64 n14, .int .i64 n15, x16.val] fun w17 =>
 Q (.agg #[x1_0.val, x1_1.val]) w17) ∧
 ((decide (n11 = 0)) = false →
 ((decide (n11 = 1)) = true →
 StepT Try.prog (Instr.buildSlice 27 4 #[(0, (.int .i64 0)), (1, (.int .i64 1)), (2, (.int .i64 9)), (3, (.int .i64 (-1)))]) w10 fun r18 w19 =>
 ∃ x20 : Sl, r18 = x20.val ∧
 Trip Try.prog 14 #[.pointer (some (a_0.add 0)), x20.val] w19 fun r21 w22 =>
 ∃ n23 : Int, r21 = .int .i64 n23 ∧
 StepT Try.prog (Instr.buildSlice 27 1 #[(0, (.int .i64 n23))]) w22 fun r24 w25 =>
 ∃ x26 : Sl, r24 = x26.val ∧
 Trip Try.prog 36 #[x4.val, x26.val] w25 fun r27 w28 =>
 ∃ x29 : Sl, r27 = x29.val ∧
 IxOk x1_1 n3 ∧
 StoreAt w28 (elA x1_1 n3 5) 0 [x29.val, .int .i64 n5, .int .i64 n6, .int .i64 n7, x8.val] fun w30 =>
 Q (.agg #[x1_0.val, x1_1.val]) w30) ∧
 ((decide (n11 = 1)) = false →
 ((decide (n11 = 2)) = true →
 StepT Try.prog (Instr.buildSlice 27 5 #[(0, (.int .i64 0)), (1, (.int .i64 1)), (2, (.int .i64 3)), (3, (.int .i64 5)), (4, (.int .i64 (-1)))]) w10 fun r31 w32 =>
 ∃ x33 : Sl, r31 = x33.val ∧
 Trip Try.prog 14 #[.pointer (some (a_0.add 0)), x33.val] w32 fun r34 w35 =>
 ∃ n36 : Int, r34 = .int .i64 n36 ∧
 IxOk x1_1 n3 ∧
 StoreAt w35 (elA x1_1 n3 5) 0 [x4.val, .int .i64 n36, .int .i64 n6, .int .i64 n7, x8.val] fun w37 =>
 Q (.agg #[x1_0.val, x1_1.val]) w37) ∧
 ((decide (n11 = 2)) = false →
 ((decide (n11 = 3)) = true →
 Trip Try.prog 37 #[.pointer (some (a_0.add 0))] w10 fun r38 w39 =>
 ∃ x40 : Sl, r38 = x40.val ∧
 Q (.agg #[x40.val, x1_1.val]) w39) ∧
 ((decide (n11 = 3)) = false →
 ((decide (n11 = 4)) = true →
 StepT Try.prog (Instr.buildSlice 24 1 #[(0, (.agg #[x4.val, .int .i64 n5, .int .i64 n6, .int .i64 n7, x8.val]))]) w10 fun r41 w42 =>
 ∃ x43 : Sl, r41 = x43.val ∧
 StepT Try.prog (Builtin.append_ #[24, 24] 24 #[(x1_1.val), (x43.val)]) w42 fun r44 w45 =>
 ∃ x46 : Sl, r44 = x46.val ∧
 Q (.agg #[x1_0.val, x46.val]) w45) ∧
 ((decide (n11 = 4)) = false →
 Q (.agg #[x1_0.val, x1_1.val]) w10)))))
theorem of16 (a_0 : Addr) (x1_0 : Sl) (x1_1 : Sl) (v : World) (Q : Value → World → Prop) (h : vc16 a_0 x1_0 x1_1 v Q) : Trip Try.prog 16 #[.pointer (some (a_0.add 0)), .agg #[x1_0.val, x1_1.val]] v Q :=
 trip_of_eq (args := [.pt a_0 0, .ag [.sl x1_0, .sl x1_1]]) (A := ⟨[], [], [(5, []), (7, []), (9, [])], [], psG⟩) Try.func16 (by kernel_rfl) (by kernel_rfl) (by kernel_rfl : vc16 a_0 x1_0 x1_1 v Q = _) h

def vc17 (x0_0 : Sl) (x0_1 : Sl) (v : World) (Q : Value → World → Prop) : Prop :=
 StepT Try.prog (Instr.makeSlice 53 (.int .i64 0) (.int .i64 4)) v fun r1 w2 =>
 ∃ x3 : Sl, r1 = x3.val ∧
 ((decide ((x0_1.n : Int) > 4)) = true →
 Q (.bool false) w2) ∧
 ((decide ((x0_1.n : Int) > 4)) = false →
 ∃ I4 : Sl → Int → World → Prop, ∃ m5 : Sl → Int → World → Nat, I4 x3 0 w2 ∧
 ∀ x6 : Sl, ∀ n7 : Int, ∀ w8 : World, I4 x6 n7 w8 →
 ((decide (n7 < (x0_1.n : Int))) = true →
 IxOk x0_1 n7 ∧
 ldF w8 x0_1 n7 fun x9 n10 n11 n12 x13 =>
 StepT Try.prog (Instr.buildSlice 53 1 #[(0, (.agg #[x9.val, .slice none 0 0, .int .i64 n10]))]) w8 fun r14 w15 =>
 ∃ x16 : Sl, r14 = x16.val ∧
 StepT Try.prog (Builtin.append_ #[53, 53] 53 #[(x6.val), (x16.val)]) w15 fun r17 w18 =>
 ∃ x19 : Sl, r17 = x19.val ∧
 ∃ n20 : Int, Wr .i64 (n7 + 1) n20 ∧
 eqS (.sl x0_0) ∧
 eqS (.sl x0_1) ∧
 I4 x19 n20 w18 ∧
 m5 x19 n20 w18 < m5 x6 n7 w8) ∧
 ((decide (n7 < (x0_1.n : Int))) = false →
 ∃ q21 : Bool, (Trip Try.prog 38 #[x0_0.val, x6.val] w8 fun r22 w23 => r22 = .bool q21 ∧ Sub w8 w23) ∧
 Q (.bool q21) w8))
theorem of17 (x0_0 : Sl) (x0_1 : Sl) (v : World) (Q : Value → World → Prop) (h : vc17 x0_0 x0_1 v Q) : Trip Try.prog 17 #[.agg #[x0_0.val, x0_1.val]] v Q :=
 trip_of_eq (args := [.ag [.sl x0_0, .sl x0_1]]) (A := ⟨[(5, [(3, .sl), (14, .int .i64)], [])], [], [], [], psG⟩) Try.func17 (by kernel_rfl) (by kernel_rfl) (by kernel_rfl : vc17 x0_0 x0_1 v Q = _) h

def vc18 (n0_0 : Int) (n0_1 : Int) (x0_2 : Sl) (v : World) (Q : Value → World → Prop) : Prop :=
 NewAt v (.cells #[.int .i64 0] 3 (0, 0)) fun a1 w2 =>
 StoreAt w2 a1 0 [.int .i64 0] fun w3 =>
 Trip Try.prog 39 #[.agg #[.int .i64 n0_0, .int .i64 n0_1, x0_2.val], .pointer (some (a1.add 0))] w3 fun r4 w5 =>
 ∃ q6 : Bool, r4 = .bool q6 ∧
 ((!q6) = true →
 Q (.int .i64 (-1)) w5) ∧
 ((!q6) = false →
 ∃ n7 : Int, w5.cell? (a1.add 0) = some (.int .i64 n7) ∧
 Q (.int .i64 n7) w5)
theorem of18 (n0_0 : Int) (n0_1 : Int) (x0_2 : Sl) (v : World) (Q : Value → World → Prop) (h : vc18 n0_0 n0_1 x0_2 v Q) : Trip Try.prog 18 #[.agg #[.int .i64 n0_0, .int .i64 n0_1, x0_2.val]] v Q :=
 trip_of_eq (args := [.ag [.num .i64 n0_0, .num .i64 n0_1, .sl x0_2]]) (A := ⟨[], [], [], [3], psG⟩) Try.func18 (by kernel_rfl) (by kernel_rfl) (by kernel_rfl : vc18 n0_0 n0_1 x0_2 v Q = _) h

def vc19 (x_0 : Sl) (x_1 : Sl) (v : World) (Q : Value → World → Prop) : Prop :=
 ∃ I1 : Int → World → Prop, ∃ m2 : Int → World → Nat, I1 0 v ∧
 ∀ n3 : Int, ∀ w4 : World, I1 n3 w4 →
 ((decide (n3 < (x_1.n : Int))) = true →
 IxOk x_1 n3 ∧
 ∃ n5 : Int, w4.cell? ((elA x_1 n3 1).add 0) = some (.int .i64 n5) ∧
 ∃ q6 : Bool, (Trip Try.prog 40 #[x_0.val, .int .i64 n5] w4 fun r7 w8 => r7 = .bool q6 ∧ Sub w4 w8) ∧
 ((!q6) = true →
 Q (.bool false) w4) ∧
 ((!q6) = false →
 ∃ n9 : Int, Wr .i64 (n3 + 1) n9 ∧
 I1 n9 w4 ∧
 m2 n9 w4 < m2 n3 w4)) ∧
 ((decide (n3 < (x_1.n : Int))) = false →
 Q (.bool true) w4)
theorem of19 (x_0 : Sl) (x_1 : Sl) (v : World) (Q : Value → World → Prop) (h : vc19 x_0 x_1 v Q) : Trip Try.prog 19 #[x_0.val, x_1.val] v Q :=
 trip_of_eq (args := [.sl x_0, .sl x_1]) (A := ⟨[(2, [(9, .int .i64)], [])], [], [], [], psG⟩) Try.func19 (by kernel_rfl) (by kernel_rfl) (by kernel_rfl : vc19 x_0 x_1 v Q = _) h

def vc20 (x0_0 : Sl) (x0_1 : Sl) (v : World) (Q : Value → World → Prop) : Prop :=
 ∃ I1 : Int → Sl → World → Prop, ∃ m2 : Int → Sl → World → Nat, I1 0 (Sl.mk none 0 0) v ∧
 ∀ n3 : Int, ∀ x4 : Sl, ∀ w5 : World, I1 n3 x4 w5 →
 ((decide (n3 < (x0_1.n : Int))) = true →
 IxOk x0_1 n3 ∧
 ldF w5 x0_1 n3 fun x6 n7 n8 n9 x10 =>
 StepT Try.prog (Instr.buildSlice 53 1 #[(0, (.agg #[x6.val, .slice none 0 0, .int .i64 n7]))]) w5 fun r11 w12 =>
 ∃ x13 : Sl, r11 = x13.val ∧
 StepT Try.prog (Builtin.append_ #[53, 53] 53 #[(x4.val), (x13.val)]) w12 fun r14 w15 =>
 ∃ x16 : Sl, r14 = x16.val ∧
 ∃ n17 : Int, Wr .i64 (n3 + 1) n17 ∧
 eqS (.sl x0_0) ∧
 eqS (.sl x0_1) ∧
 eqS (.sl (Sl.mk none 0 0)) ∧
 eqS (.sl (Sl.mk none 0 0)) ∧
 eqS (.sl x0_0) ∧
 I1 n17 x16 w15 ∧
 m2 n17 x16 w15 < m2 n3 x4 w5) ∧
 ((decide (n3 < (x0_1.n : Int))) = false →
 Q (.agg #[x0_0.val, x4.val]) w5)
theorem of20 (x0_0 : Sl) (x0_1 : Sl) (v : World) (Q : Value → World → Prop) (h : vc20 x0_0 x0_1 v Q) : Trip Try.prog 20 #[.agg #[x0_0.val, x0_1.val]] v Q :=
 trip_of_eq (args := [.ag [.sl x0_0, .sl x0_1]]) (A := ⟨[(3, [(12, .int .i64)], [(2, 1, .sl)])], [], [], [], psG⟩) Try.func20 (by kernel_rfl) (by kernel_rfl) (by kernel_rfl : vc20 x0_0 x0_1 v Q = _) h

def vc21 (x0_0 : Sl) (x0_1 : Sl) (x_1 : Sl) (n2_0 : Int) (n2_1 : Int) (x2_2 : Sl) (v : World) (Q : Value → World → Prop) : Prop :=
 ((decide (n2_0 = 12)) = true →
 ((((decide ((x2_2.n : Int) > 0)) || (decide (n2_1 < 0))) || (decide (n2_1 ≥ (x_1.n : Int)))) = true →
 Q (.int .i64 (-1)) v) ∧
 ((((decide ((x2_2.n : Int) > 0)) || (decide (n2_1 < 0))) || (decide (n2_1 ≥ (x_1.n : Int)))) = false →
 IxOk x_1 n2_1 ∧
 ∃ n1 : Int, v.cell? ((elA x_1 n2_1 1).add 0) = some (.int .i64 n1) ∧
 Q (.int .i64 n1) v)) ∧
 ((decide (n2_0 = 12)) = false →
 ((decide (n2_0 = 13)) = true →
 (((!decide ((x2_2.n : Int) = 2)) || (!decide (n2_1 = 0))) = true →
 Q (.int .i64 (-1)) v) ∧
 (((!decide ((x2_2.n : Int) = 2)) || (!decide (n2_1 = 0))) = false →
 IxOk x2_2 0 ∧
 ldT v x2_2 0 fun n2 n3 x4 =>
 Trip Try.prog 21 #[.agg #[x0_0.val, x0_1.val], x_1.val, .agg #[.int .i64 n2, .int .i64 n3, x4.val]] v fun r5 w6 =>
 ∃ n7 : Int, r5 = .int .i64 n7 ∧
 ((decide (n7 < 0)) = true →
 Q (.int .i64 (-1)) w6) ∧
 ((decide (n7 < 0)) = false →
 (StepT Try.prog (Instr.buildSlice 27 1 #[(0, (.int .i64 n7))]) w6 fun r8 w9 =>
 ∃ x10 : Sl, r8 = x10.val ∧
 (StepT Try.prog (Builtin.append_ #[27, 27] 27 #[(x_1.val), (x10.val)]) w9 fun r11 w12 =>
 ∃ x13 : Sl, r11 = x13.val ∧
 IxOk x2_2 1 ∧
 ldT w12 x2_2 1 fun n14 n15 x16 =>
 Trip Try.prog 21 #[.agg #[x0_0.val, x0_1.val], x13.val, .agg #[.int .i64 n14, .int .i64 n15, x16.val]] w12 fun r17 w18 =>
 ∃ n19 : Int, r17 = .int .i64 n19 ∧
 Q (.int .i64 n19) w18) ∧
 IxOk x2_2 1 ∧
 (StepT Try.prog (Builtin.append_ #[27, 27] 27 #[(x_1.val), (x10.val)]) w9 fun r20 w21 =>
 ∃ x22 : Sl, r20 = x22.val ∧
 ldT w21 x2_2 1 fun n23 n24 x25 =>
 Trip Try.prog 21 #[.agg #[x0_0.val, x0_1.val], x22.val, .agg #[.int .i64 n23, .int .i64 n24, x25.val]] w21 fun r26 w27 =>
 ∃ n28 : Int, r26 = .int .i64 n28 ∧
 Q (.int .i64 n28) w27) ∧
 ldT w9 x2_2 1 fun n29 n30 x31 =>
 StepT Try.prog (Builtin.append_ #[27, 27] 27 #[(x_1.val), (x10.val)]) w9 fun r32 w33 =>
 ∃ x34 : Sl, r32 = x34.val ∧
 Trip Try.prog 21 #[.agg #[x0_0.val, x0_1.val], x34.val, .agg #[.int .i64 n29, .int .i64 n30, x31.val]] w33 fun r35 w36 =>
 ∃ n37 : Int, r35 = .int .i64 n37 ∧
 Q (.int .i64 n37) w36) ∧
 IxOk x2_2 1 ∧
 (StepT Try.prog (Instr.buildSlice 27 1 #[(0, (.int .i64 n7))]) w6 fun r38 w39 =>
 ∃ x40 : Sl, r38 = x40.val ∧
 (StepT Try.prog (Builtin.append_ #[27, 27] 27 #[(x_1.val), (x40.val)]) w39 fun r41 w42 =>
 ∃ x43 : Sl, r41 = x43.val ∧
 ldT w42 x2_2 1 fun n44 n45 x46 =>
 Trip Try.prog 21 #[.agg #[x0_0.val, x0_1.val], x43.val, .agg #[.int .i64 n44, .int .i64 n45, x46.val]] w42 fun r47 w48 =>
 ∃ n49 : Int, r47 = .int .i64 n49 ∧
 Q (.int .i64 n49) w48) ∧
 ldT w39 x2_2 1 fun n50 n51 x52 =>
 StepT Try.prog (Builtin.append_ #[27, 27] 27 #[(x_1.val), (x40.val)]) w39 fun r53 w54 =>
 ∃ x55 : Sl, r53 = x55.val ∧
 Trip Try.prog 21 #[.agg #[x0_0.val, x0_1.val], x55.val, .agg #[.int .i64 n50, .int .i64 n51, x52.val]] w54 fun r56 w57 =>
 ∃ n58 : Int, r56 = .int .i64 n58 ∧
 Q (.int .i64 n58) w57) ∧
 ldT w6 x2_2 1 fun n59 n60 x61 =>
 StepT Try.prog (Instr.buildSlice 27 1 #[(0, (.int .i64 n7))]) w6 fun r62 w63 =>
 ∃ x64 : Sl, r62 = x64.val ∧
 StepT Try.prog (Builtin.append_ #[27, 27] 27 #[(x_1.val), (x64.val)]) w63 fun r65 w66 =>
 ∃ x67 : Sl, r65 = x67.val ∧
 Trip Try.prog 21 #[.agg #[x0_0.val, x0_1.val], x67.val, .agg #[.int .i64 n59, .int .i64 n60, x61.val]] w66 fun r68 w69 =>
 ∃ n70 : Int, r68 = .int .i64 n70 ∧
 Q (.int .i64 n70) w69))) ∧
 ((decide (n2_0 = 13)) = false →
 ((decide (n2_0 = 7)) = true →
 (((!decide ((x2_2.n : Int) = 3)) || (!decide (n2_1 = 0))) = false →
 IxOk x2_2 0) ∧
 ∃ n71 : Int, ∃ n72 : Int, ∃ x73 : Sl, (((!decide ((x2_2.n : Int) = 3)) || (!decide (n2_1 = 0))) = false →
 v.cell? ((elA x2_2 0 3).add 0) = some (.int .i64 n71) ∧
 v.cell? ((elA x2_2 0 3).add 1) = some (.int .i64 n72) ∧
 v.cell? ((elA x2_2 0 3).add 2) = some (x73.val)) ∧
 (((!decide ((x2_2.n : Int) = 3)) || (!decide (n2_1 = 0))) = false →
 Trip Try.prog 21 #[.agg #[x0_0.val, x0_1.val], x_1.val, .agg #[.int .i64 n71, .int .i64 n72, x73.val]] v fun r74 w75 =>
 ∃ n76 : Int, r74 = .int .i64 n76 ∧
 ((!decide (n76 = 0)) = true →
 Q (.int .i64 (-1)) w75) ∧
 ((!decide (n76 = 0)) = false →
 ((0 : Int) ≤ 1 ∧ 1 ≤ (x2_2.n : Int)) ∧
 StepT Try.prog (Instr.makeSlice 75 (.int .i64 2) (.int .i64 2)) w75 fun r77 w78 =>
 ∃ x79 : Sl, r77 = x79.val ∧
 Sub w75 w78 ∧
 Trip Try.prog 41 #[.agg #[x0_0.val, x0_1.val], x_1.val, (x2_2.cut 1 (x2_2.n : Int) 3).val, x79.val] w78 fun r80 w81 =>
 ∃ n82 : Int, r80 = .int .i64 n82 ∧
 Q (.int .i64 n82) w81)) ∧
 (((!decide ((x2_2.n : Int) = 3)) || (!decide (n2_1 = 0))) = true →
 Q (.int .i64 (-1)) v)) ∧
 ((decide (n2_0 = 7)) = false →
 ((decide (n2_0 = 8)) = true →
 Trip Try.prog 42 #[x0_0.val, .int .i64 n2_1] v fun r83 w84 =>
 ∃ x85 : Sl, r83 = x85.val ∧
 ∃ n86 : Int, ((decide ((x85.n : Int) = 0)) = false →
 Wr .i64 (1 + (x85.n : Int)) n86) ∧
 (((decide ((x85.n : Int) = 0)) || (!decide ((x2_2.n : Int) = n86))) = false →
 IxOk x2_2 0) ∧
 ∃ n87 : Int, ∃ n88 : Int, ∃ x89 : Sl, (((decide ((x85.n : Int) = 0)) || (!decide ((x2_2.n : Int) = n86))) = false →
 w84.cell? ((elA x2_2 0 3).add 0) = some (.int .i64 n87) ∧
 w84.cell? ((elA x2_2 0 3).add 1) = some (.int .i64 n88) ∧
 w84.cell? ((elA x2_2 0 3).add 2) = some (x89.val)) ∧
 ((((decide ((x85.n : Int) = 0)) || (!decide ((x2_2.n : Int) = n86))) = false →
 Trip Try.prog 21 #[.agg #[x0_0.val, x0_1.val], x_1.val, .agg #[.int .i64 n87, .int .i64 n88, x89.val]] w84 fun r90 w91 =>
 ∃ n92 : Int, r90 = .int .i64 n92 ∧
 ((!decide (n92 = n2_1)) = true →
 Q (.int .i64 (-1)) w91) ∧
 ((!decide (n92 = n2_1)) = false →
 StepT Try.prog (Instr.makeSlice 75 (.int .i64 (x85.n : Int)) (.int .i64 (x85.n : Int))) w91 fun r93 w94 =>
 ∃ x95 : Sl, r93 = x95.val ∧
 ∃ I96 : Int → World → Prop, ∃ m97 : Int → World → Nat, I96 0 w94 ∧
 ∀ n98 : Int, ∀ w99 : World, I96 n98 w99 →
 ((decide (n98 < (x85.n : Int))) = true →
 IxOk x85 n98 ∧
 ∃ n100 : Int, w99.cell? ((elA x85 n98 1).add 0) = some (.int .i64 n100) ∧
 ∃ x101 : Sl, (Trip Try.prog 43 #[x0_0.val, .int .i64 n100] w99 fun r102 w103 => r102 = x101.val ∧ Sub w99 w103) ∧
 IxOk x95 n98 ∧
 StoreAt w99 (elA x95 n98 1) 0 [x101.val] fun w104 =>
 ∃ n105 : Int, Wr .i64 (n98 + 1) n105 ∧
 eqS (.sl x0_0) ∧
 eqS (.sl x0_1) ∧
 eqS (.num .i64 n2_0) ∧
 eqS (.num .i64 n2_1) ∧
 eqS (.sl x2_2) ∧
 I96 n105 w104 ∧
 m97 n105 w104 < m97 n98 w99) ∧
 ((decide (n98 < (x85.n : Int))) = false →
 ((0 : Int) ≤ 1 ∧ 1 ≤ (x2_2.n : Int)) ∧
 Trip Try.prog 41 #[.agg #[x0_0.val, x0_1.val], x_1.val, (x2_2.cut 1 (x2_2.n : Int) 3).val, x95.val] w99 fun r106 w107 =>
 ∃ n108 : Int, r106 = .int .i64 n108 ∧
 Q (.int .i64 n108) w107))) ∧
 (((decide ((x85.n : Int) = 0)) || (!decide ((x2_2.n : Int) = n86))) = true →
 Q (.int .i64 (-1)) w84)) ∧
 ((((decide ((x85.n : Int) = 0)) || (!decide ((x2_2.n : Int) = n86))) = false →
 Trip Try.prog 21 #[.agg #[x0_0.val, x0_1.val], x_1.val, .agg #[.int .i64 n87, .int .i64 n88, x89.val]] w84 fun r109 w110 =>
 ∃ n111 : Int, r109 = .int .i64 n111 ∧
 ((!decide (n111 = n2_1)) = true →
 Q (.int .i64 (-1)) w110) ∧
 ((!decide (n111 = n2_1)) = false →
 StepT Try.prog (Instr.makeSlice 75 (.int .i64 (x85.n : Int)) (.int .i64 (x85.n : Int))) w110 fun r112 w113 =>
 ∃ x114 : Sl, r112 = x114.val ∧
 ∃ I115 : Int → World → Prop, ∃ m116 : Int → World → Nat, I115 0 w113 ∧
 ∀ n117 : Int, ∀ w118 : World, I115 n117 w118 →
 ((decide (n117 < (x85.n : Int))) = true →
 IxOk x85 n117 ∧
 ∃ n119 : Int, w118.cell? ((elA x85 n117 1).add 0) = some (.int .i64 n119) ∧
 ∃ x120 : Sl, (Trip Try.prog 43 #[x0_0.val, .int .i64 n119] w118 fun r121 w122 => r121 = x120.val ∧ Sub w118 w122) ∧
 IxOk x114 n117 ∧
 StoreAt w118 (elA x114 n117 1) 0 [x120.val] fun w123 =>
 ∃ n124 : Int, Wr .i64 (n117 + 1) n124 ∧
 eqS (.sl x0_0) ∧
 eqS (.sl x0_1) ∧
 eqS (.num .i64 n2_0) ∧
 eqS (.num .i64 n2_1) ∧
 eqS (.sl x2_2) ∧
 I115 n124 w123 ∧
 m116 n124 w123 < m116 n117 w118) ∧
 ((decide (n117 < (x85.n : Int))) = false →
 ((0 : Int) ≤ 1 ∧ 1 ≤ (x2_2.n : Int)) ∧
 Trip Try.prog 41 #[.agg #[x0_0.val, x0_1.val], x_1.val, (x2_2.cut 1 (x2_2.n : Int) 3).val, x114.val] w118 fun r125 w126 =>
 ∃ n127 : Int, r125 = .int .i64 n127 ∧
 Q (.int .i64 n127) w126))) ∧
 (((decide ((x85.n : Int) = 0)) || (!decide ((x2_2.n : Int) = n86))) = true →
 Q (.int .i64 (-1)) w84)) ∧
 (((decide ((x85.n : Int) = 0)) || (!decide ((x2_2.n : Int) = n86))) = false →
 Trip Try.prog 21 #[.agg #[x0_0.val, x0_1.val], x_1.val, .agg #[.int .i64 n87, .int .i64 n88, x89.val]] w84 fun r128 w129 =>
 ∃ n130 : Int, r128 = .int .i64 n130 ∧
 ((!decide (n130 = n2_1)) = true →
 Q (.int .i64 (-1)) w129) ∧
 ((!decide (n130 = n2_1)) = false →
 StepT Try.prog (Instr.makeSlice 75 (.int .i64 (x85.n : Int)) (.int .i64 (x85.n : Int))) w129 fun r131 w132 =>
 ∃ x133 : Sl, r131 = x133.val ∧
 ∃ I134 : Int → World → Prop, ∃ m135 : Int → World → Nat, I134 0 w132 ∧
 ∀ n136 : Int, ∀ w137 : World, I134 n136 w137 →
 ((decide (n136 < (x85.n : Int))) = true →
 IxOk x85 n136 ∧
 ∃ n138 : Int, w137.cell? ((elA x85 n136 1).add 0) = some (.int .i64 n138) ∧
 ∃ x139 : Sl, (Trip Try.prog 43 #[x0_0.val, .int .i64 n138] w137 fun r140 w141 => r140 = x139.val ∧ Sub w137 w141) ∧
 IxOk x133 n136 ∧
 StoreAt w137 (elA x133 n136 1) 0 [x139.val] fun w142 =>
 ∃ n143 : Int, Wr .i64 (n136 + 1) n143 ∧
 eqS (.sl x0_0) ∧
 eqS (.sl x0_1) ∧
 eqS (.num .i64 n2_0) ∧
 eqS (.num .i64 n2_1) ∧
 eqS (.sl x2_2) ∧
 I134 n143 w142 ∧
 m135 n143 w142 < m135 n136 w137) ∧
 ((decide (n136 < (x85.n : Int))) = false →
 ((0 : Int) ≤ 1 ∧ 1 ≤ (x2_2.n : Int)) ∧
 Trip Try.prog 41 #[.agg #[x0_0.val, x0_1.val], x_1.val, (x2_2.cut 1 (x2_2.n : Int) 3).val, x133.val] w137 fun r144 w145 =>
 ∃ n146 : Int, r144 = .int .i64 n146 ∧
 Q (.int .i64 n146) w145))) ∧
 (((decide ((x85.n : Int) = 0)) || (!decide ((x2_2.n : Int) = n86))) = true →
 Q (.int .i64 (-1)) w84)) ∧
 ((decide (n2_0 = 8)) = false →
 StepT Try.prog (Instr.makeSlice 27 (.int .i64 (x2_2.n : Int)) (.int .i64 (x2_2.n : Int))) v fun r147 w148 =>
 ∃ x149 : Sl, r147 = x149.val ∧
 ∃ I150 : Int → World → Prop, ∃ m151 : Int → World → Nat, I150 0 w148 ∧
 ∀ n152 : Int, ∀ w153 : World, I150 n152 w153 →
 ((decide (n152 < (x2_2.n : Int))) = true →
 IxOk x2_2 n152 ∧
 ldT w153 x2_2 n152 fun n154 n155 x156 =>
 Trip Try.prog 21 #[.agg #[x0_0.val, x0_1.val], x_1.val, .agg #[.int .i64 n154, .int .i64 n155, x156.val]] w153 fun r157 w158 =>
 ∃ n159 : Int, r157 = .int .i64 n159 ∧
 IxOk x149 n152 ∧
 StoreAt w158 (elA x149 n152 1) 0 [.int .i64 n159] fun w160 =>
 IxOk x149 n152 ∧
 ∃ n161 : Int, w160.cell? ((elA x149 n152 1).add 0) = some (.int .i64 n161) ∧
 ((decide (n161 < 0)) = true →
 Q (.int .i64 (-1)) w160) ∧
 ((decide (n161 < 0)) = false →
 ∃ n162 : Int, Wr .i64 (n152 + 1) n162 ∧
 eqS (.sl x0_0) ∧
 eqS (.sl x0_1) ∧
 eqS (.num .i64 n2_0) ∧
 eqS (.num .i64 n2_1) ∧
 eqS (.sl x2_2) ∧
 I150 n162 w160 ∧
 m151 n162 w160 < m151 n152 w153)) ∧
 ((decide (n152 < (x2_2.n : Int))) = false →
 ∃ n163 : Int, ∃ q164 : Bool, (Trip Try.prog 44 #[.agg #[x0_0.val, x0_1.val], .int .i64 n2_0, .int .i64 n2_1, x149.val] w153 fun r165 w166 => r165 = .tuple #[.int .i64 n163, .bool q164] ∧ Sub w153 w166) ∧
 ((!q164) = true →
 Q (.int .i64 (-1)) w153) ∧
 ((!q164) = false →
 Q (.int .i64 n163) w153))))))
theorem of21 (x0_0 : Sl) (x0_1 : Sl) (x_1 : Sl) (n2_0 : Int) (n2_1 : Int) (x2_2 : Sl) (v : World) (Q : Value → World → Prop) (h : vc21 x0_0 x0_1 x_1 n2_0 n2_1 x2_2 v Q) : Trip Try.prog 21 #[.agg #[x0_0.val, x0_1.val], x_1.val, .agg #[.int .i64 n2_0, .int .i64 n2_1, x2_2.val]] v Q :=
 trip_of_eq (args := [.ag [.sl x0_0, .sl x0_1], .sl x_1, .ag [.num .i64 n2_0, .num .i64 n2_1, .sl x2_2]]) (A := ⟨[(23, [(136, .int .i64)], []), (30, [(163, .int .i64)], [])], [], [(9, []), (12, []), (14, []), (16, [5]), (19, []), (27, [])], [], psG⟩) Try.func21 (by kernel_rfl) (by kernel_rfl) (by kernel_rfl : vc21 x0_0 x0_1 x_1 n2_0 n2_1 x2_2 v Q = _) h

def vc22 (x_0 : Sl) (v : World) (Q : Value → World → Prop) : Prop :=
 ∃ q1 : Bool, PureT Try.prog (do eqGuard .eql 27 (.tmp 3) (.const (.slice none 0 0)) (x_0.val) (.slice none 0 0); binOp .eql 27 (x_0.val) (.slice none 0 0)) v (.bool q1) ∧
 (q1 = true →
 Q (.slice none 0 0) v) ∧
 (q1 = false →
 StepT Try.prog (Instr.buildSlice 27 0 #[]) v fun r2 w3 =>
 ∃ x4 : Sl, r2 = x4.val ∧
 StepT Try.prog (Builtin.append_ #[27, 27] 27 #[(x4.val), (x_0.val)]) w3 fun r5 w6 =>
 ∃ x7 : Sl, r5 = x7.val ∧
 Q (x7.val) w6)
theorem of22 (x_0 : Sl) (v : World) (Q : Value → World → Prop) (h : vc22 x_0 v Q) : Trip Try.prog 22 #[x_0.val] v Q :=
 trip_of_eq (args := [.sl x_0]) (A := ⟨[], [], [], [], psG⟩) Try.func22 (by kernel_rfl) (by kernel_rfl) (by kernel_rfl : vc22 x_0 v Q = _) h

def vc23 (x0_0 : Sl) (x0_1 : Sl) (v : World) (Q : Value → World → Prop) : Prop :=
 ∃ q1 : Bool, (Trip Try.prog 45 #[x0_0.val] v fun r2 w3 => r2 = .bool q1 ∧ Sub v w3) ∧
 ∃ q4 : Bool, ((!q1) = false →
 (Trip Try.prog 46 #[.int .i64 (x0_1.n : Int), .int .i64 1, .int .i64 4] v fun r5 w6 => r5 = .bool q4 ∧ Sub v w6)) ∧
 (((!q1) || (!q4)) = true →
 Q (.bool false) v) ∧
 (((!q1) || (!q4)) = false →
 ∃ I7 : Int → World → Prop, ∃ m8 : Int → World → Nat, I7 0 v ∧
 ∀ n9 : Int, ∀ w10 : World, I7 n9 w10 →
 ((decide (n9 < (x0_1.n : Int))) = true →
 IxOk x0_1 n9 ∧
 ldF w10 x0_1 n9 fun x11 n12 n13 n14 x15 =>
 ∃ q16 : Bool, ((decide ((x11.n : Int) > 3)) = false →
 (Trip Try.prog 25 #[x0_0.val, x11.val] w10 fun r17 w18 => r17 = .bool q16 ∧ Sub w10 w18)) ∧
 ∃ q19 : Bool, (((decide ((x11.n : Int) > 3)) || (!q16)) = false →
 (Trip Try.prog 46 #[.int .i64 n12, .int .i64 0, .int .i64 (x0_0.n : Int)] w10 fun r20 w21 => r20 = .bool q19 ∧ Sub w10 w21)) ∧
 ((((decide ((x11.n : Int) > 3)) || (!q16)) || (!q19)) = true →
 Q (.bool false) w10) ∧
 ((((decide ((x11.n : Int) > 3)) || (!q16)) || (!q19)) = false →
 ∃ n22 : Int, Wr .i64 (n9 + 1) n22 ∧
 eqS (.sl x0_0) ∧
 eqS (.sl x0_1) ∧
 I7 n22 w10 ∧
 m8 n22 w10 < m8 n9 w10)) ∧
 ((decide (n9 < (x0_1.n : Int))) = false →
 IxOk x0_1 0 ∧
 ∃ x23 : Sl, w10.cell? ((elA x0_1 0 5).add 0) = some (x23.val) ∧
 ((decide ((x23.n : Int) = 0)) = true →
 IxOk x0_1 0) ∧
 ∃ n24 : Int, ((decide ((x23.n : Int) = 0)) = true →
 w10.cell? ((elA x0_1 0 5).add 1) = some (.int .i64 n24)) ∧
 Q (.bool ((decide ((x23.n : Int) = 0)) && (decide (n24 = 0)))) w10))
theorem of23 (x0_0 : Sl) (x0_1 : Sl) (v : World) (Q : Value → World → Prop) (h : vc23 x0_0 x0_1 v Q) : Trip Try.prog 23 #[.agg #[x0_0.val, x0_1.val]] v Q :=
 trip_of_eq (args := [.ag [.sl x0_0, .sl x0_1]]) (A := ⟨[(4, [(3, .int .i64)], [])], [], [], [], psG⟩) Try.func23 (by kernel_rfl) (by kernel_rfl) (by kernel_rfl : vc23 x0_0 x0_1 v Q = _) h

def vc24 (n0_0 : Int) (n0_1 : Int) (x0_2 : Sl) (v : World) (Q : Value → World → Prop) : Prop :=
 ∃ n1 : Int, (Trip Try.prog 47 #[.agg #[.int .i64 n0_0, .int .i64 n0_1, x0_2.val], .int .i64 30] v fun r2 w3 => r2 = .int .i64 n1 ∧ Sub v w3) ∧
 ((decide (n1 < 0)) = true →
 Q (.int .i64 (-1)) v) ∧
 ((decide (n1 < 0)) = false →
 ∃ n4 : Int, Wr .i64 (30 - n1) n4 ∧
 Q (.int .i64 n4) v)
theorem of24 (n0_0 : Int) (n0_1 : Int) (x0_2 : Sl) (v : World) (Q : Value → World → Prop) (h : vc24 n0_0 n0_1 x0_2 v Q) : Trip Try.prog 24 #[.agg #[.int .i64 n0_0, .int .i64 n0_1, x0_2.val]] v Q :=
 trip_of_eq (args := [.ag [.num .i64 n0_0, .num .i64 n0_1, .sl x0_2]]) (A := ⟨[], [], [], [], psG⟩) Try.func24 (by kernel_rfl) (by kernel_rfl) (by kernel_rfl : vc24 n0_0 n0_1 x0_2 v Q = _) h

def vc25 (x_0 : Sl) (x_1 : Sl) (v : World) (Q : Value → World → Prop) : Prop :=
 ∃ I1 : Int → World → Prop, ∃ m2 : Int → World → Nat, I1 0 v ∧
 ∀ n3 : Int, ∀ w4 : World, I1 n3 w4 →
 ((decide (n3 < (x_1.n : Int))) = true →
 IxOk x_1 n3 ∧
 ∃ n5 : Int, w4.cell? ((elA x_1 n3 1).add 0) = some (.int .i64 n5) ∧
 ∃ q6 : Bool, (Trip Try.prog 46 #[.int .i64 n5, .int .i64 0, .int .i64 (x_0.n : Int)] w4 fun r7 w8 => r7 = .bool q6 ∧ Sub w4 w8) ∧
 ((!q6) = true →
 Q (.bool false) w4) ∧
 ((!q6) = false →
 ∃ n9 : Int, Wr .i64 (n3 + 1) n9 ∧
 I1 n9 w4 ∧
 m2 n9 w4 < m2 n3 w4)) ∧
 ((decide (n3 < (x_1.n : Int))) = false →
 Q (.bool true) w4)
theorem of25 (x_0 : Sl) (x_1 : Sl) (v : World) (Q : Value → World → Prop) (h : vc25 x_0 x_1 v Q) : Trip Try.prog 25 #[x_0.val, x_1.val] v Q :=
 trip_of_eq (args := [.sl x_0, .sl x_1]) (A := ⟨[(2, [(5, .int .i64)], [])], [], [], [], psG⟩) Try.func25 (by kernel_rfl) (by kernel_rfl) (by kernel_rfl : vc25 x_0 x_1 v Q = _) h

def vc26 (x0_0 : Sl) (x0_1 : Sl) (x_1 : Sl) (n2_0 : Int) (n2_1 : Int) (x2_2 : Sl) (v : World) (Q : Value → World → Prop) : Prop :=
 ((decide (n2_0 = 0)) = true →
 ∃ q1 : Bool, ((decide ((x2_2.n : Int) = 0)) = true →
 (Trip Try.prog 46 #[.int .i64 n2_1, .int .i64 (-999), .int .i64 999] v fun r2 w3 => r2 = .bool q1 ∧ Sub v w3)) ∧
 (((decide ((x2_2.n : Int) = 0)) && q1) = true →
 Q (.int .i64 0) v) ∧
 (((decide ((x2_2.n : Int) = 0)) && q1) = false →
 Q (.int .i64 (-1)) v)) ∧
 ((decide (n2_0 = 0)) = false →
 ((decide (n2_0 = 12)) = true →
 ∃ n4 : Int, ((decide ((x2_2.n : Int) = 0)) = true →
 Wr .i64 ((x_1.n : Int) - 1) n4) ∧
 ∃ q5 : Bool, ((decide ((x2_2.n : Int) = 0)) = true →
 (Trip Try.prog 46 #[.int .i64 n2_1, .int .i64 0, .int .i64 n4] v fun r6 w7 => r6 = .bool q5 ∧ Sub v w7)) ∧
 (((decide ((x2_2.n : Int) = 0)) && q5) = true →
 IxOk x_1 n2_1 ∧
 ∃ n8 : Int, v.cell? ((elA x_1 n2_1 1).add 0) = some (.int .i64 n8) ∧
 Q (.int .i64 n8) v) ∧
 (((decide ((x2_2.n : Int) = 0)) && q5) = false →
 Q (.int .i64 (-1)) v)) ∧
 ((decide (n2_0 = 12)) = false →
 ((decide (n2_0 = 1)) = true →
 ((decide (n2_0 = 1)) = true →
 ∃ q9 : Bool, ((decide (n2_1 = 0)) = true →
 (Trip Try.prog 48 #[.agg #[x0_0.val, x0_1.val], x_1.val, x2_2.val, .int .i64 2] v fun r10 w11 => r10 = .bool q9 ∧ Sub v w11)) ∧
 (((decide (n2_1 = 0)) && q9) = true →
 Q (.int .i64 0) v) ∧
 (((decide (n2_1 = 0)) && q9) = false →
 Q (.int .i64 (-1)) v)) ∧
 ((decide (n2_0 = 1)) = false →
 ((decide (n2_0 = 5)) = true →
 ∃ q12 : Bool, ((decide (n2_1 = 0)) = true →
 (Trip Try.prog 48 #[.agg #[x0_0.val, x0_1.val], x_1.val, x2_2.val, .int .i64 1] v fun r13 w14 => r13 = .bool q12 ∧ Sub v w14)) ∧
 (((decide (n2_1 = 0)) && q12) = true →
 Q (.int .i64 0) v) ∧
 (((decide (n2_1 = 0)) && q12) = false →
 Q (.int .i64 (-1)) v)) ∧
 ((decide (n2_0 = 5)) = false →
 ((decide (n2_0 = 6)) = true →
 ∃ n15 : Int, (Trip Try.prog 49 #[x0_0.val, .int .i64 n2_1] v fun r16 w17 => r16 = .int .i64 n15 ∧ Sub v w17) ∧
 ((decide (n15 > 0)) = true →
 Trip Try.prog 51 #[x0_0.val, .int .i64 n2_1] v fun r18 w19 =>
 ∃ x20 : Sl, r18 = x20.val ∧
 Sub v w19 ∧
 ∃ q21 : Bool, (Trip Try.prog 50 #[.agg #[x0_0.val, x0_1.val], x_1.val, x2_2.val, x20.val] w19 fun r22 w23 => r22 = .bool q21 ∧ Sub w19 w23) ∧
 (q21 = true →
 ∃ n24 : Int, (Trip Try.prog 49 #[x0_0.val, .int .i64 n2_1] w19 fun r25 w26 => r25 = .int .i64 n24 ∧ Sub w19 w26) ∧
 Q (.int .i64 n24) w19) ∧
 (q21 = false →
 Q (.int .i64 (-1)) w19)) ∧
 ((decide (n15 > 0)) = false →
 Sub v v ∧
 Q (.int .i64 (-1)) v)) ∧
 ((decide (n2_0 = 6)) = false →
 ((decide (n2_0 = 13)) = true →
 (((decide (n2_1 = 0)) && (decide ((x2_2.n : Int) = 2))) = true →
 IxOk x2_2 0 ∧
 ldT v x2_2 0 fun n27 n28 x29 =>
 ∃ n30 : Int, (Trip Try.prog 26 #[.agg #[x0_0.val, x0_1.val], x_1.val, .agg #[.int .i64 n27, .int .i64 n28, x29.val]] v fun r31 w32 => r31 = .int .i64 n30 ∧ Sub v w32) ∧
 ((decide (n30 ≥ 0)) = true →
 IxOk x2_2 1 ∧
 ldT v x2_2 1 fun n33 n34 x35 =>
 StepT Try.prog (Instr.buildSlice 27 1 #[(0, (.int .i64 n30))]) v fun r36 w37 =>
 ∃ x38 : Sl, r36 = x38.val ∧
 Sub v w37 ∧
 Trip Try.prog 36 #[x_1.val, x38.val] w37 fun r39 w40 =>
 ∃ x41 : Sl, r39 = x41.val ∧
 Sub w37 w40 ∧
 ∃ n42 : Int, (Trip Try.prog 26 #[.agg #[x0_0.val, x0_1.val], x41.val, .agg #[.int .i64 n33, .int .i64 n34, x35.val]] w40 fun r43 w44 => r43 = .int .i64 n42 ∧ Sub w40 w44) ∧
 Q (.int .i64 n42) w40) ∧
 ((decide (n30 ≥ 0)) = false →
 Q (.int .i64 (-1)) v)) ∧
 (((decide (n2_1 = 0)) && (decide ((x2_2.n : Int) = 2))) = false →
 Q (.int .i64 (-1)) v)) ∧
 ((decide (n2_0 = 13)) = false →
 ((decide (n2_0 = 7)) = true →
 (((decide (n2_1 = 0)) && (decide ((x2_2.n : Int) = 3))) = true →
 IxOk x2_2 0) ∧
 ∃ n45 : Int, ∃ n46 : Int, ∃ x47 : Sl, (((decide (n2_1 = 0)) && (decide ((x2_2.n : Int) = 3))) = true →
 v.cell? ((elA x2_2 0 3).add 0) = some (.int .i64 n45) ∧
 v.cell? ((elA x2_2 0 3).add 1) = some (.int .i64 n46) ∧
 v.cell? ((elA x2_2 0 3).add 2) = some (x47.val)) ∧
 ∃ n48 : Int, (((decide (n2_1 = 0)) && (decide ((x2_2.n : Int) = 3))) = true →
 (Trip Try.prog 26 #[.agg #[x0_0.val, x0_1.val], x_1.val, .agg #[.int .i64 n45, .int .i64 n46, x47.val]] v fun r49 w50 => r49 = .int .i64 n48 ∧ Sub v w50)) ∧
 ((((decide (n2_1 = 0)) && (decide ((x2_2.n : Int) = 3))) && (decide (n48 = 0))) = true →
 IxOk x2_2 1 ∧
 ldT v x2_2 1 fun n51 n52 x53 =>
 ∃ n54 : Int, (Trip Try.prog 26 #[.agg #[x0_0.val, x0_1.val], x_1.val, .agg #[.int .i64 n51, .int .i64 n52, x53.val]] v fun r55 w56 => r55 = .int .i64 n54 ∧ Sub v w56) ∧
 IxOk x2_2 2 ∧
 ldT v x2_2 2 fun n57 n58 x59 =>
 ∃ n60 : Int, (Trip Try.prog 26 #[.agg #[x0_0.val, x0_1.val], x_1.val, .agg #[.int .i64 n57, .int .i64 n58, x59.val]] v fun r61 w62 => r61 = .int .i64 n60 ∧ Sub v w62) ∧
 ((decide (n60 = n54)) = true →
 Q (.int .i64 n54) v) ∧
 ((decide (n60 = n54)) = false →
 Q (.int .i64 (-1)) v)) ∧
 ((((decide (n2_1 = 0)) && (decide ((x2_2.n : Int) = 3))) && (decide (n48 = 0))) = false →
 Q (.int .i64 (-1)) v)) ∧
 ((decide (n2_0 = 7)) = false →
 ((decide (n2_0 = 8)) = true →
 ∃ n63 : Int, (Trip Try.prog 52 #[.agg #[x0_0.val, x0_1.val], x_1.val, .agg #[.int .i64 n2_0, .int .i64 n2_1, x2_2.val]] v fun r64 w65 => r64 = .int .i64 n63 ∧ Sub v w65) ∧
 Q (.int .i64 n63) v) ∧
 ((decide (n2_0 = 8)) = false →
 ((decide (n2_0 = 9)) = true →
 ((decide (n2_0 = 9)) = true →
 ∃ n66 : Int, (Trip Try.prog 53 #[.agg #[x0_0.val, x0_1.val], x_1.val, .agg #[.int .i64 n2_0, .int .i64 n2_1, x2_2.val]] v fun r67 w68 => r67 = .int .i64 n66 ∧ Sub v w68) ∧
 Q (.int .i64 n66) v) ∧
 ((decide (n2_0 = 9)) = false →
 ((decide (n2_0 = 11)) = true →
 (((decide (n2_1 = 0)) && (decide ((x2_2.n : Int) = 2))) = true →
 IxOk x2_2 0 ∧
 ldT v x2_2 0 fun n69 n70 x71 =>
 ∃ n72 : Int, (Trip Try.prog 26 #[.agg #[x0_0.val, x0_1.val], x_1.val, .agg #[.int .i64 n69, .int .i64 n70, x71.val]] v fun r73 w74 => r73 = .int .i64 n72 ∧ Sub v w74) ∧
 ∃ q75 : Bool, (Trip Try.prog 54 #[x0_0.val, .int .i64 n72] v fun r76 w77 => r76 = .bool q75 ∧ Sub v w77) ∧
 (q75 = true →
 IxOk x2_2 1) ∧
 ∃ n78 : Int, ∃ n79 : Int, ∃ x80 : Sl, (q75 = true →
 v.cell? ((elA x2_2 1 3).add 0) = some (.int .i64 n78) ∧
 v.cell? ((elA x2_2 1 3).add 1) = some (.int .i64 n79) ∧
 v.cell? ((elA x2_2 1 3).add 2) = some (x80.val)) ∧
 ∃ n81 : Int, (q75 = true →
 (Trip Try.prog 26 #[.agg #[x0_0.val, x0_1.val], x_1.val, .agg #[.int .i64 n78, .int .i64 n79, x80.val]] v fun r82 w83 => r82 = .int .i64 n81 ∧ Sub v w83)) ∧
 ∃ n84 : Int, (q75 = true →
 Wr .i64 (n72 - 1) n84) ∧
 (q75 = true →
 IxOk x0_0 n84) ∧
 ∃ n85 : Int, (q75 = true →
 v.cell? ((elA x0_0 n84 3).add 0) = some (.int .i64 n85)) ∧
 ((q75 && (decide (n81 = n85))) = true →
 ∃ n86 : Int, Wr .i64 (n72 - 1) n86 ∧
 IxOk x0_0 n86 ∧
 ∃ n87 : Int, v.cell? ((elA x0_0 n86 3).add 1) = some (.int .i64 n87) ∧
 Q (.int .i64 n87) v) ∧
 ((q75 && (decide (n81 = n85))) = false →
 Q (.int .i64 (-1)) v)) ∧
 (((decide (n2_1 = 0)) && (decide ((x2_2.n : Int) = 2))) = false →
 Q (.int .i64 (-1)) v)) ∧
 ((decide (n2_0 = 11)) = false →
 Q (.int .i64 (-1)) v))) ∧
 ((decide (n2_0 = 9)) = false →
 ((decide (n2_0 = 10)) = true →
 ∃ n88 : Int, (Trip Try.prog 53 #[.agg #[x0_0.val, x0_1.val], x_1.val, .agg #[.int .i64 n2_0, .int .i64 n2_1, x2_2.val]] v fun r89 w90 => r89 = .int .i64 n88 ∧ Sub v w90) ∧
 Q (.int .i64 n88) v) ∧
 ((decide (n2_0 = 10)) = false →
 ((decide (n2_0 = 11)) = true →
 (((decide (n2_1 = 0)) && (decide ((x2_2.n : Int) = 2))) = true →
 IxOk x2_2 0 ∧
 ldT v x2_2 0 fun n91 n92 x93 =>
 ∃ n94 : Int, (Trip Try.prog 26 #[.agg #[x0_0.val, x0_1.val], x_1.val, .agg #[.int .i64 n91, .int .i64 n92, x93.val]] v fun r95 w96 => r95 = .int .i64 n94 ∧ Sub v w96) ∧
 ∃ q97 : Bool, (Trip Try.prog 54 #[x0_0.val, .int .i64 n94] v fun r98 w99 => r98 = .bool q97 ∧ Sub v w99) ∧
 (q97 = true →
 IxOk x2_2 1) ∧
 ∃ n100 : Int, ∃ n101 : Int, ∃ x102 : Sl, (q97 = true →
 v.cell? ((elA x2_2 1 3).add 0) = some (.int .i64 n100) ∧
 v.cell? ((elA x2_2 1 3).add 1) = some (.int .i64 n101) ∧
 v.cell? ((elA x2_2 1 3).add 2) = some (x102.val)) ∧
 ∃ n103 : Int, (q97 = true →
 (Trip Try.prog 26 #[.agg #[x0_0.val, x0_1.val], x_1.val, .agg #[.int .i64 n100, .int .i64 n101, x102.val]] v fun r104 w105 => r104 = .int .i64 n103 ∧ Sub v w105)) ∧
 ∃ n106 : Int, (q97 = true →
 Wr .i64 (n94 - 1) n106) ∧
 (q97 = true →
 IxOk x0_0 n106) ∧
 ∃ n107 : Int, (q97 = true →
 v.cell? ((elA x0_0 n106 3).add 0) = some (.int .i64 n107)) ∧
 ((q97 && (decide (n103 = n107))) = true →
 ∃ n108 : Int, Wr .i64 (n94 - 1) n108 ∧
 IxOk x0_0 n108 ∧
 ∃ n109 : Int, v.cell? ((elA x0_0 n108 3).add 1) = some (.int .i64 n109) ∧
 Q (.int .i64 n109) v) ∧
 ((q97 && (decide (n103 = n107))) = false →
 Q (.int .i64 (-1)) v)) ∧
 (((decide (n2_1 = 0)) && (decide ((x2_2.n : Int) = 2))) = false →
 Q (.int .i64 (-1)) v)) ∧
 ((decide (n2_0 = 11)) = false →
 Q (.int .i64 (-1)) v)))))))))) ∧
 ((decide (n2_0 = 1)) = false →
 ((decide (n2_0 = 2)) = true →
 ((decide (n2_0 = 2)) = true →
 ∃ q110 : Bool, ((decide (n2_1 = 0)) = true →
 (Trip Try.prog 48 #[.agg #[x0_0.val, x0_1.val], x_1.val, x2_2.val, .int .i64 2] v fun r111 w112 => r111 = .bool q110 ∧ Sub v w112)) ∧
 (((decide (n2_1 = 0)) && q110) = true →
 Q (.int .i64 0) v) ∧
 (((decide (n2_1 = 0)) && q110) = false →
 Q (.int .i64 (-1)) v)) ∧
 ((decide (n2_0 = 2)) = false →
 ((decide (n2_0 = 5)) = true →
 ∃ q113 : Bool, ((decide (n2_1 = 0)) = true →
 (Trip Try.prog 48 #[.agg #[x0_0.val, x0_1.val], x_1.val, x2_2.val, .int .i64 1] v fun r114 w115 => r114 = .bool q113 ∧ Sub v w115)) ∧
 (((decide (n2_1 = 0)) && q113) = true →
 Q (.int .i64 0) v) ∧
 (((decide (n2_1 = 0)) && q113) = false →
 Q (.int .i64 (-1)) v)) ∧
 ((decide (n2_0 = 5)) = false →
 ((decide (n2_0 = 6)) = true →
 ∃ n116 : Int, (Trip Try.prog 49 #[x0_0.val, .int .i64 n2_1] v fun r117 w118 => r117 = .int .i64 n116 ∧ Sub v w118) ∧
 ((decide (n116 > 0)) = true →
 Trip Try.prog 51 #[x0_0.val, .int .i64 n2_1] v fun r119 w120 =>
 ∃ x121 : Sl, r119 = x121.val ∧
 Sub v w120 ∧
 ∃ q122 : Bool, (Trip Try.prog 50 #[.agg #[x0_0.val, x0_1.val], x_1.val, x2_2.val, x121.val] w120 fun r123 w124 => r123 = .bool q122 ∧ Sub w120 w124) ∧
 (q122 = true →
 ∃ n125 : Int, (Trip Try.prog 49 #[x0_0.val, .int .i64 n2_1] w120 fun r126 w127 => r126 = .int .i64 n125 ∧ Sub w120 w127) ∧
 Q (.int .i64 n125) w120) ∧
 (q122 = false →
 Q (.int .i64 (-1)) w120)) ∧
 ((decide (n116 > 0)) = false →
 Sub v v ∧
 Q (.int .i64 (-1)) v)) ∧
 ((decide (n2_0 = 6)) = false →
 ((decide (n2_0 = 13)) = true →
 (((decide (n2_1 = 0)) && (decide ((x2_2.n : Int) = 2))) = true →
 IxOk x2_2 0 ∧
 ldT v x2_2 0 fun n128 n129 x130 =>
 ∃ n131 : Int, (Trip Try.prog 26 #[.agg #[x0_0.val, x0_1.val], x_1.val, .agg #[.int .i64 n128, .int .i64 n129, x130.val]] v fun r132 w133 => r132 = .int .i64 n131 ∧ Sub v w133) ∧
 ((decide (n131 ≥ 0)) = true →
 IxOk x2_2 1 ∧
 ldT v x2_2 1 fun n134 n135 x136 =>
 StepT Try.prog (Instr.buildSlice 27 1 #[(0, (.int .i64 n131))]) v fun r137 w138 =>
 ∃ x139 : Sl, r137 = x139.val ∧
 Sub v w138 ∧
 Trip Try.prog 36 #[x_1.val, x139.val] w138 fun r140 w141 =>
 ∃ x142 : Sl, r140 = x142.val ∧
 Sub w138 w141 ∧
 ∃ n143 : Int, (Trip Try.prog 26 #[.agg #[x0_0.val, x0_1.val], x142.val, .agg #[.int .i64 n134, .int .i64 n135, x136.val]] w141 fun r144 w145 => r144 = .int .i64 n143 ∧ Sub w141 w145) ∧
 Q (.int .i64 n143) w141) ∧
 ((decide (n131 ≥ 0)) = false →
 Q (.int .i64 (-1)) v)) ∧
 (((decide (n2_1 = 0)) && (decide ((x2_2.n : Int) = 2))) = false →
 Q (.int .i64 (-1)) v)) ∧
 ((decide (n2_0 = 13)) = false →
 ((decide (n2_0 = 7)) = true →
 (((decide (n2_1 = 0)) && (decide ((x2_2.n : Int) = 3))) = true →
 IxOk x2_2 0) ∧
 ∃ n146 : Int, ∃ n147 : Int, ∃ x148 : Sl, (((decide (n2_1 = 0)) && (decide ((x2_2.n : Int) = 3))) = true →
 v.cell? ((elA x2_2 0 3).add 0) = some (.int .i64 n146) ∧
 v.cell? ((elA x2_2 0 3).add 1) = some (.int .i64 n147) ∧
 v.cell? ((elA x2_2 0 3).add 2) = some (x148.val)) ∧
 ∃ n149 : Int, (((decide (n2_1 = 0)) && (decide ((x2_2.n : Int) = 3))) = true →
 (Trip Try.prog 26 #[.agg #[x0_0.val, x0_1.val], x_1.val, .agg #[.int .i64 n146, .int .i64 n147, x148.val]] v fun r150 w151 => r150 = .int .i64 n149 ∧ Sub v w151)) ∧
 ((((decide (n2_1 = 0)) && (decide ((x2_2.n : Int) = 3))) && (decide (n149 = 0))) = true →
 IxOk x2_2 1 ∧
 ldT v x2_2 1 fun n152 n153 x154 =>
 ∃ n155 : Int, (Trip Try.prog 26 #[.agg #[x0_0.val, x0_1.val], x_1.val, .agg #[.int .i64 n152, .int .i64 n153, x154.val]] v fun r156 w157 => r156 = .int .i64 n155 ∧ Sub v w157) ∧
 IxOk x2_2 2 ∧
 ldT v x2_2 2 fun n158 n159 x160 =>
 ∃ n161 : Int, (Trip Try.prog 26 #[.agg #[x0_0.val, x0_1.val], x_1.val, .agg #[.int .i64 n158, .int .i64 n159, x160.val]] v fun r162 w163 => r162 = .int .i64 n161 ∧ Sub v w163) ∧
 ((decide (n161 = n155)) = true →
 Q (.int .i64 n155) v) ∧
 ((decide (n161 = n155)) = false →
 Q (.int .i64 (-1)) v)) ∧
 ((((decide (n2_1 = 0)) && (decide ((x2_2.n : Int) = 3))) && (decide (n149 = 0))) = false →
 Q (.int .i64 (-1)) v)) ∧
 ((decide (n2_0 = 7)) = false →
 ((decide (n2_0 = 8)) = true →
 ∃ n164 : Int, (Trip Try.prog 52 #[.agg #[x0_0.val, x0_1.val], x_1.val, .agg #[.int .i64 n2_0, .int .i64 n2_1, x2_2.val]] v fun r165 w166 => r165 = .int .i64 n164 ∧ Sub v w166) ∧
 Q (.int .i64 n164) v) ∧
 ((decide (n2_0 = 8)) = false →
 ((decide (n2_0 = 9)) = true →
 ((decide (n2_0 = 9)) = true →
 ∃ n167 : Int, (Trip Try.prog 53 #[.agg #[x0_0.val, x0_1.val], x_1.val, .agg #[.int .i64 n2_0, .int .i64 n2_1, x2_2.val]] v fun r168 w169 => r168 = .int .i64 n167 ∧ Sub v w169) ∧
 Q (.int .i64 n167) v) ∧
 ((decide (n2_0 = 9)) = false →
 ((decide (n2_0 = 11)) = true →
 (((decide (n2_1 = 0)) && (decide ((x2_2.n : Int) = 2))) = true →
 IxOk x2_2 0 ∧
 ldT v x2_2 0 fun n170 n171 x172 =>
 ∃ n173 : Int, (Trip Try.prog 26 #[.agg #[x0_0.val, x0_1.val], x_1.val, .agg #[.int .i64 n170, .int .i64 n171, x172.val]] v fun r174 w175 => r174 = .int .i64 n173 ∧ Sub v w175) ∧
 ∃ q176 : Bool, (Trip Try.prog 54 #[x0_0.val, .int .i64 n173] v fun r177 w178 => r177 = .bool q176 ∧ Sub v w178) ∧
 (q176 = true →
 IxOk x2_2 1) ∧
 ∃ n179 : Int, ∃ n180 : Int, ∃ x181 : Sl, (q176 = true →
 v.cell? ((elA x2_2 1 3).add 0) = some (.int .i64 n179) ∧
 v.cell? ((elA x2_2 1 3).add 1) = some (.int .i64 n180) ∧
 v.cell? ((elA x2_2 1 3).add 2) = some (x181.val)) ∧
 ∃ n182 : Int, (q176 = true →
 (Trip Try.prog 26 #[.agg #[x0_0.val, x0_1.val], x_1.val, .agg #[.int .i64 n179, .int .i64 n180, x181.val]] v fun r183 w184 => r183 = .int .i64 n182 ∧ Sub v w184)) ∧
 ∃ n185 : Int, (q176 = true →
 Wr .i64 (n173 - 1) n185) ∧
 (q176 = true →
 IxOk x0_0 n185) ∧
 ∃ n186 : Int, (q176 = true →
 v.cell? ((elA x0_0 n185 3).add 0) = some (.int .i64 n186)) ∧
 ((q176 && (decide (n182 = n186))) = true →
 ∃ n187 : Int, Wr .i64 (n173 - 1) n187 ∧
 IxOk x0_0 n187 ∧
 ∃ n188 : Int, v.cell? ((elA x0_0 n187 3).add 1) = some (.int .i64 n188) ∧
 Q (.int .i64 n188) v) ∧
 ((q176 && (decide (n182 = n186))) = false →
 Q (.int .i64 (-1)) v)) ∧
 (((decide (n2_1 = 0)) && (decide ((x2_2.n : Int) = 2))) = false →
 Q (.int .i64 (-1)) v)) ∧
 ((decide (n2_0 = 11)) = false →
 Q (.int .i64 (-1)) v))) ∧
 ((decide (n2_0 = 9)) = false →
 ((decide (n2_0 = 10)) = true →
 ∃ n189 : Int, (Trip Try.prog 53 #[.agg #[x0_0.val, x0_1.val], x_1.val, .agg #[.int .i64 n2_0, .int .i64 n2_1, x2_2.val]] v fun r190 w191 => r190 = .int .i64 n189 ∧ Sub v w191) ∧
 Q (.int .i64 n189) v) ∧
 ((decide (n2_0 = 10)) = false →
 ((decide (n2_0 = 11)) = true →
 (((decide (n2_1 = 0)) && (decide ((x2_2.n : Int) = 2))) = true →
 IxOk x2_2 0 ∧
 ldT v x2_2 0 fun n192 n193 x194 =>
 ∃ n195 : Int, (Trip Try.prog 26 #[.agg #[x0_0.val, x0_1.val], x_1.val, .agg #[.int .i64 n192, .int .i64 n193, x194.val]] v fun r196 w197 => r196 = .int .i64 n195 ∧ Sub v w197) ∧
 ∃ q198 : Bool, (Trip Try.prog 54 #[x0_0.val, .int .i64 n195] v fun r199 w200 => r199 = .bool q198 ∧ Sub v w200) ∧
 (q198 = true →
 IxOk x2_2 1) ∧
 ∃ n201 : Int, ∃ n202 : Int, ∃ x203 : Sl, (q198 = true →
 v.cell? ((elA x2_2 1 3).add 0) = some (.int .i64 n201) ∧
 v.cell? ((elA x2_2 1 3).add 1) = some (.int .i64 n202) ∧
 v.cell? ((elA x2_2 1 3).add 2) = some (x203.val)) ∧
 ∃ n204 : Int, (q198 = true →
 (Trip Try.prog 26 #[.agg #[x0_0.val, x0_1.val], x_1.val, .agg #[.int .i64 n201, .int .i64 n202, x203.val]] v fun r205 w206 => r205 = .int .i64 n204 ∧ Sub v w206)) ∧
 ∃ n207 : Int, (q198 = true →
 Wr .i64 (n195 - 1) n207) ∧
 (q198 = true →
 IxOk x0_0 n207) ∧
 ∃ n208 : Int, (q198 = true →
 v.cell? ((elA x0_0 n207 3).add 0) = some (.int .i64 n208)) ∧
 ((q198 && (decide (n204 = n208))) = true →
 ∃ n209 : Int, Wr .i64 (n195 - 1) n209 ∧
 IxOk x0_0 n209 ∧
 ∃ n210 : Int, v.cell? ((elA x0_0 n209 3).add 1) = some (.int .i64 n210) ∧
 Q (.int .i64 n210) v) ∧
 ((q198 && (decide (n204 = n208))) = false →
 Q (.int .i64 (-1)) v)) ∧
 (((decide (n2_1 = 0)) && (decide ((x2_2.n : Int) = 2))) = false →
 Q (.int .i64 (-1)) v)) ∧
 ((decide (n2_0 = 11)) = false →
 Q (.int .i64 (-1)) v)))))))))) ∧
 ((decide (n2_0 = 2)) = false →
 ((decide (n2_0 = 3)) = true →
 ((decide (n2_0 = 3)) = true →
 ∃ q211 : Bool, ((decide (n2_1 = 0)) = true →
 (Trip Try.prog 48 #[.agg #[x0_0.val, x0_1.val], x_1.val, x2_2.val, .int .i64 2] v fun r212 w213 => r212 = .bool q211 ∧ Sub v w213)) ∧
 (((decide (n2_1 = 0)) && q211) = true →
 Q (.int .i64 0) v) ∧
 (((decide (n2_1 = 0)) && q211) = false →
 Q (.int .i64 (-1)) v)) ∧
 ((decide (n2_0 = 3)) = false →
 ((decide (n2_0 = 5)) = true →
 ∃ q214 : Bool, ((decide (n2_1 = 0)) = true →
 (Trip Try.prog 48 #[.agg #[x0_0.val, x0_1.val], x_1.val, x2_2.val, .int .i64 1] v fun r215 w216 => r215 = .bool q214 ∧ Sub v w216)) ∧
 (((decide (n2_1 = 0)) && q214) = true →
 Q (.int .i64 0) v) ∧
 (((decide (n2_1 = 0)) && q214) = false →
 Q (.int .i64 (-1)) v)) ∧
 ((decide (n2_0 = 5)) = false →
 ((decide (n2_0 = 6)) = true →
 ∃ n217 : Int, (Trip Try.prog 49 #[x0_0.val, .int .i64 n2_1] v fun r218 w219 => r218 = .int .i64 n217 ∧ Sub v w219) ∧
 ((decide (n217 > 0)) = true →
 Trip Try.prog 51 #[x0_0.val, .int .i64 n2_1] v fun r220 w221 =>
 ∃ x222 : Sl, r220 = x222.val ∧
 Sub v w221 ∧
 ∃ q223 : Bool, (Trip Try.prog 50 #[.agg #[x0_0.val, x0_1.val], x_1.val, x2_2.val, x222.val] w221 fun r224 w225 => r224 = .bool q223 ∧ Sub w221 w225) ∧
 (q223 = true →
 ∃ n226 : Int, (Trip Try.prog 49 #[x0_0.val, .int .i64 n2_1] w221 fun r227 w228 => r227 = .int .i64 n226 ∧ Sub w221 w228) ∧
 Q (.int .i64 n226) w221) ∧
 (q223 = false →
 Q (.int .i64 (-1)) w221)) ∧
 ((decide (n217 > 0)) = false →
 Sub v v ∧
 Q (.int .i64 (-1)) v)) ∧
 ((decide (n2_0 = 6)) = false →
 ((decide (n2_0 = 13)) = true →
 (((decide (n2_1 = 0)) && (decide ((x2_2.n : Int) = 2))) = true →
 IxOk x2_2 0 ∧
 ldT v x2_2 0 fun n229 n230 x231 =>
 ∃ n232 : Int, (Trip Try.prog 26 #[.agg #[x0_0.val, x0_1.val], x_1.val, .agg #[.int .i64 n229, .int .i64 n230, x231.val]] v fun r233 w234 => r233 = .int .i64 n232 ∧ Sub v w234) ∧
 ((decide (n232 ≥ 0)) = true →
 IxOk x2_2 1 ∧
 ldT v x2_2 1 fun n235 n236 x237 =>
 StepT Try.prog (Instr.buildSlice 27 1 #[(0, (.int .i64 n232))]) v fun r238 w239 =>
 ∃ x240 : Sl, r238 = x240.val ∧
 Sub v w239 ∧
 Trip Try.prog 36 #[x_1.val, x240.val] w239 fun r241 w242 =>
 ∃ x243 : Sl, r241 = x243.val ∧
 Sub w239 w242 ∧
 ∃ n244 : Int, (Trip Try.prog 26 #[.agg #[x0_0.val, x0_1.val], x243.val, .agg #[.int .i64 n235, .int .i64 n236, x237.val]] w242 fun r245 w246 => r245 = .int .i64 n244 ∧ Sub w242 w246) ∧
 Q (.int .i64 n244) w242) ∧
 ((decide (n232 ≥ 0)) = false →
 Q (.int .i64 (-1)) v)) ∧
 (((decide (n2_1 = 0)) && (decide ((x2_2.n : Int) = 2))) = false →
 Q (.int .i64 (-1)) v)) ∧
 ((decide (n2_0 = 13)) = false →
 ((decide (n2_0 = 7)) = true →
 (((decide (n2_1 = 0)) && (decide ((x2_2.n : Int) = 3))) = true →
 IxOk x2_2 0) ∧
 ∃ n247 : Int, ∃ n248 : Int, ∃ x249 : Sl, (((decide (n2_1 = 0)) && (decide ((x2_2.n : Int) = 3))) = true →
 v.cell? ((elA x2_2 0 3).add 0) = some (.int .i64 n247) ∧
 v.cell? ((elA x2_2 0 3).add 1) = some (.int .i64 n248) ∧
 v.cell? ((elA x2_2 0 3).add 2) = some (x249.val)) ∧
 ∃ n250 : Int, (((decide (n2_1 = 0)) && (decide ((x2_2.n : Int) = 3))) = true →
 (Trip Try.prog 26 #[.agg #[x0_0.val, x0_1.val], x_1.val, .agg #[.int .i64 n247, .int .i64 n248, x249.val]] v fun r251 w252 => r251 = .int .i64 n250 ∧ Sub v w252)) ∧
 ((((decide (n2_1 = 0)) && (decide ((x2_2.n : Int) = 3))) && (decide (n250 = 0))) = true →
 IxOk x2_2 1 ∧
 ldT v x2_2 1 fun n253 n254 x255 =>
 ∃ n256 : Int, (Trip Try.prog 26 #[.agg #[x0_0.val, x0_1.val], x_1.val, .agg #[.int .i64 n253, .int .i64 n254, x255.val]] v fun r257 w258 => r257 = .int .i64 n256 ∧ Sub v w258) ∧
 IxOk x2_2 2 ∧
 ldT v x2_2 2 fun n259 n260 x261 =>
 ∃ n262 : Int, (Trip Try.prog 26 #[.agg #[x0_0.val, x0_1.val], x_1.val, .agg #[.int .i64 n259, .int .i64 n260, x261.val]] v fun r263 w264 => r263 = .int .i64 n262 ∧ Sub v w264) ∧
 ((decide (n262 = n256)) = true →
 Q (.int .i64 n256) v) ∧
 ((decide (n262 = n256)) = false →
 Q (.int .i64 (-1)) v)) ∧
 ((((decide (n2_1 = 0)) && (decide ((x2_2.n : Int) = 3))) && (decide (n250 = 0))) = false →
 Q (.int .i64 (-1)) v)) ∧
 ((decide (n2_0 = 7)) = false →
 ((decide (n2_0 = 8)) = true →
 ∃ n265 : Int, (Trip Try.prog 52 #[.agg #[x0_0.val, x0_1.val], x_1.val, .agg #[.int .i64 n2_0, .int .i64 n2_1, x2_2.val]] v fun r266 w267 => r266 = .int .i64 n265 ∧ Sub v w267) ∧
 Q (.int .i64 n265) v) ∧
 ((decide (n2_0 = 8)) = false →
 ((decide (n2_0 = 9)) = true →
 ((decide (n2_0 = 9)) = true →
 ∃ n268 : Int, (Trip Try.prog 53 #[.agg #[x0_0.val, x0_1.val], x_1.val, .agg #[.int .i64 n2_0, .int .i64 n2_1, x2_2.val]] v fun r269 w270 => r269 = .int .i64 n268 ∧ Sub v w270) ∧
 Q (.int .i64 n268) v) ∧
 ((decide (n2_0 = 9)) = false →
 ((decide (n2_0 = 11)) = true →
 (((decide (n2_1 = 0)) && (decide ((x2_2.n : Int) = 2))) = true →
 IxOk x2_2 0 ∧
 ldT v x2_2 0 fun n271 n272 x273 =>
 ∃ n274 : Int, (Trip Try.prog 26 #[.agg #[x0_0.val, x0_1.val], x_1.val, .agg #[.int .i64 n271, .int .i64 n272, x273.val]] v fun r275 w276 => r275 = .int .i64 n274 ∧ Sub v w276) ∧
 ∃ q277 : Bool, (Trip Try.prog 54 #[x0_0.val, .int .i64 n274] v fun r278 w279 => r278 = .bool q277 ∧ Sub v w279) ∧
 (q277 = true →
 IxOk x2_2 1) ∧
 ∃ n280 : Int, ∃ n281 : Int, ∃ x282 : Sl, (q277 = true →
 v.cell? ((elA x2_2 1 3).add 0) = some (.int .i64 n280) ∧
 v.cell? ((elA x2_2 1 3).add 1) = some (.int .i64 n281) ∧
 v.cell? ((elA x2_2 1 3).add 2) = some (x282.val)) ∧
 ∃ n283 : Int, (q277 = true →
 (Trip Try.prog 26 #[.agg #[x0_0.val, x0_1.val], x_1.val, .agg #[.int .i64 n280, .int .i64 n281, x282.val]] v fun r284 w285 => r284 = .int .i64 n283 ∧ Sub v w285)) ∧
 ∃ n286 : Int, (q277 = true →
 Wr .i64 (n274 - 1) n286) ∧
 (q277 = true →
 IxOk x0_0 n286) ∧
 ∃ n287 : Int, (q277 = true →
 v.cell? ((elA x0_0 n286 3).add 0) = some (.int .i64 n287)) ∧
 ((q277 && (decide (n283 = n287))) = true →
 ∃ n288 : Int, Wr .i64 (n274 - 1) n288 ∧
 IxOk x0_0 n288 ∧
 ∃ n289 : Int, v.cell? ((elA x0_0 n288 3).add 1) = some (.int .i64 n289) ∧
 Q (.int .i64 n289) v) ∧
 ((q277 && (decide (n283 = n287))) = false →
 Q (.int .i64 (-1)) v)) ∧
 (((decide (n2_1 = 0)) && (decide ((x2_2.n : Int) = 2))) = false →
 Q (.int .i64 (-1)) v)) ∧
 ((decide (n2_0 = 11)) = false →
 Q (.int .i64 (-1)) v))) ∧
 ((decide (n2_0 = 9)) = false →
 ((decide (n2_0 = 10)) = true →
 ∃ n290 : Int, (Trip Try.prog 53 #[.agg #[x0_0.val, x0_1.val], x_1.val, .agg #[.int .i64 n2_0, .int .i64 n2_1, x2_2.val]] v fun r291 w292 => r291 = .int .i64 n290 ∧ Sub v w292) ∧
 Q (.int .i64 n290) v) ∧
 ((decide (n2_0 = 10)) = false →
 ((decide (n2_0 = 11)) = true →
 (((decide (n2_1 = 0)) && (decide ((x2_2.n : Int) = 2))) = true →
 IxOk x2_2 0 ∧
 ldT v x2_2 0 fun n293 n294 x295 =>
 ∃ n296 : Int, (Trip Try.prog 26 #[.agg #[x0_0.val, x0_1.val], x_1.val, .agg #[.int .i64 n293, .int .i64 n294, x295.val]] v fun r297 w298 => r297 = .int .i64 n296 ∧ Sub v w298) ∧
 ∃ q299 : Bool, (Trip Try.prog 54 #[x0_0.val, .int .i64 n296] v fun r300 w301 => r300 = .bool q299 ∧ Sub v w301) ∧
 (q299 = true →
 IxOk x2_2 1) ∧
 ∃ n302 : Int, ∃ n303 : Int, ∃ x304 : Sl, (q299 = true →
 v.cell? ((elA x2_2 1 3).add 0) = some (.int .i64 n302) ∧
 v.cell? ((elA x2_2 1 3).add 1) = some (.int .i64 n303) ∧
 v.cell? ((elA x2_2 1 3).add 2) = some (x304.val)) ∧
 ∃ n305 : Int, (q299 = true →
 (Trip Try.prog 26 #[.agg #[x0_0.val, x0_1.val], x_1.val, .agg #[.int .i64 n302, .int .i64 n303, x304.val]] v fun r306 w307 => r306 = .int .i64 n305 ∧ Sub v w307)) ∧
 ∃ n308 : Int, (q299 = true →
 Wr .i64 (n296 - 1) n308) ∧
 (q299 = true →
 IxOk x0_0 n308) ∧
 ∃ n309 : Int, (q299 = true →
 v.cell? ((elA x0_0 n308 3).add 0) = some (.int .i64 n309)) ∧
 ((q299 && (decide (n305 = n309))) = true →
 ∃ n310 : Int, Wr .i64 (n296 - 1) n310 ∧
 IxOk x0_0 n310 ∧
 ∃ n311 : Int, v.cell? ((elA x0_0 n310 3).add 1) = some (.int .i64 n311) ∧
 Q (.int .i64 n311) v) ∧
 ((q299 && (decide (n305 = n309))) = false →
 Q (.int .i64 (-1)) v)) ∧
 (((decide (n2_1 = 0)) && (decide ((x2_2.n : Int) = 2))) = false →
 Q (.int .i64 (-1)) v)) ∧
 ((decide (n2_0 = 11)) = false →
 Q (.int .i64 (-1)) v)))))))))) ∧
 ((decide (n2_0 = 3)) = false →
 ((decide (n2_0 = 4)) = true →
 ∃ q312 : Bool, ((decide (n2_1 = 0)) = true →
 (Trip Try.prog 48 #[.agg #[x0_0.val, x0_1.val], x_1.val, x2_2.val, .int .i64 2] v fun r313 w314 => r313 = .bool q312 ∧ Sub v w314)) ∧
 (((decide (n2_1 = 0)) && q312) = true →
 Q (.int .i64 0) v) ∧
 (((decide (n2_1 = 0)) && q312) = false →
 Q (.int .i64 (-1)) v)) ∧
 ((decide (n2_0 = 4)) = false →
 ((decide (n2_0 = 5)) = true →
 ∃ q315 : Bool, ((decide (n2_1 = 0)) = true →
 (Trip Try.prog 48 #[.agg #[x0_0.val, x0_1.val], x_1.val, x2_2.val, .int .i64 1] v fun r316 w317 => r316 = .bool q315 ∧ Sub v w317)) ∧
 (((decide (n2_1 = 0)) && q315) = true →
 Q (.int .i64 0) v) ∧
 (((decide (n2_1 = 0)) && q315) = false →
 Q (.int .i64 (-1)) v)) ∧
 ((decide (n2_0 = 5)) = false →
 ((decide (n2_0 = 6)) = true →
 ∃ n318 : Int, (Trip Try.prog 49 #[x0_0.val, .int .i64 n2_1] v fun r319 w320 => r319 = .int .i64 n318 ∧ Sub v w320) ∧
 ((decide (n318 > 0)) = true →
 Trip Try.prog 51 #[x0_0.val, .int .i64 n2_1] v fun r321 w322 =>
 ∃ x323 : Sl, r321 = x323.val ∧
 Sub v w322 ∧
 ∃ q324 : Bool, (Trip Try.prog 50 #[.agg #[x0_0.val, x0_1.val], x_1.val, x2_2.val, x323.val] w322 fun r325 w326 => r325 = .bool q324 ∧ Sub w322 w326) ∧
 (q324 = true →
 ∃ n327 : Int, (Trip Try.prog 49 #[x0_0.val, .int .i64 n2_1] w322 fun r328 w329 => r328 = .int .i64 n327 ∧ Sub w322 w329) ∧
 Q (.int .i64 n327) w322) ∧
 (q324 = false →
 Q (.int .i64 (-1)) w322)) ∧
 ((decide (n318 > 0)) = false →
 Sub v v ∧
 Q (.int .i64 (-1)) v)) ∧
 ((decide (n2_0 = 6)) = false →
 ((decide (n2_0 = 13)) = true →
 (((decide (n2_1 = 0)) && (decide ((x2_2.n : Int) = 2))) = true →
 IxOk x2_2 0 ∧
 ldT v x2_2 0 fun n330 n331 x332 =>
 ∃ n333 : Int, (Trip Try.prog 26 #[.agg #[x0_0.val, x0_1.val], x_1.val, .agg #[.int .i64 n330, .int .i64 n331, x332.val]] v fun r334 w335 => r334 = .int .i64 n333 ∧ Sub v w335) ∧
 ((decide (n333 ≥ 0)) = true →
 IxOk x2_2 1 ∧
 ldT v x2_2 1 fun n336 n337 x338 =>
 StepT Try.prog (Instr.buildSlice 27 1 #[(0, (.int .i64 n333))]) v fun r339 w340 =>
 ∃ x341 : Sl, r339 = x341.val ∧
 Sub v w340 ∧
 Trip Try.prog 36 #[x_1.val, x341.val] w340 fun r342 w343 =>
 ∃ x344 : Sl, r342 = x344.val ∧
 Sub w340 w343 ∧
 ∃ n345 : Int, (Trip Try.prog 26 #[.agg #[x0_0.val, x0_1.val], x344.val, .agg #[.int .i64 n336, .int .i64 n337, x338.val]] w343 fun r346 w347 => r346 = .int .i64 n345 ∧ Sub w343 w347) ∧
 Q (.int .i64 n345) w343) ∧
 ((decide (n333 ≥ 0)) = false →
 Q (.int .i64 (-1)) v)) ∧
 (((decide (n2_1 = 0)) && (decide ((x2_2.n : Int) = 2))) = false →
 Q (.int .i64 (-1)) v)) ∧
 ((decide (n2_0 = 13)) = false →
 ((decide (n2_0 = 7)) = true →
 (((decide (n2_1 = 0)) && (decide ((x2_2.n : Int) = 3))) = true →
 IxOk x2_2 0) ∧
 ∃ n348 : Int, ∃ n349 : Int, ∃ x350 : Sl, (((decide (n2_1 = 0)) && (decide ((x2_2.n : Int) = 3))) = true →
 v.cell? ((elA x2_2 0 3).add 0) = some (.int .i64 n348) ∧
 v.cell? ((elA x2_2 0 3).add 1) = some (.int .i64 n349) ∧
 v.cell? ((elA x2_2 0 3).add 2) = some (x350.val)) ∧
 ∃ n351 : Int, (((decide (n2_1 = 0)) && (decide ((x2_2.n : Int) = 3))) = true →
 (Trip Try.prog 26 #[.agg #[x0_0.val, x0_1.val], x_1.val, .agg #[.int .i64 n348, .int .i64 n349, x350.val]] v fun r352 w353 => r352 = .int .i64 n351 ∧ Sub v w353)) ∧
 ((((decide (n2_1 = 0)) && (decide ((x2_2.n : Int) = 3))) && (decide (n351 = 0))) = true →
 IxOk x2_2 1 ∧
 ldT v x2_2 1 fun n354 n355 x356 =>
 ∃ n357 : Int, (Trip Try.prog 26 #[.agg #[x0_0.val, x0_1.val], x_1.val, .agg #[.int .i64 n354, .int .i64 n355, x356.val]] v fun r358 w359 => r358 = .int .i64 n357 ∧ Sub v w359) ∧
 IxOk x2_2 2 ∧
 ldT v x2_2 2 fun n360 n361 x362 =>
 ∃ n363 : Int, (Trip Try.prog 26 #[.agg #[x0_0.val, x0_1.val], x_1.val, .agg #[.int .i64 n360, .int .i64 n361, x362.val]] v fun r364 w365 => r364 = .int .i64 n363 ∧ Sub v w365) ∧
 ((decide (n363 = n357)) = true →
 Q (.int .i64 n357) v) ∧
 ((decide (n363 = n357)) = false →
 Q (.int .i64 (-1)) v)) ∧
 ((((decide (n2_1 = 0)) && (decide ((x2_2.n : Int) = 3))) && (decide (n351 = 0))) = false →
 Q (.int .i64 (-1)) v)) ∧
 ((decide (n2_0 = 7)) = false →
 ((decide (n2_0 = 8)) = true →
 ∃ n366 : Int, (Trip Try.prog 52 #[.agg #[x0_0.val, x0_1.val], x_1.val, .agg #[.int .i64 n2_0, .int .i64 n2_1, x2_2.val]] v fun r367 w368 => r367 = .int .i64 n366 ∧ Sub v w368) ∧
 Q (.int .i64 n366) v) ∧
 ((decide (n2_0 = 8)) = false →
 ((decide (n2_0 = 9)) = true →
 ((decide (n2_0 = 9)) = true →
 ∃ n369 : Int, (Trip Try.prog 53 #[.agg #[x0_0.val, x0_1.val], x_1.val, .agg #[.int .i64 n2_0, .int .i64 n2_1, x2_2.val]] v fun r370 w371 => r370 = .int .i64 n369 ∧ Sub v w371) ∧
 Q (.int .i64 n369) v) ∧
 ((decide (n2_0 = 9)) = false →
 ((decide (n2_0 = 11)) = true →
 (((decide (n2_1 = 0)) && (decide ((x2_2.n : Int) = 2))) = true →
 IxOk x2_2 0 ∧
 ldT v x2_2 0 fun n372 n373 x374 =>
 ∃ n375 : Int, (Trip Try.prog 26 #[.agg #[x0_0.val, x0_1.val], x_1.val, .agg #[.int .i64 n372, .int .i64 n373, x374.val]] v fun r376 w377 => r376 = .int .i64 n375 ∧ Sub v w377) ∧
 ∃ q378 : Bool, (Trip Try.prog 54 #[x0_0.val, .int .i64 n375] v fun r379 w380 => r379 = .bool q378 ∧ Sub v w380) ∧
 (q378 = true →
 IxOk x2_2 1) ∧
 ∃ n381 : Int, ∃ n382 : Int, ∃ x383 : Sl, (q378 = true →
 v.cell? ((elA x2_2 1 3).add 0) = some (.int .i64 n381) ∧
 v.cell? ((elA x2_2 1 3).add 1) = some (.int .i64 n382) ∧
 v.cell? ((elA x2_2 1 3).add 2) = some (x383.val)) ∧
 ∃ n384 : Int, (q378 = true →
 (Trip Try.prog 26 #[.agg #[x0_0.val, x0_1.val], x_1.val, .agg #[.int .i64 n381, .int .i64 n382, x383.val]] v fun r385 w386 => r385 = .int .i64 n384 ∧ Sub v w386)) ∧
 ∃ n387 : Int, (q378 = true →
 Wr .i64 (n375 - 1) n387) ∧
 (q378 = true →
 IxOk x0_0 n387) ∧
 ∃ n388 : Int, (q378 = true →
 v.cell? ((elA x0_0 n387 3).add 0) = some (.int .i64 n388)) ∧
 ((q378 && (decide (n384 = n388))) = true →
 ∃ n389 : Int, Wr .i64 (n375 - 1) n389 ∧
 IxOk x0_0 n389 ∧
 ∃ n390 : Int, v.cell? ((elA x0_0 n389 3).add 1) = some (.int .i64 n390) ∧
 Q (.int .i64 n390) v) ∧
 ((q378 && (decide (n384 = n388))) = false →
 Q (.int .i64 (-1)) v)) ∧
 (((decide (n2_1 = 0)) && (decide ((x2_2.n : Int) = 2))) = false →
 Q (.int .i64 (-1)) v)) ∧
 ((decide (n2_0 = 11)) = false →
 Q (.int .i64 (-1)) v))) ∧
 ((decide (n2_0 = 9)) = false →
 ((decide (n2_0 = 10)) = true →
 ∃ n391 : Int, (Trip Try.prog 53 #[.agg #[x0_0.val, x0_1.val], x_1.val, .agg #[.int .i64 n2_0, .int .i64 n2_1, x2_2.val]] v fun r392 w393 => r392 = .int .i64 n391 ∧ Sub v w393) ∧
 Q (.int .i64 n391) v) ∧
 ((decide (n2_0 = 10)) = false →
 ((decide (n2_0 = 11)) = true →
 (((decide (n2_1 = 0)) && (decide ((x2_2.n : Int) = 2))) = true →
 IxOk x2_2 0 ∧
 ldT v x2_2 0 fun n394 n395 x396 =>
 ∃ n397 : Int, (Trip Try.prog 26 #[.agg #[x0_0.val, x0_1.val], x_1.val, .agg #[.int .i64 n394, .int .i64 n395, x396.val]] v fun r398 w399 => r398 = .int .i64 n397 ∧ Sub v w399) ∧
 ∃ q400 : Bool, (Trip Try.prog 54 #[x0_0.val, .int .i64 n397] v fun r401 w402 => r401 = .bool q400 ∧ Sub v w402) ∧
 (q400 = true →
 IxOk x2_2 1) ∧
 ∃ n403 : Int, ∃ n404 : Int, ∃ x405 : Sl, (q400 = true →
 v.cell? ((elA x2_2 1 3).add 0) = some (.int .i64 n403) ∧
 v.cell? ((elA x2_2 1 3).add 1) = some (.int .i64 n404) ∧
 v.cell? ((elA x2_2 1 3).add 2) = some (x405.val)) ∧
 ∃ n406 : Int, (q400 = true →
 (Trip Try.prog 26 #[.agg #[x0_0.val, x0_1.val], x_1.val, .agg #[.int .i64 n403, .int .i64 n404, x405.val]] v fun r407 w408 => r407 = .int .i64 n406 ∧ Sub v w408)) ∧
 ∃ n409 : Int, (q400 = true →
 Wr .i64 (n397 - 1) n409) ∧
 (q400 = true →
 IxOk x0_0 n409) ∧
 ∃ n410 : Int, (q400 = true →
 v.cell? ((elA x0_0 n409 3).add 0) = some (.int .i64 n410)) ∧
 ((q400 && (decide (n406 = n410))) = true →
 ∃ n411 : Int, Wr .i64 (n397 - 1) n411 ∧
 IxOk x0_0 n411 ∧
 ∃ n412 : Int, v.cell? ((elA x0_0 n411 3).add 1) = some (.int .i64 n412) ∧
 Q (.int .i64 n412) v) ∧
 ((q400 && (decide (n406 = n410))) = false →
 Q (.int .i64 (-1)) v)) ∧
 (((decide (n2_1 = 0)) && (decide ((x2_2.n : Int) = 2))) = false →
 Q (.int .i64 (-1)) v)) ∧
 ((decide (n2_0 = 11)) = false →
 Q (.int .i64 (-1)) v))))))))))))))
theorem of26 (x0_0 : Sl) (x0_1 : Sl) (x_1 : Sl) (n2_0 : Int) (n2_1 : Int) (x2_2 : Sl) (v : World) (Q : Value → World → Prop) (h : vc26 x0_0 x0_1 x_1 n2_0 n2_1 x2_2 v Q) : Trip Try.prog 26 #[.agg #[x0_0.val, x0_1.val], x_1.val, .agg #[.int .i64 n2_0, .int .i64 n2_1, x2_2.val]] v Q :=
 trip_of_eq (args := [.ag [.sl x0_0, .sl x0_1], .sl x_1, .ag [.num .i64 n2_0, .num .i64 n2_1, .sl x2_2]]) (A := ⟨[], [], [(19, [15]), (25, [3, 4])], [], psG⟩) Try.func26 (by kernel_rfl) (by kernel_rfl) (by kernel_rfl : vc26 x0_0 x0_1 x_1 n2_0 n2_1 x2_2 v Q = _) h

def vc27 (n0_0 : Int) (n0_1 : Int) (x0_2 : Sl) (f_1 : Nat) (k1_0 : Addr) (v : World) (Q : Value → World → Prop) : Prop :=
 Trip Try.prog f_1 #[.agg #[.int .i64 n0_0, .int .i64 n0_1, x0_2.val], .pointer (some (k1_0.add 0))] v fun r1 w2 =>
 r1 = .tuple #[] ∧
 ∃ I3 : Int → World → Prop, ∃ m4 : Int → World → Nat, I3 0 w2 ∧
 ∀ n5 : Int, ∀ w6 : World, I3 n5 w6 →
 ((decide (n5 < (x0_2.n : Int))) = true →
 IxOk x0_2 n5 ∧
 ldT w6 x0_2 n5 fun n7 n8 x9 =>
 Trip Try.prog 27 #[.agg #[.int .i64 n7, .int .i64 n8, x9.val], .func (.func f_1) #[] #[.pointer (some (k1_0.add 0))]] w6 fun r10 w11 =>
 r10 = .tuple #[] ∧
 ∃ n12 : Int, Wr .i64 (n5 + 1) n12 ∧
 eqS (.num .i64 n0_0) ∧
 eqS (.num .i64 n0_1) ∧
 eqS (.sl x0_2) ∧
 I3 n12 w11 ∧
 m4 n12 w11 < m4 n5 w6) ∧
 ((decide (n5 < (x0_2.n : Int))) = false →
 Q (.tuple #[]) w6)
theorem of27 (n0_0 : Int) (n0_1 : Int) (x0_2 : Sl) (f_1 : Nat) (k1_0 : Addr) (v : World) (Q : Value → World → Prop) (h : vc27 n0_0 n0_1 x0_2 f_1 k1_0 v Q) : Trip Try.prog 27 #[.agg #[.int .i64 n0_0, .int .i64 n0_1, x0_2.val], .func (.func f_1) #[] #[.pointer (some (k1_0.add 0))]] v Q :=
 trip_of_eq (args := [.ag [.num .i64 n0_0, .num .i64 n0_1, .sl x0_2], .clo f_1 [.pt k1_0 0]]) (A := ⟨[(3, [(12, .int .i64)], [])], [], [], [], psG⟩) Try.func27 (by kernel_rfl) (by kernel_rfl) (by kernel_rfl : vc27 n0_0 n0_1 x0_2 f_1 k1_0 v Q = _) h

def vc28 (n0_0 : Int) (n0_1 : Int) (x0_2 : Sl) (c_0 : Addr) (v : World) (Q : Value → World → Prop) : Prop :=
 ∃ q1 : Bool, v.cell? (c_0.add 0) = some (.bool q1) ∧
 StoreAt v c_0 0 [.bool (q1 && ((!decide (n0_0 = 12)) || ((decide (n0_1 ≥ 0)) && (decide (n0_1 ≤ 99)))))] fun w2 =>
 Q (.tuple #[]) w2
theorem of28 (n0_0 : Int) (n0_1 : Int) (x0_2 : Sl) (c_0 : Addr) (v : World) (Q : Value → World → Prop) (h : vc28 n0_0 n0_1 x0_2 c_0 v Q) : Trip Try.prog 28 #[.agg #[.int .i64 n0_0, .int .i64 n0_1, x0_2.val], .pointer (some (c_0.add 0))] v Q :=
 trip_of_eq (args := [.ag [.num .i64 n0_0, .num .i64 n0_1, .sl x0_2], .pt c_0 0]) (A := ⟨[], [], [], [], psG⟩) Try.func28 (by kernel_rfl) (by kernel_rfl) (by kernel_rfl : vc28 n0_0 n0_1 x0_2 c_0 v Q = _) h

def vc29 (n0_0 : Int) (n0_1 : Int) (x0_2 : Sl) (n_1 : Int) (n_2 : Int) (v : World) (Q : Value → World → Prop) : Prop :=
 (((decide (n0_0 = 12)) && (decide (n0_1 ≥ n_1))) = true →
 ∃ n1 : Int, Wr .i64 (n0_1 + n_2) n1 ∧
 ∃ I2 : Int → Sl → World → Prop, ∃ m3 : Int → Sl → World → Nat, I2 0 (Sl.mk none 0 0) v ∧
 ∀ n4 : Int, ∀ x5 : Sl, ∀ w6 : World, I2 n4 x5 w6 →
 ((decide (n4 < (x0_2.n : Int))) = true →
 IxOk x0_2 n4 ∧
 ldT w6 x0_2 n4 fun n7 n8 x9 =>
 Trip Try.prog 29 #[.agg #[.int .i64 n7, .int .i64 n8, x9.val], .int .i64 n_1, .int .i64 n_2] w6 fun r10 w11 =>
 ∃ n12 : Int, ∃ n13 : Int, ∃ x14 : Sl, r10 = .agg #[.int .i64 n12, .int .i64 n13, x14.val] ∧
 StepT Try.prog (Instr.buildSlice 28 1 #[(0, (.agg #[.int .i64 n12, .int .i64 n13, x14.val]))]) w11 fun r15 w16 =>
 ∃ x17 : Sl, r15 = x17.val ∧
 StepT Try.prog (Builtin.append_ #[28, 28] 28 #[(x5.val), (x17.val)]) w16 fun r18 w19 =>
 ∃ x20 : Sl, r18 = x20.val ∧
 ∃ n21 : Int, Wr .i64 (n4 + 1) n21 ∧
 eqS (.num .i64 n0_0) ∧
 eqS (.num .i64 n1) ∧
 eqS (.num .i64 0) ∧
 eqS (.num .i64 0) ∧
 eqS (.sl (Sl.mk none 0 0)) ∧
 I2 n21 x20 w19 ∧
 m3 n21 x20 w19 < m3 n4 x5 w6) ∧
 ((decide (n4 < (x0_2.n : Int))) = false →
 Q (.agg #[.int .i64 n0_0, .int .i64 n1, x5.val]) w6)) ∧
 (((decide (n0_0 = 12)) && (decide (n0_1 ≥ n_1))) = false →
 ∃ I22 : Int → Sl → World → Prop, ∃ m23 : Int → Sl → World → Nat, I22 0 (Sl.mk none 0 0) v ∧
 ∀ n24 : Int, ∀ x25 : Sl, ∀ w26 : World, I22 n24 x25 w26 →
 ((decide (n24 < (x0_2.n : Int))) = true →
 IxOk x0_2 n24 ∧
 ldT w26 x0_2 n24 fun n27 n28 x29 =>
 Trip Try.prog 29 #[.agg #[.int .i64 n27, .int .i64 n28, x29.val], .int .i64 n_1, .int .i64 n_2] w26 fun r30 w31 =>
 ∃ n32 : Int, ∃ n33 : Int, ∃ x34 : Sl, r30 = .agg #[.int .i64 n32, .int .i64 n33, x34.val] ∧
 StepT Try.prog (Instr.buildSlice 28 1 #[(0, (.agg #[.int .i64 n32, .int .i64 n33, x34.val]))]) w31 fun r35 w36 =>
 ∃ x37 : Sl, r35 = x37.val ∧
 StepT Try.prog (Builtin.append_ #[28, 28] 28 #[(x25.val), (x37.val)]) w36 fun r38 w39 =>
 ∃ x40 : Sl, r38 = x40.val ∧
 ∃ n41 : Int, Wr .i64 (n24 + 1) n41 ∧
 eqS (.num .i64 n0_0) ∧
 eqS (.num .i64 n0_1) ∧
 eqS (.num .i64 0) ∧
 eqS (.num .i64 0) ∧
 eqS (.sl (Sl.mk none 0 0)) ∧
 I22 n41 x40 w39 ∧
 m23 n41 x40 w39 < m23 n24 x25 w26) ∧
 ((decide (n24 < (x0_2.n : Int))) = false →
 Q (.agg #[.int .i64 n0_0, .int .i64 n0_1, x25.val]) w26))
theorem of29 (n0_0 : Int) (n0_1 : Int) (x0_2 : Sl) (n_1 : Int) (n_2 : Int) (v : World) (Q : Value → World → Prop) (h : vc29 n0_0 n0_1 x0_2 n_1 n_2 v Q) : Trip Try.prog 29 #[.agg #[.int .i64 n0_0, .int .i64 n0_1, x0_2.val], .int .i64 n_1, .int .i64 n_2] v Q :=
 trip_of_eq (args := [.ag [.num .i64 n0_0, .num .i64 n0_1, .sl x0_2], .num .i64 n_1, .num .i64 n_2]) (A := ⟨[(6, [(29, .int .i64)], [(0, 2, .sl)])], [], [(8, [])], [], psG⟩) Try.func29 (by kernel_rfl) (by kernel_rfl) (by kernel_rfl : vc29 n0_0 n0_1 x0_2 n_1 n_2 v Q = _) h

def vc30 (a_0 : Addr) (v : World) (Q : Value → World → Prop) : Prop :=
 Trip Try.prog 55 #[.pointer (some (a_0.add 0))] v fun r1 w2 =>
 ∃ x3 : Sl, r1 = x3.val ∧
 ∃ J4 : Sl → World → Prop, (StepT Try.prog (Instr.buildSlice 27 1 #[(0, (.int .i64 1))]) w2 fun r5 w6 =>
 ∃ x7 : Sl, r5 = x7.val ∧
 Trip Try.prog 56 #[x7.val, .int .i64 0] w6 fun r8 w9 =>
 ∃ x10 : Sl, ∃ n11 : Int, ∃ n12 : Int, ∃ n13 : Int, ∃ x14 : Sl, r8 = .agg #[x10.val, .int .i64 n11, .int .i64 n12, .int .i64 n13, x14.val] ∧
 StepT Try.prog (Instr.buildSlice 27 2 #[(0, (.int .i64 1)), (1, (.int .i64 1))]) w9 fun r15 w16 =>
 ∃ x17 : Sl, r15 = x17.val ∧
 Trip Try.prog 56 #[x17.val, .int .i64 1] w16 fun r18 w19 =>
 ∃ x20 : Sl, ∃ n21 : Int, ∃ n22 : Int, ∃ n23 : Int, ∃ x24 : Sl, r18 = .agg #[x20.val, .int .i64 n21, .int .i64 n22, .int .i64 n23, x24.val] ∧
 StepT Try.prog (Instr.buildSlice 27 1 #[(0, (.int .i64 1))]) w19 fun r25 w26 =>
 ∃ x27 : Sl, r25 = x27.val ∧
 Trip Try.prog 56 #[x27.val, .int .i64 1] w26 fun r28 w29 =>
 ∃ x30 : Sl, ∃ n31 : Int, ∃ n32 : Int, ∃ n33 : Int, ∃ x34 : Sl, r28 = .agg #[x30.val, .int .i64 n31, .int .i64 n32, .int .i64 n33, x34.val] ∧
 StepT Try.prog (Instr.buildSlice 27 2 #[(0, (.int .i64 1)), (1, (.int .i64 0))]) w29 fun r35 w36 =>
 ∃ x37 : Sl, r35 = x37.val ∧
 Trip Try.prog 56 #[x37.val, .int .i64 1] w36 fun r38 w39 =>
 ∃ x40 : Sl, ∃ n41 : Int, ∃ n42 : Int, ∃ n43 : Int, ∃ x44 : Sl, r38 = .agg #[x40.val, .int .i64 n41, .int .i64 n42, .int .i64 n43, x44.val] ∧
 StepT Try.prog (Instr.buildSlice 27 2 #[(0, (.int .i64 2)), (1, (.int .i64 1))]) w39 fun r45 w46 =>
 ∃ x47 : Sl, r45 = x47.val ∧
 Trip Try.prog 56 #[x47.val, .int .i64 1] w46 fun r48 w49 =>
 ∃ x50 : Sl, ∃ n51 : Int, ∃ n52 : Int, ∃ n53 : Int, ∃ x54 : Sl, r48 = .agg #[x50.val, .int .i64 n51, .int .i64 n52, .int .i64 n53, x54.val] ∧
 StepT Try.prog (Instr.buildSlice 27 2 #[(0, (.int .i64 1)), (1, (.int .i64 1))]) w49 fun r55 w56 =>
 ∃ x57 : Sl, r55 = x57.val ∧
 Trip Try.prog 56 #[x57.val, .int .i64 0] w56 fun r58 w59 =>
 ∃ x60 : Sl, ∃ n61 : Int, ∃ n62 : Int, ∃ n63 : Int, ∃ x64 : Sl, r58 = .agg #[x60.val, .int .i64 n61, .int .i64 n62, .int .i64 n63, x64.val] ∧
 StepT Try.prog (Instr.buildSlice 24 6 #[(0, (.agg #[x10.val, .int .i64 n11, .int .i64 n12, .int .i64 n13, x14.val])), (1, (.agg #[x20.val, .int .i64 n21, .int .i64 n22, .int .i64 n23, x24.val])), (2, (.agg #[x30.val, .int .i64 n31, .int .i64 n32, .int .i64 n33, x34.val])), (3, (.agg #[x40.val, .int .i64 n41, .int .i64 n42, .int .i64 n43, x44.val])), (4, (.agg #[x50.val, .int .i64 n51, .int .i64 n52, .int .i64 n53, x54.val])), (5, (.agg #[x60.val, .int .i64 n61, .int .i64 n62, .int .i64 n63, x64.val]))]) w59 fun r65 w66 =>
 ∃ x67 : Sl, r65 = x67.val ∧
 eqS (.sl (Sl.mk none 0 0)) ∧
 eqS (.sl (Sl.mk none 0 0)) ∧
 eqS (.sl x3) ∧
 eqS (.sl (Sl.mk none 0 0)) ∧
 J4 x67 w66) ∧
 ∀ x68 : Sl, ∀ w69 : World, J4 x68 w69 →
 ∃ J70 : Sl → World → Prop, (StepT Try.prog (Instr.buildSlice 27 1 #[(0, (.int .i64 3))]) w69 fun r71 w72 =>
 ∃ x73 : Sl, r71 = x73.val ∧
 Trip Try.prog 56 #[x73.val, .int .i64 0] w72 fun r74 w75 =>
 ∃ x76 : Sl, ∃ n77 : Int, ∃ n78 : Int, ∃ n79 : Int, ∃ x80 : Sl, r74 = .agg #[x76.val, .int .i64 n77, .int .i64 n78, .int .i64 n79, x80.val] ∧
 StepT Try.prog (Instr.buildSlice 27 1 #[(0, (.int .i64 0))]) w75 fun r81 w82 =>
 ∃ x83 : Sl, r81 = x83.val ∧
 Trip Try.prog 56 #[x83.val, .int .i64 1] w82 fun r84 w85 =>
 ∃ x86 : Sl, ∃ n87 : Int, ∃ n88 : Int, ∃ n89 : Int, ∃ x90 : Sl, r84 = .agg #[x86.val, .int .i64 n87, .int .i64 n88, .int .i64 n89, x90.val] ∧
 StepT Try.prog (Instr.buildSlice 27 2 #[(0, (.int .i64 0)), (1, (.int .i64 1))]) w85 fun r91 w92 =>
 ∃ x93 : Sl, r91 = x93.val ∧
 Trip Try.prog 56 #[x93.val, .int .i64 1] w92 fun r94 w95 =>
 ∃ x96 : Sl, ∃ n97 : Int, ∃ n98 : Int, ∃ n99 : Int, ∃ x100 : Sl, r94 = .agg #[x96.val, .int .i64 n97, .int .i64 n98, .int .i64 n99, x100.val] ∧
 StepT Try.prog (Instr.buildSlice 27 2 #[(0, (.int .i64 3)), (1, (.int .i64 0))]) w95 fun r101 w102 =>
 ∃ x103 : Sl, r101 = x103.val ∧
 Trip Try.prog 56 #[x103.val, .int .i64 3] w102 fun r104 w105 =>
 ∃ x106 : Sl, ∃ n107 : Int, ∃ n108 : Int, ∃ n109 : Int, ∃ x110 : Sl, r104 = .agg #[x106.val, .int .i64 n107, .int .i64 n108, .int .i64 n109, x110.val] ∧
 StepT Try.prog (Instr.buildSlice 27 1 #[(0, (.int .i64 3))]) w105 fun r111 w112 =>
 ∃ x113 : Sl, r111 = x113.val ∧
 Trip Try.prog 56 #[x113.val, .int .i64 1] w112 fun r114 w115 =>
 ∃ x116 : Sl, ∃ n117 : Int, ∃ n118 : Int, ∃ n119 : Int, ∃ x120 : Sl, r114 = .agg #[x116.val, .int .i64 n117, .int .i64 n118, .int .i64 n119, x120.val] ∧
 StepT Try.prog (Instr.buildSlice 27 3 #[(0, (.int .i64 1)), (1, (.int .i64 3)), (2, (.int .i64 0))]) w115 fun r121 w122 =>
 ∃ x123 : Sl, r121 = x123.val ∧
 Trip Try.prog 56 #[x123.val, .int .i64 0] w122 fun r124 w125 =>
 ∃ x126 : Sl, ∃ n127 : Int, ∃ n128 : Int, ∃ n129 : Int, ∃ x130 : Sl, r124 = .agg #[x126.val, .int .i64 n127, .int .i64 n128, .int .i64 n129, x130.val] ∧
 StepT Try.prog (Instr.buildSlice 24 6 #[(0, (.agg #[x76.val, .int .i64 n77, .int .i64 n78, .int .i64 n79, x80.val])), (1, (.agg #[x86.val, .int .i64 n87, .int .i64 n88, .int .i64 n89, x90.val])), (2, (.agg #[x96.val, .int .i64 n97, .int .i64 n98, .int .i64 n99, x100.val])), (3, (.agg #[x106.val, .int .i64 n107, .int .i64 n108, .int .i64 n109, x110.val])), (4, (.agg #[x116.val, .int .i64 n117, .int .i64 n118, .int .i64 n119, x120.val])), (5, (.agg #[x126.val, .int .i64 n127, .int .i64 n128, .int .i64 n129, x130.val]))]) w125 fun r131 w132 =>
 ∃ x133 : Sl, r131 = x133.val ∧
 eqS (.sl (Sl.mk none 0 0)) ∧
 eqS (.sl (Sl.mk none 0 0)) ∧
 eqS (.sl x3) ∧
 eqS (.sl (Sl.mk none 0 0)) ∧
 J70 x133 w132) ∧
 ∀ x134 : Sl, ∀ w135 : World, J70 x134 w135 →
 ∃ J136 : Sl → World → Prop, (StepT Try.prog (Instr.buildSlice 27 1 #[(0, (.int .i64 0))]) w135 fun r137 w138 =>
 ∃ x139 : Sl, r137 = x139.val ∧
 Trip Try.prog 56 #[x139.val, .int .i64 0] w138 fun r140 w141 =>
 ∃ x142 : Sl, ∃ n143 : Int, ∃ n144 : Int, ∃ n145 : Int, ∃ x146 : Sl, r140 = .agg #[x142.val, .int .i64 n143, .int .i64 n144, .int .i64 n145, x146.val] ∧
 StepT Try.prog (Instr.buildSlice 27 2 #[(0, (.int .i64 0)), (1, (.int .i64 0))]) w141 fun r147 w148 =>
 ∃ x149 : Sl, r147 = x149.val ∧
 Trip Try.prog 56 #[x149.val, .int .i64 0] w148 fun r150 w151 =>
 ∃ x152 : Sl, ∃ n153 : Int, ∃ n154 : Int, ∃ n155 : Int, ∃ x156 : Sl, r150 = .agg #[x152.val, .int .i64 n153, .int .i64 n154, .int .i64 n155, x156.val] ∧
 StepT Try.prog (Instr.buildSlice 27 2 #[(0, (.int .i64 1)), (1, (.int .i64 0))]) w151 fun r157 w158 =>
 ∃ x159 : Sl, r157 = x159.val ∧
 Trip Try.prog 56 #[x159.val, .int .i64 0] w158 fun r160 w161 =>
 ∃ x162 : Sl, ∃ n163 : Int, ∃ n164 : Int, ∃ n165 : Int, ∃ x166 : Sl, r160 = .agg #[x162.val, .int .i64 n163, .int .i64 n164, .int .i64 n165, x166.val] ∧
 StepT Try.prog (Instr.buildSlice 27 1 #[(0, (.int .i64 0))]) w161 fun r167 w168 =>
 ∃ x169 : Sl, r167 = x169.val ∧
 Trip Try.prog 56 #[x169.val, .int .i64 1] w168 fun r170 w171 =>
 ∃ x172 : Sl, ∃ n173 : Int, ∃ n174 : Int, ∃ n175 : Int, ∃ x176 : Sl, r170 = .agg #[x172.val, .int .i64 n173, .int .i64 n174, .int .i64 n175, x176.val] ∧
 StepT Try.prog (Instr.buildSlice 24 4 #[(0, (.agg #[x142.val, .int .i64 n143, .int .i64 n144, .int .i64 n145, x146.val])), (1, (.agg #[x152.val, .int .i64 n153, .int .i64 n154, .int .i64 n155, x156.val])), (2, (.agg #[x162.val, .int .i64 n163, .int .i64 n164, .int .i64 n165, x166.val])), (3, (.agg #[x172.val, .int .i64 n173, .int .i64 n174, .int .i64 n175, x176.val]))]) w171 fun r177 w178 =>
 ∃ x179 : Sl, r177 = x179.val ∧
 eqS (.sl (Sl.mk none 0 0)) ∧
 eqS (.sl (Sl.mk none 0 0)) ∧
 eqS (.sl x3) ∧
 eqS (.sl (Sl.mk none 0 0)) ∧
 J136 x179 w178) ∧
 ∀ x180 : Sl, ∀ w181 : World, J136 x180 w181 →
 ∃ J182 : Sl → World → Prop, (StepT Try.prog (Instr.buildSlice 27 0 #[]) w181 fun r183 w184 =>
 ∃ x185 : Sl, r183 = x185.val ∧
 Sub w181 w184 ∧
 Trip Try.prog 56 #[x185.val, .int .i64 0] w184 fun r186 w187 =>
 ∃ x188 : Sl, ∃ n189 : Int, ∃ n190 : Int, ∃ n191 : Int, ∃ x192 : Sl, r186 = .agg #[x188.val, .int .i64 n189, .int .i64 n190, .int .i64 n191, x192.val] ∧
 Sub w184 w187 ∧
 Trip Try.prog 12 #[.pointer (some (a_0.add 0)), .int .i64 (x68.n : Int)] w187 fun r193 w194 =>
 ∃ n195 : Int, r193 = .int .i64 n195 ∧
 (IxOk x68 n195 ∧
 (ldF w194 x68 n195 fun x196 n197 n198 n199 x200 =>
 Trip Try.prog 12 #[.pointer (some (a_0.add 0)), .int .i64 (x134.n : Int)] w194 fun r201 w202 =>
 ∃ n203 : Int, r201 = .int .i64 n203 ∧
 (IxOk x134 n203 ∧
 (ldF w202 x134 n203 fun x204 n205 n206 n207 x208 =>
 Trip Try.prog 12 #[.pointer (some (a_0.add 0)), .int .i64 (x180.n : Int)] w202 fun r209 w210 =>
 ∃ n211 : Int, r209 = .int .i64 n211 ∧
 IxOk x180 n211 ∧
 ldF w210 x180 n211 fun x212 n213 n214 n215 x216 =>
 StepT Try.prog (Instr.buildSlice 24 4 #[(0, (.agg #[x188.val, .int .i64 n189, .int .i64 n190, .int .i64 n191, x192.val])), (1, (.agg #[x196.val, .int .i64 n197, .int .i64 n198, .int .i64 n199, x200.val])), (2, (.agg #[x204.val, .int .i64 n205, .int .i64 n206, .int .i64 n207, x208.val])), (3, (.agg #[x212.val, .int .i64 n213, .int .i64 n214, .int .i64 n215, x216.val]))]) w210 fun r217 w218 =>
 ∃ x219 : Sl, r217 = x219.val ∧
 eqS (.sl (Sl.mk none 0 0)) ∧
 eqS (.sl (Sl.mk none 0 0)) ∧
 eqS (.sl x3) ∧
 J182 x219 w218) ∧
 Trip Try.prog 12 #[.pointer (some (a_0.add 0)), .int .i64 (x180.n : Int)] w202 fun r220 w221 =>
 ∃ n222 : Int, r220 = .int .i64 n222 ∧
 ldF w221 x134 n203 fun x223 n224 n225 n226 x227 =>
 IxOk x180 n222 ∧
 ldF w221 x180 n222 fun x228 n229 n230 n231 x232 =>
 StepT Try.prog (Instr.buildSlice 24 4 #[(0, (.agg #[x188.val, .int .i64 n189, .int .i64 n190, .int .i64 n191, x192.val])), (1, (.agg #[x196.val, .int .i64 n197, .int .i64 n198, .int .i64 n199, x200.val])), (2, (.agg #[x223.val, .int .i64 n224, .int .i64 n225, .int .i64 n226, x227.val])), (3, (.agg #[x228.val, .int .i64 n229, .int .i64 n230, .int .i64 n231, x232.val]))]) w221 fun r233 w234 =>
 ∃ x235 : Sl, r233 = x235.val ∧
 eqS (.sl (Sl.mk none 0 0)) ∧
 eqS (.sl (Sl.mk none 0 0)) ∧
 eqS (.sl x3) ∧
 J182 x235 w234) ∧
 Trip Try.prog 12 #[.pointer (some (a_0.add 0)), .int .i64 (x180.n : Int)] w202 fun r236 w237 =>
 ∃ n238 : Int, r236 = .int .i64 n238 ∧
 IxOk x134 n203 ∧
 ldF w237 x134 n203 fun x239 n240 n241 n242 x243 =>
 IxOk x180 n238 ∧
 ldF w237 x180 n238 fun x244 n245 n246 n247 x248 =>
 StepT Try.prog (Instr.buildSlice 24 4 #[(0, (.agg #[x188.val, .int .i64 n189, .int .i64 n190, .int .i64 n191, x192.val])), (1, (.agg #[x196.val, .int .i64 n197, .int .i64 n198, .int .i64 n199, x200.val])), (2, (.agg #[x239.val, .int .i64 n240, .int .i64 n241, .int .i64 n242, x243.val])), (3, (.agg #[x244.val, .int .i64 n245, .int .i64 n246, .int .i64 n247, x248.val]))]) w237 fun r249 w250 =>
 ∃ x251 : Sl, r249 = x251.val ∧
 eqS (.sl (Sl.mk none 0 0)) ∧
 eqS (.sl (Sl.mk none 0 0)) ∧
 eqS (.sl x3) ∧
 J182 x251 w250) ∧
 Trip Try.prog 12 #[.pointer (some (a_0.add 0)), .int .i64 (x134.n : Int)] w194 fun r252 w253 =>
 ∃ n254 : Int, r252 = .int .i64 n254 ∧
 (ldF w253 x68 n195 fun x255 n256 n257 n258 x259 =>
 (IxOk x134 n254 ∧
 (ldF w253 x134 n254 fun x260 n261 n262 n263 x264 =>
 Trip Try.prog 12 #[.pointer (some (a_0.add 0)), .int .i64 (x180.n : Int)] w253 fun r265 w266 =>
 ∃ n267 : Int, r265 = .int .i64 n267 ∧
 IxOk x180 n267 ∧
 ldF w266 x180 n267 fun x268 n269 n270 n271 x272 =>
 StepT Try.prog (Instr.buildSlice 24 4 #[(0, (.agg #[x188.val, .int .i64 n189, .int .i64 n190, .int .i64 n191, x192.val])), (1, (.agg #[x255.val, .int .i64 n256, .int .i64 n257, .int .i64 n258, x259.val])), (2, (.agg #[x260.val, .int .i64 n261, .int .i64 n262, .int .i64 n263, x264.val])), (3, (.agg #[x268.val, .int .i64 n269, .int .i64 n270, .int .i64 n271, x272.val]))]) w266 fun r273 w274 =>
 ∃ x275 : Sl, r273 = x275.val ∧
 eqS (.sl (Sl.mk none 0 0)) ∧
 eqS (.sl (Sl.mk none 0 0)) ∧
 eqS (.sl x3) ∧
 J182 x275 w274) ∧
 Trip Try.prog 12 #[.pointer (some (a_0.add 0)), .int .i64 (x180.n : Int)] w253 fun r276 w277 =>
 ∃ n278 : Int, r276 = .int .i64 n278 ∧
 ldF w277 x134 n254 fun x279 n280 n281 n282 x283 =>
 IxOk x180 n278 ∧
 ldF w277 x180 n278 fun x284 n285 n286 n287 x288 =>
 StepT Try.prog (Instr.buildSlice 24 4 #[(0, (.agg #[x188.val, .int .i64 n189, .int .i64 n190, .int .i64 n191, x192.val])), (1, (.agg #[x255.val, .int .i64 n256, .int .i64 n257, .int .i64 n258, x259.val])), (2, (.agg #[x279.val, .int .i64 n280, .int .i64 n281, .int .i64 n282, x283.val])), (3, (.agg #[x284.val, .int .i64 n285, .int .i64 n286, .int .i64 n287, x288.val]))]) w277 fun r289 w290 =>
 ∃ x291 : Sl, r289 = x291.val ∧
 eqS (.sl (Sl.mk none 0 0)) ∧
 eqS (.sl (Sl.mk none 0 0)) ∧
 eqS (.sl x3) ∧
 J182 x291 w290) ∧
 Trip Try.prog 12 #[.pointer (some (a_0.add 0)), .int .i64 (x180.n : Int)] w253 fun r292 w293 =>
 ∃ n294 : Int, r292 = .int .i64 n294 ∧
 IxOk x134 n254 ∧
 ldF w293 x134 n254 fun x295 n296 n297 n298 x299 =>
 IxOk x180 n294 ∧
 ldF w293 x180 n294 fun x300 n301 n302 n303 x304 =>
 StepT Try.prog (Instr.buildSlice 24 4 #[(0, (.agg #[x188.val, .int .i64 n189, .int .i64 n190, .int .i64 n191, x192.val])), (1, (.agg #[x255.val, .int .i64 n256, .int .i64 n257, .int .i64 n258, x259.val])), (2, (.agg #[x295.val, .int .i64 n296, .int .i64 n297, .int .i64 n298, x299.val])), (3, (.agg #[x300.val, .int .i64 n301, .int .i64 n302, .int .i64 n303, x304.val]))]) w293 fun r305 w306 =>
 ∃ x307 : Sl, r305 = x307.val ∧
 eqS (.sl (Sl.mk none 0 0)) ∧
 eqS (.sl (Sl.mk none 0 0)) ∧
 eqS (.sl x3) ∧
 J182 x307 w306) ∧
 (IxOk x134 n254 ∧
 (ldF w253 x68 n195 fun x308 n309 n310 n311 x312 =>
 (ldF w253 x134 n254 fun x313 n314 n315 n316 x317 =>
 Trip Try.prog 12 #[.pointer (some (a_0.add 0)), .int .i64 (x180.n : Int)] w253 fun r318 w319 =>
 ∃ n320 : Int, r318 = .int .i64 n320 ∧
 IxOk x180 n320 ∧
 ldF w319 x180 n320 fun x321 n322 n323 n324 x325 =>
 StepT Try.prog (Instr.buildSlice 24 4 #[(0, (.agg #[x188.val, .int .i64 n189, .int .i64 n190, .int .i64 n191, x192.val])), (1, (.agg #[x308.val, .int .i64 n309, .int .i64 n310, .int .i64 n311, x312.val])), (2, (.agg #[x313.val, .int .i64 n314, .int .i64 n315, .int .i64 n316, x317.val])), (3, (.agg #[x321.val, .int .i64 n322, .int .i64 n323, .int .i64 n324, x325.val]))]) w319 fun r326 w327 =>
 ∃ x328 : Sl, r326 = x328.val ∧
 eqS (.sl (Sl.mk none 0 0)) ∧
 eqS (.sl (Sl.mk none 0 0)) ∧
 eqS (.sl x3) ∧
 J182 x328 w327) ∧
 Trip Try.prog 12 #[.pointer (some (a_0.add 0)), .int .i64 (x180.n : Int)] w253 fun r329 w330 =>
 ∃ n331 : Int, r329 = .int .i64 n331 ∧
 ldF w330 x134 n254 fun x332 n333 n334 n335 x336 =>
 IxOk x180 n331 ∧
 ldF w330 x180 n331 fun x337 n338 n339 n340 x341 =>
 StepT Try.prog (Instr.buildSlice 24 4 #[(0, (.agg #[x188.val, .int .i64 n189, .int .i64 n190, .int .i64 n191, x192.val])), (1, (.agg #[x308.val, .int .i64 n309, .int .i64 n310, .int .i64 n311, x312.val])), (2, (.agg #[x332.val, .int .i64 n333, .int .i64 n334, .int .i64 n335, x336.val])), (3, (.agg #[x337.val, .int .i64 n338, .int .i64 n339, .int .i64 n340, x341.val]))]) w330 fun r342 w343 =>
 ∃ x344 : Sl, r342 = x344.val ∧
 eqS (.sl (Sl.mk none 0 0)) ∧
 eqS (.sl (Sl.mk none 0 0)) ∧
 eqS (.sl x3) ∧
 J182 x344 w343) ∧
 (ldF w253 x134 n254 fun x345 n346 n347 n348 x349 =>
 (ldF w253 x68 n195 fun x350 n351 n352 n353 x354 =>
 Trip Try.prog 12 #[.pointer (some (a_0.add 0)), .int .i64 (x180.n : Int)] w253 fun r355 w356 =>
 ∃ n357 : Int, r355 = .int .i64 n357 ∧
 IxOk x180 n357 ∧
 ldF w356 x180 n357 fun x358 n359 n360 n361 x362 =>
 StepT Try.prog (Instr.buildSlice 24 4 #[(0, (.agg #[x188.val, .int .i64 n189, .int .i64 n190, .int .i64 n191, x192.val])), (1, (.agg #[x350.val, .int .i64 n351, .int .i64 n352, .int .i64 n353, x354.val])), (2, (.agg #[x345.val, .int .i64 n346, .int .i64 n347, .int .i64 n348, x349.val])), (3, (.agg #[x358.val, .int .i64 n359, .int .i64 n360, .int .i64 n361, x362.val]))]) w356 fun r363 w364 =>
 ∃ x365 : Sl, r363 = x365.val ∧
 eqS (.sl (Sl.mk none 0 0)) ∧
 eqS (.sl (Sl.mk none 0 0)) ∧
 eqS (.sl x3) ∧
 J182 x365 w364) ∧
 Trip Try.prog 12 #[.pointer (some (a_0.add 0)), .int .i64 (x180.n : Int)] w253 fun r366 w367 =>
 ∃ n368 : Int, r366 = .int .i64 n368 ∧
 ldF w367 x68 n195 fun x369 n370 n371 n372 x373 =>
 IxOk x180 n368 ∧
 ldF w367 x180 n368 fun x374 n375 n376 n377 x378 =>
 StepT Try.prog (Instr.buildSlice 24 4 #[(0, (.agg #[x188.val, .int .i64 n189, .int .i64 n190, .int .i64 n191, x192.val])), (1, (.agg #[x369.val, .int .i64 n370, .int .i64 n371, .int .i64 n372, x373.val])), (2, (.agg #[x345.val, .int .i64 n346, .int .i64 n347, .int .i64 n348, x349.val])), (3, (.agg #[x374.val, .int .i64 n375, .int .i64 n376, .int .i64 n377, x378.val]))]) w367 fun r379 w380 =>
 ∃ x381 : Sl, r379 = x381.val ∧
 eqS (.sl (Sl.mk none 0 0)) ∧
 eqS (.sl (Sl.mk none 0 0)) ∧
 eqS (.sl x3) ∧
 J182 x381 w380) ∧
 Trip Try.prog 12 #[.pointer (some (a_0.add 0)), .int .i64 (x180.n : Int)] w253 fun r382 w383 =>
 ∃ n384 : Int, r382 = .int .i64 n384 ∧
 ldF w383 x68 n195 fun x385 n386 n387 n388 x389 =>
 ldF w383 x134 n254 fun x390 n391 n392 n393 x394 =>
 IxOk x180 n384 ∧
 ldF w383 x180 n384 fun x395 n396 n397 n398 x399 =>
 StepT Try.prog (Instr.buildSlice 24 4 #[(0, (.agg #[x188.val, .int .i64 n189, .int .i64 n190, .int .i64 n191, x192.val])), (1, (.agg #[x385.val, .int .i64 n386, .int .i64 n387, .int .i64 n388, x389.val])), (2, (.agg #[x390.val, .int .i64 n391, .int .i64 n392, .int .i64 n393, x394.val])), (3, (.agg #[x395.val, .int .i64 n396, .int .i64 n397, .int .i64 n398, x399.val]))]) w383 fun r400 w401 =>
 ∃ x402 : Sl, r400 = x402.val ∧
 eqS (.sl (Sl.mk none 0 0)) ∧
 eqS (.sl (Sl.mk none 0 0)) ∧
 eqS (.sl x3) ∧
 J182 x402 w401) ∧
 Trip Try.prog 12 #[.pointer (some (a_0.add 0)), .int .i64 (x180.n : Int)] w253 fun r403 w404 =>
 ∃ n405 : Int, r403 = .int .i64 n405 ∧
 ldF w404 x68 n195 fun x406 n407 n408 n409 x410 =>
 IxOk x134 n254 ∧
 ldF w404 x134 n254 fun x411 n412 n413 n414 x415 =>
 IxOk x180 n405 ∧
 ldF w404 x180 n405 fun x416 n417 n418 n419 x420 =>
 StepT Try.prog (Instr.buildSlice 24 4 #[(0, (.agg #[x188.val, .int .i64 n189, .int .i64 n190, .int .i64 n191, x192.val])), (1, (.agg #[x406.val, .int .i64 n407, .int .i64 n408, .int .i64 n409, x410.val])), (2, (.agg #[x411.val, .int .i64 n412, .int .i64 n413, .int .i64 n414, x415.val])), (3, (.agg #[x416.val, .int .i64 n417, .int .i64 n418, .int .i64 n419, x420.val]))]) w404 fun r421 w422 =>
 ∃ x423 : Sl, r421 = x423.val ∧
 eqS (.sl (Sl.mk none 0 0)) ∧
 eqS (.sl (Sl.mk none 0 0)) ∧
 eqS (.sl x3) ∧
 J182 x423 w422) ∧
 Trip Try.prog 12 #[.pointer (some (a_0.add 0)), .int .i64 (x134.n : Int)] w194 fun r424 w425 =>
 ∃ n426 : Int, r424 = .int .i64 n426 ∧
 (IxOk x68 n195 ∧
 (ldF w425 x68 n195 fun x427 n428 n429 n430 x431 =>
 (IxOk x134 n426 ∧
 (ldF w425 x134 n426 fun x432 n433 n434 n435 x436 =>
 Trip Try.prog 12 #[.pointer (some (a_0.add 0)), .int .i64 (x180.n : Int)] w425 fun r437 w438 =>
 ∃ n439 : Int, r437 = .int .i64 n439 ∧
 IxOk x180 n439 ∧
 ldF w438 x180 n439 fun x440 n441 n442 n443 x444 =>
 StepT Try.prog (Instr.buildSlice 24 4 #[(0, (.agg #[x188.val, .int .i64 n189, .int .i64 n190, .int .i64 n191, x192.val])), (1, (.agg #[x427.val, .int .i64 n428, .int .i64 n429, .int .i64 n430, x431.val])), (2, (.agg #[x432.val, .int .i64 n433, .int .i64 n434, .int .i64 n435, x436.val])), (3, (.agg #[x440.val, .int .i64 n441, .int .i64 n442, .int .i64 n443, x444.val]))]) w438 fun r445 w446 =>
 ∃ x447 : Sl, r445 = x447.val ∧
 eqS (.sl (Sl.mk none 0 0)) ∧
 eqS (.sl (Sl.mk none 0 0)) ∧
 eqS (.sl x3) ∧
 J182 x447 w446) ∧
 Trip Try.prog 12 #[.pointer (some (a_0.add 0)), .int .i64 (x180.n : Int)] w425 fun r448 w449 =>
 ∃ n450 : Int, r448 = .int .i64 n450 ∧
 ldF w449 x134 n426 fun x451 n452 n453 n454 x455 =>
 IxOk x180 n450 ∧
 ldF w449 x180 n450 fun x456 n457 n458 n459 x460 =>
 StepT Try.prog (Instr.buildSlice 24 4 #[(0, (.agg #[x188.val, .int .i64 n189, .int .i64 n190, .int .i64 n191, x192.val])), (1, (.agg #[x427.val, .int .i64 n428, .int .i64 n429, .int .i64 n430, x431.val])), (2, (.agg #[x451.val, .int .i64 n452, .int .i64 n453, .int .i64 n454, x455.val])), (3, (.agg #[x456.val, .int .i64 n457, .int .i64 n458, .int .i64 n459, x460.val]))]) w449 fun r461 w462 =>
 ∃ x463 : Sl, r461 = x463.val ∧
 eqS (.sl (Sl.mk none 0 0)) ∧
 eqS (.sl (Sl.mk none 0 0)) ∧
 eqS (.sl x3) ∧
 J182 x463 w462) ∧
 Trip Try.prog 12 #[.pointer (some (a_0.add 0)), .int .i64 (x180.n : Int)] w425 fun r464 w465 =>
 ∃ n466 : Int, r464 = .int .i64 n466 ∧
 IxOk x134 n426 ∧
 ldF w465 x134 n426 fun x467 n468 n469 n470 x471 =>
 IxOk x180 n466 ∧
 ldF w465 x180 n466 fun x472 n473 n474 n475 x476 =>
 StepT Try.prog (Instr.buildSlice 24 4 #[(0, (.agg #[x188.val, .int .i64 n189, .int .i64 n190, .int .i64 n191, x192.val])), (1, (.agg #[x427.val, .int .i64 n428, .int .i64 n429, .int .i64 n430, x431.val])), (2, (.agg #[x467.val, .int .i64 n468, .int .i64 n469, .int .i64 n470, x471.val])), (3, (.agg #[x472.val, .int .i64 n473, .int .i64 n474, .int .i64 n475, x476.val]))]) w465 fun r477 w478 =>
 ∃ x479 : Sl, r477 = x479.val ∧
 eqS (.sl (Sl.mk none 0 0)) ∧
 eqS (.sl (Sl.mk none 0 0)) ∧
 eqS (.sl x3) ∧
 J182 x479 w478) ∧
 (IxOk x134 n426 ∧
 (ldF w425 x68 n195 fun x480 n481 n482 n483 x484 =>
 (ldF w425 x134 n426 fun x485 n486 n487 n488 x489 =>
 Trip Try.prog 12 #[.pointer (some (a_0.add 0)), .int .i64 (x180.n : Int)] w425 fun r490 w491 =>
 ∃ n492 : Int, r490 = .int .i64 n492 ∧
 IxOk x180 n492 ∧
 ldF w491 x180 n492 fun x493 n494 n495 n496 x497 =>
 StepT Try.prog (Instr.buildSlice 24 4 #[(0, (.agg #[x188.val, .int .i64 n189, .int .i64 n190, .int .i64 n191, x192.val])), (1, (.agg #[x480.val, .int .i64 n481, .int .i64 n482, .int .i64 n483, x484.val])), (2, (.agg #[x485.val, .int .i64 n486, .int .i64 n487, .int .i64 n488, x489.val])), (3, (.agg #[x493.val, .int .i64 n494, .int .i64 n495, .int .i64 n496, x497.val]))]) w491 fun r498 w499 =>
 ∃ x500 : Sl, r498 = x500.val ∧
 eqS (.sl (Sl.mk none 0 0)) ∧
 eqS (.sl (Sl.mk none 0 0)) ∧
 eqS (.sl x3) ∧
 J182 x500 w499) ∧
 Trip Try.prog 12 #[.pointer (some (a_0.add 0)), .int .i64 (x180.n : Int)] w425 fun r501 w502 =>
 ∃ n503 : Int, r501 = .int .i64 n503 ∧
 ldF w502 x134 n426 fun x504 n505 n506 n507 x508 =>
 IxOk x180 n503 ∧
 ldF w502 x180 n503 fun x509 n510 n511 n512 x513 =>
 StepT Try.prog (Instr.buildSlice 24 4 #[(0, (.agg #[x188.val, .int .i64 n189, .int .i64 n190, .int .i64 n191, x192.val])), (1, (.agg #[x480.val, .int .i64 n481, .int .i64 n482, .int .i64 n483, x484.val])), (2, (.agg #[x504.val, .int .i64 n505, .int .i64 n506, .int .i64 n507, x508.val])), (3, (.agg #[x509.val, .int .i64 n510, .int .i64 n511, .int .i64 n512, x513.val]))]) w502 fun r514 w515 =>
 ∃ x516 : Sl, r514 = x516.val ∧
 eqS (.sl (Sl.mk none 0 0)) ∧
 eqS (.sl (Sl.mk none 0 0)) ∧
 eqS (.sl x3) ∧
 J182 x516 w515) ∧
 (ldF w425 x134 n426 fun x517 n518 n519 n520 x521 =>
 (ldF w425 x68 n195 fun x522 n523 n524 n525 x526 =>
 Trip Try.prog 12 #[.pointer (some (a_0.add 0)), .int .i64 (x180.n : Int)] w425 fun r527 w528 =>
 ∃ n529 : Int, r527 = .int .i64 n529 ∧
 IxOk x180 n529 ∧
 ldF w528 x180 n529 fun x530 n531 n532 n533 x534 =>
 StepT Try.prog (Instr.buildSlice 24 4 #[(0, (.agg #[x188.val, .int .i64 n189, .int .i64 n190, .int .i64 n191, x192.val])), (1, (.agg #[x522.val, .int .i64 n523, .int .i64 n524, .int .i64 n525, x526.val])), (2, (.agg #[x517.val, .int .i64 n518, .int .i64 n519, .int .i64 n520, x521.val])), (3, (.agg #[x530.val, .int .i64 n531, .int .i64 n532, .int .i64 n533, x534.val]))]) w528 fun r535 w536 =>
 ∃ x537 : Sl, r535 = x537.val ∧
 eqS (.sl (Sl.mk none 0 0)) ∧
 eqS (.sl (Sl.mk none 0 0)) ∧
 eqS (.sl x3) ∧
 J182 x537 w536) ∧
 Trip Try.prog 12 #[.pointer (some (a_0.add 0)), .int .i64 (x180.n : Int)] w425 fun r538 w539 =>
 ∃ n540 : Int, r538 = .int .i64 n540 ∧
 ldF w539 x68 n195 fun x541 n542 n543 n544 x545 =>
 IxOk x180 n540 ∧
 ldF w539 x180 n540 fun x546 n547 n548 n549 x550 =>
 StepT Try.prog (Instr.buildSlice 24 4 #[(0, (.agg #[x188.val, .int .i64 n189, .int .i64 n190, .int .i64 n191, x192.val])), (1, (.agg #[x541.val, .int .i64 n542, .int .i64 n543, .int .i64 n544, x545.val])), (2, (.agg #[x517.val, .int .i64 n518, .int .i64 n519, .int .i64 n520, x521.val])), (3, (.agg #[x546.val, .int .i64 n547, .int .i64 n548, .int .i64 n549, x550.val]))]) w539 fun r551 w552 =>
 ∃ x553 : Sl, r551 = x553.val ∧
 eqS (.sl (Sl.mk none 0 0)) ∧
 eqS (.sl (Sl.mk none 0 0)) ∧
 eqS (.sl x3) ∧
 J182 x553 w552) ∧
 Trip Try.prog 12 #[.pointer (some (a_0.add 0)), .int .i64 (x180.n : Int)] w425 fun r554 w555 =>
 ∃ n556 : Int, r554 = .int .i64 n556 ∧
 ldF w555 x68 n195 fun x557 n558 n559 n560 x561 =>
 ldF w555 x134 n426 fun x562 n563 n564 n565 x566 =>
 IxOk x180 n556 ∧
 ldF w555 x180 n556 fun x567 n568 n569 n570 x571 =>
 StepT Try.prog (Instr.buildSlice 24 4 #[(0, (.agg #[x188.val, .int .i64 n189, .int .i64 n190, .int .i64 n191, x192.val])), (1, (.agg #[x557.val, .int .i64 n558, .int .i64 n559, .int .i64 n560, x561.val])), (2, (.agg #[x562.val, .int .i64 n563, .int .i64 n564, .int .i64 n565, x566.val])), (3, (.agg #[x567.val, .int .i64 n568, .int .i64 n569, .int .i64 n570, x571.val]))]) w555 fun r572 w573 =>
 ∃ x574 : Sl, r572 = x574.val ∧
 eqS (.sl (Sl.mk none 0 0)) ∧
 eqS (.sl (Sl.mk none 0 0)) ∧
 eqS (.sl x3) ∧
 J182 x574 w573) ∧
 Trip Try.prog 12 #[.pointer (some (a_0.add 0)), .int .i64 (x180.n : Int)] w425 fun r575 w576 =>
 ∃ n577 : Int, r575 = .int .i64 n577 ∧
 ldF w576 x68 n195 fun x578 n579 n580 n581 x582 =>
 IxOk x134 n426 ∧
 ldF w576 x134 n426 fun x583 n584 n585 n586 x587 =>
 IxOk x180 n577 ∧
 ldF w576 x180 n577 fun x588 n589 n590 n591 x592 =>
 StepT Try.prog (Instr.buildSlice 24 4 #[(0, (.agg #[x188.val, .int .i64 n189, .int .i64 n190, .int .i64 n191, x192.val])), (1, (.agg #[x578.val, .int .i64 n579, .int .i64 n580, .int .i64 n581, x582.val])), (2, (.agg #[x583.val, .int .i64 n584, .int .i64 n585, .int .i64 n586, x587.val])), (3, (.agg #[x588.val, .int .i64 n589, .int .i64 n590, .int .i64 n591, x592.val]))]) w576 fun r593 w594 =>
 ∃ x595 : Sl, r593 = x595.val ∧
 eqS (.sl (Sl.mk none 0 0)) ∧
 eqS (.sl (Sl.mk none 0 0)) ∧
 eqS (.sl x3) ∧
 J182 x595 w594) ∧
 (IxOk x134 n426 ∧
 (IxOk x68 n195 ∧
 (ldF w425 x68 n195 fun x596 n597 n598 n599 x600 =>
 (ldF w425 x134 n426 fun x601 n602 n603 n604 x605 =>
 Trip Try.prog 12 #[.pointer (some (a_0.add 0)), .int .i64 (x180.n : Int)] w425 fun r606 w607 =>
 ∃ n608 : Int, r606 = .int .i64 n608 ∧
 IxOk x180 n608 ∧
 ldF w607 x180 n608 fun x609 n610 n611 n612 x613 =>
 StepT Try.prog (Instr.buildSlice 24 4 #[(0, (.agg #[x188.val, .int .i64 n189, .int .i64 n190, .int .i64 n191, x192.val])), (1, (.agg #[x596.val, .int .i64 n597, .int .i64 n598, .int .i64 n599, x600.val])), (2, (.agg #[x601.val, .int .i64 n602, .int .i64 n603, .int .i64 n604, x605.val])), (3, (.agg #[x609.val, .int .i64 n610, .int .i64 n611, .int .i64 n612, x613.val]))]) w607 fun r614 w615 =>
 ∃ x616 : Sl, r614 = x616.val ∧
 eqS (.sl (Sl.mk none 0 0)) ∧
 eqS (.sl (Sl.mk none 0 0)) ∧
 eqS (.sl x3) ∧
 J182 x616 w615) ∧
 Trip Try.prog 12 #[.pointer (some (a_0.add 0)), .int .i64 (x180.n : Int)] w425 fun r617 w618 =>
 ∃ n619 : Int, r617 = .int .i64 n619 ∧
 ldF w618 x134 n426 fun x620 n621 n622 n623 x624 =>
 IxOk x180 n619 ∧
 ldF w618 x180 n619 fun x625 n626 n627 n628 x629 =>
 StepT Try.prog (Instr.buildSlice 24 4 #[(0, (.agg #[x188.val, .int .i64 n189, .int .i64 n190, .int .i64 n191, x192.val])), (1, (.agg #[x596.val, .int .i64 n597, .int .i64 n598, .int .i64 n599, x600.val])), (2, (.agg #[x620.val, .int .i64 n621, .int .i64 n622, .int .i64 n623, x624.val])), (3, (.agg #[x625.val, .int .i64 n626, .int .i64 n627, .int .i64 n628, x629.val]))]) w618 fun r630 w631 =>
 ∃ x632 : Sl, r630 = x632.val ∧
 eqS (.sl (Sl.mk none 0 0)) ∧
 eqS (.sl (Sl.mk none 0 0)) ∧
 eqS (.sl x3) ∧
 J182 x632 w631) ∧
 (ldF w425 x134 n426 fun x633 n634 n635 n636 x637 =>
 (ldF w425 x68 n195 fun x638 n639 n640 n641 x642 =>
 Trip Try.prog 12 #[.pointer (some (a_0.add 0)), .int .i64 (x180.n : Int)] w425 fun r643 w644 =>
 ∃ n645 : Int, r643 = .int .i64 n645 ∧
 IxOk x180 n645 ∧
 ldF w644 x180 n645 fun x646 n647 n648 n649 x650 =>
 StepT Try.prog (Instr.buildSlice 24 4 #[(0, (.agg #[x188.val, .int .i64 n189, .int .i64 n190, .int .i64 n191, x192.val])), (1, (.agg #[x638.val, .int .i64 n639, .int .i64 n640, .int .i64 n641, x642.val])), (2, (.agg #[x633.val, .int .i64 n634, .int .i64 n635, .int .i64 n636, x637.val])), (3, (.agg #[x646.val, .int .i64 n647, .int .i64 n648, .int .i64 n649, x650.val]))]) w644 fun r651 w652 =>
 ∃ x653 : Sl, r651 = x653.val ∧
 eqS (.sl (Sl.mk none 0 0)) ∧
 eqS (.sl (Sl.mk none 0 0)) ∧
 eqS (.sl x3) ∧
 J182 x653 w652) ∧
 Trip Try.prog 12 #[.pointer (some (a_0.add 0)), .int .i64 (x180.n : Int)] w425 fun r654 w655 =>
 ∃ n656 : Int, r654 = .int .i64 n656 ∧
 ldF w655 x68 n195 fun x657 n658 n659 n660 x661 =>
 IxOk x180 n656 ∧
 ldF w655 x180 n656 fun x662 n663 n664 n665 x666 =>
 StepT Try.prog (Instr.buildSlice 24 4 #[(0, (.agg #[x188.val, .int .i64 n189, .int .i64 n190, .int .i64 n191, x192.val])), (1, (.agg #[x657.val, .int .i64 n658, .int .i64 n659, .int .i64 n660, x661.val])), (2, (.agg #[x633.val, .int .i64 n634, .int .i64 n635, .int .i64 n636, x637.val])), (3, (.agg #[x662.val, .int .i64 n663, .int .i64 n664, .int .i64 n665, x666.val]))]) w655 fun r667 w668 =>
 ∃ x669 : Sl, r667 = x669.val ∧
 eqS (.sl (Sl.mk none 0 0)) ∧
 eqS (.sl (Sl.mk none 0 0)) ∧
 eqS (.sl x3) ∧
 J182 x669 w668) ∧
 Trip Try.prog 12 #[.pointer (some (a_0.add 0)), .int .i64 (x180.n : Int)] w425 fun r670 w671 =>
 ∃ n672 : Int, r670 = .int .i64 n672 ∧
 ldF w671 x68 n195 fun x673 n674 n675 n676 x677 =>
 ldF w671 x134 n426 fun x678 n679 n680 n681 x682 =>
 IxOk x180 n672 ∧
 ldF w671 x180 n672 fun x683 n684 n685 n686 x687 =>
 StepT Try.prog (Instr.buildSlice 24 4 #[(0, (.agg #[x188.val, .int .i64 n189, .int .i64 n190, .int .i64 n191, x192.val])), (1, (.agg #[x673.val, .int .i64 n674, .int .i64 n675, .int .i64 n676, x677.val])), (2, (.agg #[x678.val, .int .i64 n679, .int .i64 n680, .int .i64 n681, x682.val])), (3, (.agg #[x683.val, .int .i64 n684, .int .i64 n685, .int .i64 n686, x687.val]))]) w671 fun r688 w689 =>
 ∃ x690 : Sl, r688 = x690.val ∧
 eqS (.sl (Sl.mk none 0 0)) ∧
 eqS (.sl (Sl.mk none 0 0)) ∧
 eqS (.sl x3) ∧
 J182 x690 w689) ∧
 (ldF w425 x134 n426 fun x691 n692 n693 n694 x695 =>
 (IxOk x68 n195 ∧
 (ldF w425 x68 n195 fun x696 n697 n698 n699 x700 =>
 Trip Try.prog 12 #[.pointer (some (a_0.add 0)), .int .i64 (x180.n : Int)] w425 fun r701 w702 =>
 ∃ n703 : Int, r701 = .int .i64 n703 ∧
 IxOk x180 n703 ∧
 ldF w702 x180 n703 fun x704 n705 n706 n707 x708 =>
 StepT Try.prog (Instr.buildSlice 24 4 #[(0, (.agg #[x188.val, .int .i64 n189, .int .i64 n190, .int .i64 n191, x192.val])), (1, (.agg #[x696.val, .int .i64 n697, .int .i64 n698, .int .i64 n699, x700.val])), (2, (.agg #[x691.val, .int .i64 n692, .int .i64 n693, .int .i64 n694, x695.val])), (3, (.agg #[x704.val, .int .i64 n705, .int .i64 n706, .int .i64 n707, x708.val]))]) w702 fun r709 w710 =>
 ∃ x711 : Sl, r709 = x711.val ∧
 eqS (.sl (Sl.mk none 0 0)) ∧
 eqS (.sl (Sl.mk none 0 0)) ∧
 eqS (.sl x3) ∧
 J182 x711 w710) ∧
 Trip Try.prog 12 #[.pointer (some (a_0.add 0)), .int .i64 (x180.n : Int)] w425 fun r712 w713 =>
 ∃ n714 : Int, r712 = .int .i64 n714 ∧
 ldF w713 x68 n195 fun x715 n716 n717 n718 x719 =>
 IxOk x180 n714 ∧
 ldF w713 x180 n714 fun x720 n721 n722 n723 x724 =>
 StepT Try.prog (Instr.buildSlice 24 4 #[(0, (.agg #[x188.val, .int .i64 n189, .int .i64 n190, .int .i64 n191, x192.val])), (1, (.agg #[x715.val, .int .i64 n716, .int .i64 n717, .int .i64 n718, x719.val])), (2, (.agg #[x691.val, .int .i64 n692, .int .i64 n693, .int .i64 n694, x695.val])), (3, (.agg #[x720.val, .int .i64 n721, .int .i64 n722, .int .i64 n723, x724.val]))]) w713 fun r725 w726 =>
 ∃ x727 : Sl, r725 = x727.val ∧
 eqS (.sl (Sl.mk none 0 0)) ∧
 eqS (.sl (Sl.mk none 0 0)) ∧
 eqS (.sl x3) ∧
 J182 x727 w726) ∧
 Trip Try.prog 12 #[.pointer (some (a_0.add 0)), .int .i64 (x180.n : Int)] w425 fun r728 w729 =>
 ∃ n730 : Int, r728 = .int .i64 n730 ∧
 IxOk x68 n195 ∧
 ldF w729 x68 n195 fun x731 n732 n733 n734 x735 =>
 IxOk x180 n730 ∧
 ldF w729 x180 n730 fun x736 n737 n738 n739 x740 =>
 StepT Try.prog (Instr.buildSlice 24 4 #[(0, (.agg #[x188.val, .int .i64 n189, .int .i64 n190, .int .i64 n191, x192.val])), (1, (.agg #[x731.val, .int .i64 n732, .int .i64 n733, .int .i64 n734, x735.val])), (2, (.agg #[x691.val, .int .i64 n692, .int .i64 n693, .int .i64 n694, x695.val])), (3, (.agg #[x736.val, .int .i64 n737, .int .i64 n738, .int .i64 n739, x740.val]))]) w729 fun r741 w742 =>
 ∃ x743 : Sl, r741 = x743.val ∧
 eqS (.sl (Sl.mk none 0 0)) ∧
 eqS (.sl (Sl.mk none 0 0)) ∧
 eqS (.sl x3) ∧
 J182 x743 w742) ∧
 Trip Try.prog 12 #[.pointer (some (a_0.add 0)), .int .i64 (x180.n : Int)] w425 fun r744 w745 =>
 ∃ n746 : Int, r744 = .int .i64 n746 ∧
 IxOk x68 n195 ∧
 ldF w745 x68 n195 fun x747 n748 n749 n750 x751 =>
 ldF w745 x134 n426 fun x752 n753 n754 n755 x756 =>
 IxOk x180 n746 ∧
 ldF w745 x180 n746 fun x757 n758 n759 n760 x761 =>
 StepT Try.prog (Instr.buildSlice 24 4 #[(0, (.agg #[x188.val, .int .i64 n189, .int .i64 n190, .int .i64 n191, x192.val])), (1, (.agg #[x747.val, .int .i64 n748, .int .i64 n749, .int .i64 n750, x751.val])), (2, (.agg #[x752.val, .int .i64 n753, .int .i64 n754, .int .i64 n755, x756.val])), (3, (.agg #[x757.val, .int .i64 n758, .int .i64 n759, .int .i64 n760, x761.val]))]) w745 fun r762 w763 =>
 ∃ x764 : Sl, r762 = x764.val ∧
 eqS (.sl (Sl.mk none 0 0)) ∧
 eqS (.sl (Sl.mk none 0 0)) ∧
 eqS (.sl x3) ∧
 J182 x764 w763) ∧
 Trip Try.prog 12 #[.pointer (some (a_0.add 0)), .int .i64 (x180.n : Int)] w425 fun r765 w766 =>
 ∃ n767 : Int, r765 = .int .i64 n767 ∧
 IxOk x68 n195 ∧
 ldF w766 x68 n195 fun x768 n769 n770 n771 x772 =>
 IxOk x134 n426 ∧
 ldF w766 x134 n426 fun x773 n774 n775 n776 x777 =>
 IxOk x180 n767 ∧
 ldF w766 x180 n767 fun x778 n779 n780 n781 x782 =>
 StepT Try.prog (Instr.buildSlice 24 4 #[(0, (.agg #[x188.val, .int .i64 n189, .int .i64 n190, .int .i64 n191, x192.val])), (1, (.agg #[x768.val, .int .i64 n769, .int .i64 n770, .int .i64 n771, x772.val])), (2, (.agg #[x773.val, .int .i64 n774, .int .i64 n775, .int .i64 n776, x777.val])), (3, (.agg #[x778.val, .int .i64 n779, .int .i64 n780, .int .i64 n781, x782.val]))]) w766 fun r783 w784 =>
 ∃ x785 : Sl, r783 = x785.val ∧
 eqS (.sl (Sl.mk none 0 0)) ∧
 eqS (.sl (Sl.mk none 0 0)) ∧
 eqS (.sl x3) ∧
 J182 x785 w784) ∧
 ∀ x786 : Sl, ∀ w787 : World, J182 x786 w787 →
 StepT Try.prog (Instr.buildSlice 27 5 #[(0, (.int .i64 4)), (1, (.int .i64 4)), (2, (.int .i64 3)), (3, (.int .i64 2)), (4, (.int .i64 4))]) w787 fun r788 w789 =>
 ∃ x790 : Sl, r788 = x790.val ∧
 Trip Try.prog 14 #[.pointer (some (a_0.add 0)), x790.val] w789 fun r791 w792 =>
 ∃ n793 : Int, r791 = .int .i64 n793 ∧
 CutOk x786 0 n793 ∧
 ∃ n794 : Int, Wr .i64 (n793 - 1) n794 ∧
 ∃ I795 : Int → World → Prop, ∃ m796 : Int → World → Nat, I795 n794 w792 ∧
 ∀ n797 : Int, ∀ w798 : World, I795 n797 w798 →
 ((decide (n797 ≥ 0)) = true →
 Trip Try.prog 57 #[.pointer (some (a_0.add 0)), .agg #[x3.val, (x786.cut 0 n793 5).val], .int .i64 n797] w798 fun r799 w800 =>
 ∃ n801 : Int, ∃ n802 : Int, ∃ x803 : Sl, r799 = .agg #[.int .i64 n801, .int .i64 n802, x803.val] ∧
 IxOk (x786.cut 0 n793 5) n797 ∧
 ∃ x804 : Sl, w800.cell? ((elA (x786.cut 0 n793 5) n797 5).add 0) = some (x804.val) ∧
 IxOk (x786.cut 0 n793 5) n797 ∧
 ∃ n805 : Int, w800.cell? ((elA (x786.cut 0 n793 5) n797 5).add 1) = some (.int .i64 n805) ∧
 IxOk (x786.cut 0 n793 5) n797 ∧
 StoreAt w800 (elA (x786.cut 0 n793 5) n797 5) 0 [x804.val, .int .i64 n805, .int .i64 n801, .int .i64 n802, x803.val] fun w806 =>
 ∃ n807 : Int, Wr .i64 (n797 - 1) n807 ∧
 eqS (.sl (Sl.mk none 0 0)) ∧
 eqS (.sl (Sl.mk none 0 0)) ∧
 eqS (.sl x3) ∧
 eqS (.sl (x786.cut 0 n793 5)) ∧
 I795 n807 w806 ∧
 m796 n807 w806 < m796 n797 w798) ∧
 ((decide (n797 ≥ 0)) = false →
 Q (.agg #[x3.val, (x786.cut 0 n793 5).val]) w798)
theorem of30 (a_0 : Addr) (v : World) (Q : Value → World → Prop) (h : vc30 a_0 v Q) : Trip Try.prog 30 #[.pointer (some (a_0.add 0))] v Q :=
 trip_of_eq (args := [.pt a_0 0]) (A := ⟨[(9, [(8, .int .i64)], [])], [(3, [(4, .sl)], []), (4, [(5, .sl)], []), (5, [(6, .sl)], []), (6, [], [(1, 1, .sl)])], [(5, [0, 1]), (12, [])], [], psG⟩) Try.func30 (by kernel_rfl) (by kernel_rfl) (by kernel_rfl : vc30 a_0 v Q = _) h

def vc31 (a_0 : Addr) (x1_0 : Sl) (x1_1 : Sl) (x_2 : Sl) (n_3 : Int) (n_4 : Int) (v : World) (Q : Value → World → Prop) : Prop :=
 ((decide (n_4 < 3)) = true →
 Trip Try.prog 58 #[.pointer (some (a_0.add 0)), .agg #[x1_0.val, x1_1.val], x_2.val, .int .i64 n_3] v fun r1 w2 =>
 ∃ n3 : Int, ∃ n4 : Int, ∃ x5 : Sl, r1 = .agg #[.int .i64 n3, .int .i64 n4, x5.val] ∧
 Q (.agg #[.int .i64 n3, .int .i64 n4, x5.val]) w2) ∧
 ((decide (n_4 < 3)) = false →
 Trip Try.prog 12 #[.pointer (some (a_0.add 0)), .int .i64 12] v fun r6 w7 =>
 ∃ n8 : Int, r6 = .int .i64 n8 ∧
 ((decide (n8 = 0)) = true →
 Trip Try.prog 58 #[.pointer (some (a_0.add 0)), .agg #[x1_0.val, x1_1.val], x_2.val, .int .i64 n_3] w7 fun r9 w10 =>
 ∃ n11 : Int, ∃ n12 : Int, ∃ x13 : Sl, r9 = .agg #[.int .i64 n11, .int .i64 n12, x13.val] ∧
 Q (.agg #[.int .i64 n11, .int .i64 n12, x13.val]) w10) ∧
 ((decide (n8 = 0)) = false →
 ∃ J14 : Bool → World → Prop, (((decide (n8 = 1)) = true →
 eqS (.sl x1_0) ∧
 eqS (.sl x1_1) ∧
 eqS (.num .i64 0) ∧
 eqS (.num .i64 0) ∧
 eqS (.sl (Sl.mk none 0 0)) ∧
 J14 (decide (n8 = 1)) w7) ∧
 ((decide (n8 = 1)) = false →
 eqS (.sl x1_0) ∧
 eqS (.sl x1_1) ∧
 eqS (.num .i64 0) ∧
 eqS (.num .i64 0) ∧
 eqS (.sl (Sl.mk none 0 0)) ∧
 J14 (decide (n8 = 2)) w7)) ∧
 ∀ q15 : Bool, ∀ w16 : World, J14 q15 w16 →
 (q15 = true →
 Trip Try.prog 59 #[.pointer (some (a_0.add 0)), .agg #[x1_0.val, x1_1.val], x_2.val] w16 fun r17 w18 =>
 ∃ n19 : Int, r17 = .int .i64 n19 ∧
 ∃ n20 : Int, ((2 : Int) ≠ 0 ∧ Wr .i64 (Int.tdiv n_4 2) n20) ∧
 ∃ n21 : Int, ((2 : Int) ≠ 0 ∧ Wr .i64 (Int.tdiv n_4 2) n21) ∧
 (Trip Try.prog 31 #[.pointer (some (a_0.add 0)), .agg #[x1_0.val, x1_1.val], x_2.val, .int .i64 n19, .int .i64 n20] w18 fun r22 w23 =>
 ∃ n24 : Int, ∃ n25 : Int, ∃ x26 : Sl, r22 = .agg #[.int .i64 n24, .int .i64 n25, x26.val] ∧
 StepT Try.prog (Instr.buildSlice 27 1 #[(0, (.int .i64 n19))]) w23 fun r27 w28 =>
 ∃ x29 : Sl, r27 = x29.val ∧
 Sub w23 w28 ∧
 Trip Try.prog 36 #[x_2.val, x29.val] w28 fun r30 w31 =>
 ∃ x32 : Sl, r30 = x32.val ∧
 Trip Try.prog 31 #[.pointer (some (a_0.add 0)), .agg #[x1_0.val, x1_1.val], x32.val, .int .i64 n_3, .int .i64 n21] w31 fun r33 w34 =>
 ∃ n35 : Int, ∃ n36 : Int, ∃ x37 : Sl, r33 = .agg #[.int .i64 n35, .int .i64 n36, x37.val] ∧
 StepT Try.prog (Instr.buildSlice 28 2 #[(0, (.agg #[.int .i64 n24, .int .i64 n25, x26.val])), (1, (.agg #[.int .i64 n35, .int .i64 n36, x37.val]))]) w34 fun r38 w39 =>
 ∃ x40 : Sl, r38 = x40.val ∧
 Trip Try.prog 33 #[.int .i64 13, .int .i64 0, x40.val] w39 fun r41 w42 =>
 ∃ n43 : Int, ∃ n44 : Int, ∃ x45 : Sl, r41 = .agg #[.int .i64 n43, .int .i64 n44, x45.val] ∧
 Q (.agg #[.int .i64 n43, .int .i64 n44, x45.val]) w42) ∧
 StepT Try.prog (Instr.buildSlice 27 1 #[(0, (.int .i64 n19))]) w18 fun r46 w47 =>
 ∃ x48 : Sl, r46 = x48.val ∧
 Sub w18 w47 ∧
 Trip Try.prog 31 #[.pointer (some (a_0.add 0)), .agg #[x1_0.val, x1_1.val], x_2.val, .int .i64 n19, .int .i64 n20] w47 fun r49 w50 =>
 ∃ n51 : Int, ∃ n52 : Int, ∃ x53 : Sl, r49 = .agg #[.int .i64 n51, .int .i64 n52, x53.val] ∧
 Trip Try.prog 36 #[x_2.val, x48.val] w50 fun r54 w55 =>
 ∃ x56 : Sl, r54 = x56.val ∧
 Trip Try.prog 31 #[.pointer (some (a_0.add 0)), .agg #[x1_0.val, x1_1.val], x56.val, .int .i64 n_3, .int .i64 n21] w55 fun r57 w58 =>
 ∃ n59 : Int, ∃ n60 : Int, ∃ x61 : Sl, r57 = .agg #[.int .i64 n59, .int .i64 n60, x61.val] ∧
 StepT Try.prog (Instr.buildSlice 28 2 #[(0, (.agg #[.int .i64 n51, .int .i64 n52, x53.val])), (1, (.agg #[.int .i64 n59, .int .i64 n60, x61.val]))]) w58 fun r62 w63 =>
 ∃ x64 : Sl, r62 = x64.val ∧
 Trip Try.prog 33 #[.int .i64 13, .int .i64 0, x64.val] w63 fun r65 w66 =>
 ∃ n67 : Int, ∃ n68 : Int, ∃ x69 : Sl, r65 = .agg #[.int .i64 n67, .int .i64 n68, x69.val] ∧
 Q (.agg #[.int .i64 n67, .int .i64 n68, x69.val]) w66) ∧
 (q15 = false →
 ((decide (n8 = 3)) = true →
 StepT Try.prog (Instr.buildSlice 27 3 #[(0, (.int .i64 0)), (1, (.int .i64 n_3)), (2, (.int .i64 n_3))]) w16 fun r70 w71 =>
 ∃ x72 : Sl, r70 = x72.val ∧
 ∃ n73 : Int, Wr .i64 (n_4 - 1) n73 ∧
 Trip Try.prog 60 #[.pointer (some (a_0.add 0)), .agg #[x1_0.val, x1_1.val], x_2.val, x72.val, .int .i64 n73] w71 fun r74 w75 =>
 ∃ x76 : Sl, r74 = x76.val ∧
 Trip Try.prog 33 #[.int .i64 7, .int .i64 0, x76.val] w75 fun r77 w78 =>
 ∃ n79 : Int, ∃ n80 : Int, ∃ x81 : Sl, r77 = .agg #[.int .i64 n79, .int .i64 n80, x81.val] ∧
 Q (.agg #[.int .i64 n79, .int .i64 n80, x81.val]) w78) ∧
 ((decide (n8 = 3)) = false →
 ∃ J82 : Bool → World → Prop, (((decide (n8 = 4)) = true →
 eqS (.sl x1_0) ∧
 eqS (.sl x1_1) ∧
 eqS (.num .i64 0) ∧
 eqS (.num .i64 0) ∧
 eqS (.sl (Sl.mk none 0 0)) ∧
 J82 (decide (n8 = 4)) w16) ∧
 ((decide (n8 = 4)) = false →
 ((decide (n8 = 5)) = true →
 eqS (.sl x1_0) ∧
 eqS (.sl x1_1) ∧
 eqS (.num .i64 0) ∧
 eqS (.num .i64 0) ∧
 eqS (.sl (Sl.mk none 0 0)) ∧
 J82 (decide (n8 = 5)) w16) ∧
 ((decide (n8 = 5)) = false →
 eqS (.sl x1_0) ∧
 eqS (.sl x1_1) ∧
 eqS (.num .i64 0) ∧
 eqS (.num .i64 0) ∧
 eqS (.sl (Sl.mk none 0 0)) ∧
 J82 (decide (n8 = 6)) w16))) ∧
 ∀ q83 : Bool, ∀ w84 : World, J82 q83 w84 →
 (q83 = true →
 Trip Try.prog 61 #[.pointer (some (a_0.add 0)), .agg #[x1_0.val, x1_1.val], x_2.val, .int .i64 n_3, .int .i64 n_4] w84 fun r85 w86 =>
 ∃ n87 : Int, ∃ n88 : Int, ∃ x89 : Sl, r85 = .agg #[.int .i64 n87, .int .i64 n88, x89.val] ∧
 Q (.agg #[.int .i64 n87, .int .i64 n88, x89.val]) w86) ∧
 (q83 = false →
 ∃ J90 : Bool → World → Prop, (((decide (n8 = 7)) = true →
 eqS (.sl x1_0) ∧
 eqS (.sl x1_1) ∧
 eqS (.num .i64 0) ∧
 eqS (.num .i64 0) ∧
 eqS (.sl (Sl.mk none 0 0)) ∧
 J90 (decide (n8 = 7)) w84) ∧
 ((decide (n8 = 7)) = false →
 eqS (.sl x1_0) ∧
 eqS (.sl x1_1) ∧
 eqS (.num .i64 0) ∧
 eqS (.num .i64 0) ∧
 eqS (.sl (Sl.mk none 0 0)) ∧
 J90 (decide (n8 = 8)) w84)) ∧
 ∀ q91 : Bool, ∀ w92 : World, J90 q91 w92 →
 (q91 = true →
 Trip Try.prog 62 #[.agg #[x1_0.val, x1_1.val], .int .i64 n_3] w92 fun r93 w94 =>
 ∃ x95 : Sl, r93 = x95.val ∧
 ((decide ((x95.n : Int) > 0)) = true →
 Trip Try.prog 12 #[.pointer (some (a_0.add 0)), .int .i64 (x95.n : Int)] w94 fun r96 w97 =>
 ∃ n98 : Int, r96 = .int .i64 n98 ∧
 IxOk x95 n98 ∧
 ∃ n99 : Int, w97.cell? ((elA x95 n98 1).add 0) = some (.int .i64 n99) ∧
 IxOk x1_1 n99 ∧
 ∃ x100 : Sl, w97.cell? ((elA x1_1 n99 5).add 0) = some (x100.val) ∧
 ∃ n101 : Int, Wr .i64 (n_4 - 1) n101 ∧
 Trip Try.prog 60 #[.pointer (some (a_0.add 0)), .agg #[x1_0.val, x1_1.val], x_2.val, x100.val, .int .i64 n101] w97 fun r102 w103 =>
 ∃ x104 : Sl, r102 = x104.val ∧
 Trip Try.prog 33 #[.int .i64 9, .int .i64 n99, x104.val] w103 fun r105 w106 =>
 ∃ n107 : Int, ∃ n108 : Int, ∃ x109 : Sl, r105 = .agg #[.int .i64 n107, .int .i64 n108, x109.val] ∧
 Q (.agg #[.int .i64 n107, .int .i64 n108, x109.val]) w106) ∧
 ((decide ((x95.n : Int) > 0)) = false →
 Trip Try.prog 63 #[.pointer (some (a_0.add 0)), .agg #[x1_0.val, x1_1.val], x_2.val, .int .i64 n_3, .int .i64 n_4] w94 fun r110 w111 =>
 ∃ n112 : Int, ∃ n113 : Int, ∃ x114 : Sl, r110 = .agg #[.int .i64 n112, .int .i64 n113, x114.val] ∧
 Q (.agg #[.int .i64 n112, .int .i64 n113, x114.val]) w111)) ∧
 (q91 = false →
 Trip Try.prog 63 #[.pointer (some (a_0.add 0)), .agg #[x1_0.val, x1_1.val], x_2.val, .int .i64 n_3, .int .i64 n_4] w92 fun r115 w116 =>
 ∃ n117 : Int, ∃ n118 : Int, ∃ x119 : Sl, r115 = .agg #[.int .i64 n117, .int .i64 n118, x119.val] ∧
 Q (.agg #[.int .i64 n117, .int .i64 n118, x119.val]) w116))))))
theorem of31 (a_0 : Addr) (x1_0 : Sl) (x1_1 : Sl) (x_2 : Sl) (n_3 : Int) (n_4 : Int) (v : World) (Q : Value → World → Prop) (h : vc31 a_0 x1_0 x1_1 x_2 n_3 n_4 v Q) : Trip Try.prog 31 #[.pointer (some (a_0.add 0)), .agg #[x1_0.val, x1_1.val], x_2.val, .int .i64 n_3, .int .i64 n_4] v Q :=
 trip_of_eq (args := [.pt a_0 0, .ag [.sl x1_0, .sl x1_1], .sl x_2, .num .i64 n_3, .num .i64 n_4]) (A := ⟨[], [(8, [(30, .bool)], []), (15, [(68, .bool)], []), (18, [(78, .bool)], [])], [(9, [11]), (21, [])], [], psG⟩) Try.func31 (by kernel_rfl) (by kernel_rfl) (by kernel_rfl : vc31 a_0 x1_0 x1_1 x_2 n_3 n_4 v Q = _) h

def vc32 (x_0 : Sl) (v : World) (Q : Value → World → Prop) : Prop :=
 StepT Try.prog (Instr.buildSlice 28 0 #[]) v fun r1 w2 =>
 ∃ x3 : Sl, r1 = x3.val ∧
 ∃ I4 : Sl → Int → World → Prop, ∃ m5 : Sl → Int → World → Nat, I4 x3 0 w2 ∧
 ∀ x6 : Sl, ∀ n7 : Int, ∀ w8 : World, I4 x6 n7 w8 →
 ((decide (n7 < (x_0.n : Int))) = true →
 IxOk x_0 n7 ∧
 ldT w8 x_0 n7 fun n9 n10 x11 =>
 Trip Try.prog 64 #[.agg #[.int .i64 n9, .int .i64 n10, x11.val]] w8 fun r12 w13 =>
 ∃ n14 : Int, ∃ n15 : Int, ∃ x16 : Sl, r12 = .agg #[.int .i64 n14, .int .i64 n15, x16.val] ∧
 StepT Try.prog (Instr.buildSlice 28 1 #[(0, (.agg #[.int .i64 n14, .int .i64 n15, x16.val]))]) w13 fun r17 w18 =>
 ∃ x19 : Sl, r17 = x19.val ∧
 StepT Try.prog (Builtin.append_ #[28, 28] 28 #[(x6.val), (x19.val)]) w18 fun r20 w21 =>
 ∃ x22 : Sl, r20 = x22.val ∧
 ∃ n23 : Int, Wr .i64 (n7 + 1) n23 ∧
 I4 x22 n23 w21 ∧
 m5 x22 n23 w21 < m5 x6 n7 w8) ∧
 ((decide (n7 < (x_0.n : Int))) = false →
 Q (x6.val) w8)
theorem of32 (x_0 : Sl) (v : World) (Q : Value → World → Prop) (h : vc32 x_0 v Q) : Trip Try.prog 32 #[x_0.val] v Q :=
 trip_of_eq (args := [.sl x_0]) (A := ⟨[(3, [(3, .sl), (4, .int .i64)], [])], [], [], [], psG⟩) Try.func32 (by kernel_rfl) (by kernel_rfl) (by kernel_rfl : vc32 x_0 v Q = _) h

def vc33 (n_0 : Int) (n_1 : Int) (x_2 : Sl) (v : World) (Q : Value → World → Prop) : Prop :=
 Q (.agg #[.int .i64 n_0, .int .i64 n_1, x_2.val]) v
theorem of33 (n_0 : Int) (n_1 : Int) (x_2 : Sl) (v : World) (Q : Value → World → Prop) (h : vc33 n_0 n_1 x_2 v Q) : Trip Try.prog 33 #[.int .i64 n_0, .int .i64 n_1, x_2.val] v Q :=
 trip_of_eq (args := [.num .i64 n_0, .num .i64 n_1, .sl x_2]) (A := ⟨[], [], [], [], psG⟩) Try.func33 (by kernel_rfl) (by kernel_rfl) (by kernel_rfl : vc33 n_0 n_1 x_2 v Q = _) h

def vc34 (n_0 : Int) (v : World) (Q : Value → World → Prop) : Prop :=
 StepT Try.prog (Instr.buildSlice 28 0 #[]) v fun r1 w2 =>
 ∃ x3 : Sl, r1 = x3.val ∧
 Q (.agg #[.int .i64 0, .int .i64 n_0, x3.val]) w2
theorem of34 (n_0 : Int) (v : World) (Q : Value → World → Prop) (h : vc34 n_0 v Q) : Trip Try.prog 34 #[.int .i64 n_0] v Q :=
 trip_of_eq (args := [.num .i64 n_0]) (A := ⟨[], [], [], [], psG⟩) Try.func34 (by kernel_rfl) (by kernel_rfl) (by kernel_rfl : vc34 n_0 v Q = _) h

def vc35 (n_0 : Int) (v : World) (Q : Value → World → Prop) : Prop :=
 StepT Try.prog (Instr.buildSlice 28 0 #[]) v fun r1 w2 =>
 ∃ x3 : Sl, r1 = x3.val ∧
 Q (.agg #[.int .i64 12, .int .i64 n_0, x3.val]) w2
theorem of35 (n_0 : Int) (v : World) (Q : Value → World → Prop) (h : vc35 n_0 v Q) : Trip Try.prog 35 #[.int .i64 n_0] v Q :=
 trip_of_eq (args := [.num .i64 n_0]) (A := ⟨[], [], [], [], psG⟩) Try.func35 (by kernel_rfl) (by kernel_rfl) (by kernel_rfl : vc35 n_0 v Q = _) h

def vc36 (x_0 : Sl) (x_1 : Sl) (v : World) (Q : Value → World → Prop) : Prop :=
 Trip Try.prog 11 #[x_0.val] v fun r1 w2 =>
 ∃ x3 : Sl, r1 = x3.val ∧
 StepT Try.prog (Builtin.append_ #[27, 27] 27 #[(x3.val), (x_1.val)]) w2 fun r4 w5 =>
 ∃ x6 : Sl, r4 = x6.val ∧
 Q (x6.val) w5
theorem of36 (x_0 : Sl) (x_1 : Sl) (v : World) (Q : Value → World → Prop) (h : vc36 x_0 x_1 v Q) : Trip Try.prog 36 #[x_0.val, x_1.val] v Q :=
 trip_of_eq (args := [.sl x_0, .sl x_1]) (A := ⟨[], [], [], [], psG⟩) Try.func36 (by kernel_rfl) (by kernel_rfl) (by kernel_rfl : vc36 x_0 x_1 v Q = _) h

def vc37 (a_0 : Addr) (v : World) (Q : Value → World → Prop) : Prop :=
 Trip Try.prog 55 #[.pointer (some (a_0.add 0))] v fun r1 w2 =>
 ∃ x3 : Sl, r1 = x3.val ∧
 Trip Try.prog 12 #[.pointer (some (a_0.add 0)), .int .i64 (x3.n : Int)] w2 fun r4 w5 =>
 ∃ n6 : Int, r4 = .int .i64 n6 ∧
 Trip Try.prog 12 #[.pointer (some (a_0.add 0)), .int .i64 14] w5 fun r7 w8 =>
 ∃ n9 : Int, r7 = .int .i64 n9 ∧
 ((decide (n9 = 0)) = true →
 StepT Try.prog (Instr.buildSlice 27 4 #[(0, (.int .i64 (-1))), (1, (.int .i64 5)), (2, (.int .i64 0)), (3, (.int .i64 2))]) w8 fun r10 w11 =>
 ∃ x12 : Sl, r10 = x12.val ∧
 Trip Try.prog 14 #[.pointer (some (a_0.add 0)), x12.val] w11 fun r13 w14 =>
 ∃ n15 : Int, r13 = .int .i64 n15 ∧
 StepT Try.prog (Instr.buildSlice 27 3 #[(0, (.int .i64 0)), (1, (.int .i64 1)), (2, (.int .i64 5))]) w14 fun r16 w17 =>
 ∃ x18 : Sl, r16 = x18.val ∧
 Trip Try.prog 14 #[.pointer (some (a_0.add 0)), x18.val] w17 fun r19 w20 =>
 ∃ n21 : Int, r19 = .int .i64 n21 ∧
 IxOk x3 n6 ∧
 StoreAt w20 (elA x3 n6 3) 0 [.int .i64 n15, .int .i64 n21, .slice none 0 0] fun w22 =>
 Q (x3.val) w22) ∧
 ((decide (n9 = 0)) = false →
 ((decide (n9 = 1)) = true →
 StepT Try.prog (Instr.buildSlice 27 4 #[(0, (.int .i64 (-1))), (1, (.int .i64 0)), (2, (.int .i64 4)), (3, (.int .i64 5))]) w8 fun r23 w24 =>
 ∃ x25 : Sl, r23 = x25.val ∧
 Trip Try.prog 14 #[.pointer (some (a_0.add 0)), x25.val] w24 fun r26 w27 =>
 ∃ n28 : Int, r26 = .int .i64 n28 ∧
 StepT Try.prog (Instr.buildSlice 27 1 #[(0, (.int .i64 n28))]) w27 fun r29 w30 =>
 ∃ x31 : Sl, r29 = x31.val ∧
 Trip Try.prog 65 #[x31.val] w30 fun r32 w33 =>
 ∃ x34 : Sl, r32 = .agg #[x34.val] ∧
 StepT Try.prog (Instr.buildSlice 27 4 #[(0, (.int .i64 0)), (1, (.int .i64 0)), (2, (.int .i64 0)), (3, (.int .i64 0))]) w33 fun r35 w36 =>
 ∃ x37 : Sl, r35 = x37.val ∧
 Trip Try.prog 65 #[x37.val] w36 fun r38 w39 =>
 ∃ x40 : Sl, r38 = .agg #[x40.val] ∧
 StepT Try.prog (Instr.buildSlice 27 0 #[]) w39 fun r41 w42 =>
 ∃ x43 : Sl, r41 = x43.val ∧
 Trip Try.prog 65 #[x43.val] w42 fun r44 w45 =>
 ∃ x46 : Sl, r44 = .agg #[x46.val] ∧
 StepT Try.prog (Instr.buildSlice 85 3 #[(0, (.agg #[x34.val])), (1, (.agg #[x40.val])), (2, (.agg #[x46.val]))]) w45 fun r47 w48 =>
 ∃ x49 : Sl, r47 = x49.val ∧
 IxOk x3 n6 ∧
 StoreAt w48 (elA x3 n6 3) 0 [.int .i64 0, .int .i64 0, x49.val] fun w50 =>
 Q (x3.val) w50) ∧
 ((decide (n9 = 1)) = false →
 ((decide (n9 = 2)) = true →
 ∃ n51 : Int, Wr .i64 (n6 + 1) n51 ∧
 StepT Try.prog (Instr.buildSlice 27 1 #[(0, (.int .i64 n51))]) w8 fun r52 w53 =>
 ∃ x54 : Sl, r52 = x54.val ∧
 Trip Try.prog 65 #[x54.val] w53 fun r55 w56 =>
 ∃ x57 : Sl, r55 = .agg #[x57.val] ∧
 StepT Try.prog (Instr.buildSlice 85 1 #[(0, (.agg #[x57.val]))]) w56 fun r58 w59 =>
 ∃ x60 : Sl, r58 = x60.val ∧
 IxOk x3 n6 ∧
 StoreAt w59 (elA x3 n6 3) 0 [.int .i64 0, .int .i64 0, x60.val] fun w61 =>
 Q (x3.val) w61) ∧
 ((decide (n9 = 2)) = false →
 ((decide (n9 = 3)) = true →
 StepT Try.prog (Instr.buildSlice 27 3 #[(0, (.int .i64 0)), (1, (.int .i64 2)), (2, (.int .i64 1))]) w8 fun r62 w63 =>
 ∃ x64 : Sl, r62 = x64.val ∧
 Trip Try.prog 14 #[.pointer (some (a_0.add 0)), x64.val] w63 fun r65 w66 =>
 ∃ n67 : Int, r65 = .int .i64 n67 ∧
 StepT Try.prog (Instr.buildSlice 23 1 #[(0, (.agg #[.int .i64 2, .int .i64 n67, .slice none 0 0]))]) w66 fun r68 w69 =>
 ∃ x70 : Sl, r68 = x70.val ∧
 StepT Try.prog (Builtin.append_ #[23, 23] 23 #[(x3.val), (x70.val)]) w69 fun r71 w72 =>
 ∃ x73 : Sl, r71 = x73.val ∧
 Q (x73.val) w72) ∧
 ((decide (n9 = 3)) = false →
 ((decide (n9 = 4)) = true →
 Trip Try.prog 12 #[.pointer (some (a_0.add 0)), .int .i64 2] w8 fun r74 w75 =>
 ∃ n76 : Int, r74 = .int .i64 n76 ∧
 StepT Try.prog (Instr.buildSlice 27 0 #[]) w75 fun r77 w78 =>
 ∃ x79 : Sl, r77 = x79.val ∧
 Trip Try.prog 65 #[x79.val] w78 fun r80 w81 =>
 ∃ x82 : Sl, r80 = .agg #[x82.val] ∧
 StepT Try.prog (Instr.buildSlice 27 1 #[(0, (.int .i64 2))]) w81 fun r83 w84 =>
 ∃ x85 : Sl, r83 = x85.val ∧
 Trip Try.prog 65 #[x85.val] w84 fun r86 w87 =>
 ∃ x88 : Sl, r86 = .agg #[x88.val] ∧
 StepT Try.prog (Instr.buildSlice 27 0 #[]) w87 fun r89 w90 =>
 ∃ x91 : Sl, r89 = x91.val ∧
 Trip Try.prog 65 #[x91.val] w90 fun r92 w93 =>
 ∃ x94 : Sl, r92 = .agg #[x94.val] ∧
 StepT Try.prog (Instr.buildSlice 27 0 #[]) w93 fun r95 w96 =>
 ∃ x97 : Sl, r95 = x97.val ∧
 Trip Try.prog 65 #[x97.val] w96 fun r98 w99 =>
 ∃ x100 : Sl, r98 = .agg #[x100.val] ∧
 StepT Try.prog (Instr.buildSlice 85 4 #[(0, (.agg #[x82.val])), (1, (.agg #[x88.val])), (2, (.agg #[x94.val])), (3, (.agg #[x100.val]))]) w99 fun r101 w102 =>
 ∃ x103 : Sl, r101 = x103.val ∧
 Trip Try.prog 12 #[.pointer (some (a_0.add 0)), .int .i64 3] w102 fun r104 w105 =>
 ∃ n106 : Int, r104 = .int .i64 n106 ∧
 ((0 : Int) ≤ n106 ∧ n106 ≤ (x103.n : Int)) ∧
 IxOk x3 n6 ∧
 StoreAt w105 (elA x3 n6 3) 0 [.int .i64 n76, .int .i64 0, (x103.cut n106 (x103.n : Int) 1).val] fun w107 =>
 Q (x3.val) w107) ∧
 ((decide (n9 = 4)) = false →
 ((decide (n9 = 5)) = true →
 StepT Try.prog (Instr.buildSlice 23 2 #[(0, (.agg #[.int .i64 0, .int .i64 0, .slice none 0 0])), (1, (.agg #[.int .i64 3, .int .i64 0, .slice none 0 0]))]) w8 fun r108 w109 =>
 ∃ x110 : Sl, r108 = x110.val ∧
 StepT Try.prog (Builtin.append_ #[23, 23] 23 #[(x3.val), (x110.val)]) w109 fun r111 w112 =>
 ∃ x113 : Sl, r111 = x113.val ∧
 Q (x113.val) w112) ∧
 ((decide (n9 = 5)) = false →
 Q (x3.val) w8))))))
theorem of37 (a_0 : Addr) (v : World) (Q : Value → World → Prop) (h : vc37 a_0 v Q) : Trip Try.prog 37 #[.pointer (some (a_0.add 0))] v Q :=
 trip_of_eq (args := [.pt a_0 0]) (A := ⟨[], [], [], [], psG⟩) Try.func37 (by kernel_rfl) (by kernel_rfl) (by kernel_rfl : vc37 a_0 v Q = _) h

def vc38 (x_0 : Sl) (x_1 : Sl) (v : World) (Q : Value → World → Prop) : Prop :=
 ∃ q1 : Bool, (Trip Try.prog 66 #[x_0.val] v fun r2 w3 => r2 = .bool q1 ∧ Sub v w3) ∧
 ((((!q1) || (decide ((x_1.n : Int) < 1))) || (decide ((x_1.n : Int) > 4))) = false →
 IxOk x_1 0) ∧
 ∃ x4 : Sl, ((((!q1) || (decide ((x_1.n : Int) < 1))) || (decide ((x_1.n : Int) > 4))) = false →
 v.cell? ((elA x_1 0 3).add 0) = some (x4.val)) ∧
 (((((!q1) || (decide ((x_1.n : Int) < 1))) || (decide ((x_1.n : Int) > 4))) || (decide ((x4.n : Int) > 0))) = false →
 IxOk x_1 0) ∧
 ∃ n5 : Int, (((((!q1) || (decide ((x_1.n : Int) < 1))) || (decide ((x_1.n : Int) > 4))) || (decide ((x4.n : Int) > 0))) = false →
 v.cell? ((elA x_1 0 3).add 2) = some (.int .i64 n5)) ∧
 ((((((!q1) || (decide ((x_1.n : Int) < 1))) || (decide ((x_1.n : Int) > 4))) || (decide ((x4.n : Int) > 0))) || (!decide (n5 = 0))) = true →
 Q (.bool false) v) ∧
 ((((((!q1) || (decide ((x_1.n : Int) < 1))) || (decide ((x_1.n : Int) > 4))) || (decide ((x4.n : Int) > 0))) || (!decide (n5 = 0))) = false →
 ∃ I6 : Int → World → Prop, ∃ m7 : Int → World → Nat, I6 0 v ∧
 ∀ n8 : Int, ∀ w9 : World, I6 n8 w9 →
 ((decide (n8 < (x_1.n : Int))) = true →
 IxOk x_1 n8 ∧
 ∃ x10 : Sl, ∃ x11 : Sl, ∃ n12 : Int, (w9.cell? ((elA x_1 n8 3).add 0) = some (x10.val) ∧
 w9.cell? ((elA x_1 n8 3).add 1) = some (x11.val) ∧
 w9.cell? ((elA x_1 n8 3).add 2) = some (.int .i64 n12)) ∧
 ∃ q13 : Bool, ((decide ((x10.n : Int) > 3)) = false →
 (Trip Try.prog 19 #[x_0.val, x10.val] w9 fun r14 w15 => r14 = .bool q13 ∧ Sub w9 w15)) ∧
 ∃ q16 : Bool, (((decide ((x10.n : Int) > 3)) || (!q13)) = false →
 (Trip Try.prog 40 #[x_0.val, .int .i64 n12] w9 fun r17 w18 => r17 = .bool q16 ∧ Sub w9 w18)) ∧
 ((((decide ((x10.n : Int) > 3)) || (!q13)) || (!q16)) = true →
 Q (.bool false) w9) ∧
 ((((decide ((x10.n : Int) > 3)) || (!q13)) || (!q16)) = false →
 ∃ I19 : Int → World → Prop, ∃ m20 : Int → World → Nat, I19 0 w9 ∧
 ∀ n21 : Int, ∀ w22 : World, I19 n21 w22 →
 ((decide (n21 < (x11.n : Int))) = true →
 IxOk x11 n21 ∧
 ∃ n23 : Int, w22.cell? ((elA x11 n21 1).add 0) = some (.int .i64 n23) ∧
 (((decide (n23 < 0)) || (decide (n23 ≥ (x10.n : Int)))) = false →
 IxOk x10 n23) ∧
 ∃ n24 : Int, (((decide (n23 < 0)) || (decide (n23 ≥ (x10.n : Int)))) = false →
 w22.cell? ((elA x10 n23 1).add 0) = some (.int .i64 n24)) ∧
 ∃ n25 : Int, ((decide (n21 > 0)) = true →
 (((decide (n23 < 0)) || (decide (n23 ≥ (x10.n : Int)))) || (decide (n24 = 0))) = false →
 Wr .i64 (n21 - 1) n25) ∧
 ((decide (n21 > 0)) = true →
 (((decide (n23 < 0)) || (decide (n23 ≥ (x10.n : Int)))) || (decide (n24 = 0))) = false →
 IxOk x11 n25) ∧
 ∃ n26 : Int, ((decide (n21 > 0)) = true →
 (((decide (n23 < 0)) || (decide (n23 ≥ (x10.n : Int)))) || (decide (n24 = 0))) = false →
 w22.cell? ((elA x11 n25 1).add 0) = some (.int .i64 n26)) ∧
 (((((decide (n23 < 0)) || (decide (n23 ≥ (x10.n : Int)))) || (decide (n24 = 0))) || ((decide (n21 > 0)) && (decide (n23 ≤ n26)))) = true →
 Q (.bool false) w22) ∧
 (((((decide (n23 < 0)) || (decide (n23 ≥ (x10.n : Int)))) || (decide (n24 = 0))) || ((decide (n21 > 0)) && (decide (n23 ≤ n26)))) = false →
 ∃ n27 : Int, Wr .i64 (n21 + 1) n27 ∧
 eqS (.sl x10) ∧
 eqS (.sl x11) ∧
 eqS (.num .i64 n12) ∧
 I19 n27 w22 ∧
 m20 n27 w22 < m20 n21 w22)) ∧
 ((decide (n21 < (x11.n : Int))) = false →
 ∃ n28 : Int, Wr .i64 (n8 + 1) n28 ∧
 I6 n28 w22 ∧
 m7 n28 w22 < m7 n8 w9))) ∧
 ((decide (n8 < (x_1.n : Int))) = false →
 Q (.bool true) w9))
theorem of38 (x_0 : Sl) (x_1 : Sl) (v : World) (Q : Value → World → Prop) (h : vc38 x_0 x_1 v Q) : Trip Try.prog 38 #[x_0.val, x_1.val] v Q :=
 trip_of_eq (args := [.sl x_0, .sl x_1]) (A := ⟨[(4, [(39, .int .i64)], []), (9, [(64, .int .i64)], [])], [], [], [], psG⟩) Try.func38 (by kernel_rfl) (by kernel_rfl) (by kernel_rfl : vc38 x_0 x_1 v Q = _) h

def vc39 (n0_0 : Int) (n0_1 : Int) (x0_2 : Sl) (a_1 : Addr) (v : World) (Q : Value → World → Prop) : Prop :=
 ∃ n1 : Int, v.cell? (a_1.add 0) = some (.int .i64 n1) ∧
 ∃ n2 : Int, Wr .i64 (n1 + 1) n2 ∧
 StoreAt v a_1 0 [.int .i64 n2] fun w3 =>
 ∃ n4 : Int, w3.cell? (a_1.add 0) = some (.int .i64 n4) ∧
 ((decide (n4 > 30)) = true →
 Q (.bool false) w3) ∧
 ((decide (n4 > 30)) = false →
 ∃ I5 : Int → World → Prop, ∃ m6 : Int → World → Nat, I5 0 w3 ∧
 ∀ n7 : Int, ∀ w8 : World, I5 n7 w8 →
 ((decide (n7 < (x0_2.n : Int))) = true →
 IxOk x0_2 n7 ∧
 ldT w8 x0_2 n7 fun n9 n10 x11 =>
 Trip Try.prog 39 #[.agg #[.int .i64 n9, .int .i64 n10, x11.val], .pointer (some (a_1.add 0))] w8 fun r12 w13 =>
 ∃ q14 : Bool, r12 = .bool q14 ∧
 ((!q14) = true →
 Q (.bool false) w13) ∧
 ((!q14) = false →
 ∃ n15 : Int, Wr .i64 (n7 + 1) n15 ∧
 eqS (.num .i64 n0_0) ∧
 eqS (.num .i64 n0_1) ∧
 eqS (.sl x0_2) ∧
 I5 n15 w13 ∧
 m6 n15 w13 < m6 n7 w8)) ∧
 ((decide (n7 < (x0_2.n : Int))) = false →
 Q (.bool true) w8))
theorem of39 (n0_0 : Int) (n0_1 : Int) (x0_2 : Sl) (a_1 : Addr) (v : World) (Q : Value → World → Prop) (h : vc39 n0_0 n0_1 x0_2 a_1 v Q) : Trip Try.prog 39 #[.agg #[.int .i64 n0_0, .int .i64 n0_1, x0_2.val], .pointer (some (a_1.add 0))] v Q :=
 trip_of_eq (args := [.ag [.num .i64 n0_0, .num .i64 n0_1, .sl x0_2], .pt a_1 0]) (A := ⟨[(5, [(19, .int .i64)], [])], [], [], [], psG⟩) Try.func39 (by kernel_rfl) (by kernel_rfl) (by kernel_rfl : vc39 n0_0 n0_1 x0_2 a_1 v Q = _) h

def vc40 (x_0 : Sl) (n_1 : Int) (v : World) (Q : Value → World → Prop) : Prop :=
 Q (.bool ((decide (n_1 ≥ 0)) && (decide (n_1 ≤ (x_0.n : Int))))) v
theorem of40 (x_0 : Sl) (n_1 : Int) (v : World) (Q : Value → World → Prop) (h : vc40 x_0 n_1 v Q) : Trip Try.prog 40 #[x_0.val, .int .i64 n_1] v Q :=
 trip_of_eq (args := [.sl x_0, .num .i64 n_1]) (A := ⟨[], [], [], [], psG⟩) Try.func40 (by kernel_rfl) (by kernel_rfl) (by kernel_rfl : vc40 x_0 n_1 v Q = _) h

def vc41 (x0_0 : Sl) (x0_1 : Sl) (x_1 : Sl) (x_2 : Sl) (x_3 : Sl) (v : World) (Q : Value → World → Prop) : Prop :=
 ∃ I1 : Int → Int → World → Prop, ∃ m2 : Int → Int → World → Nat, I1 (-1) 0 v ∧
 ∀ n3 : Int, ∀ n4 : Int, ∀ w5 : World, I1 n3 n4 w5 →
 ((decide (n4 < (x_2.n : Int))) = true →
 IxOk x_2 n4 ∧
 ldT w5 x_2 n4 fun n6 n7 x8 =>
 IxOk x_3 n4 ∧
 ∃ x9 : Sl, w5.cell? ((elA x_3 n4 1).add 0) = some (x9.val) ∧
 StepT Try.prog (Instr.buildSlice 75 2 #[(0, (x_1.val)), (1, (x9.val))]) w5 fun r10 w11 =>
 ∃ x12 : Sl, r10 = x12.val ∧
 Sub w5 w11 ∧
 Trip Try.prog 67 #[x12.val] w11 fun r13 w14 =>
 ∃ x15 : Sl, r13 = x15.val ∧
 Sub w11 w14 ∧
 Trip Try.prog 21 #[.agg #[x0_0.val, x0_1.val], x15.val, .agg #[.int .i64 n6, .int .i64 n7, x8.val]] w14 fun r16 w17 =>
 ∃ n18 : Int, r16 = .int .i64 n18 ∧
 (((decide (n18 < 0)) || ((decide (n4 > 0)) && (!decide (n18 = n3)))) = true →
 Q (.int .i64 (-1)) w17) ∧
 (((decide (n18 < 0)) || ((decide (n4 > 0)) && (!decide (n18 = n3)))) = false →
 ∃ n19 : Int, Wr .i64 (n4 + 1) n19 ∧
 eqS (.sl x0_0) ∧
 eqS (.sl x0_1) ∧
 I1 n18 n19 w17 ∧
 m2 n18 n19 w17 < m2 n3 n4 w5)) ∧
 ((decide (n4 < (x_2.n : Int))) = false →
 Q (.int .i64 n3) w5)
theorem of41 (x0_0 : Sl) (x0_1 : Sl) (x_1 : Sl) (x_2 : Sl) (x_3 : Sl) (v : World) (Q : Value → World → Prop) (h : vc41 x0_0 x0_1 x_1 x_2 x_3 v Q) : Trip Try.prog 41 #[.agg #[x0_0.val, x0_1.val], x_1.val, x_2.val, x_3.val] v Q :=
 trip_of_eq (args := [.ag [.sl x0_0, .sl x0_1], .sl x_1, .sl x_2, .sl x_3]) (A := ⟨[(3, [(9, .int .i64), (15, .int .i64)], [])], [], [(5, [6, 7])], [], psG⟩) Try.func41 (by kernel_rfl) (by kernel_rfl) (by kernel_rfl : vc41 x0_0 x0_1 x_1 x_2 x_3 v Q = _) h

end Go.Vc
