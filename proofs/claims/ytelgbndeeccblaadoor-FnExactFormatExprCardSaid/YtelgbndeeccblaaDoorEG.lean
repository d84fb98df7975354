/- Part of the proofs about the heaps and memories: a law is joined in the text whose name ends in W and the law. -/
import Derived.Test.YtelgbndeeccblaaDoorEGa
namespace Go.Vc
open Go Go.Proofs
set_option linter.all false

def vc105 (a_0 : Addr) (x1_0 : Sl) (x1_1 : Sl) (n_2 : Int) (v : World) (Q : Value → World → Prop) : Prop :=
 IxOk x1_1 n_2 ∧
 ∃ x1 : Sl, v.cell? ((elA x1_1 n_2 5).add 0) = some (x1.val) ∧
 Trip Tryd.prog 67 #[.int .i64 0] v fun r2 w3 =>
 ∃ n4 : Int, ∃ n5 : Int, ∃ x6 : Sl, r2 = .agg #[.int .i64 n4, .int .i64 n5, x6.val] ∧
 Trip Tryd.prog 66 #[.int .i64 1] w3 fun r7 w8 =>
 ∃ n9 : Int, ∃ n10 : Int, ∃ x11 : Sl, r7 = .agg #[.int .i64 n9, .int .i64 n10, x11.val] ∧
 StepT Tryd.prog (Instr.buildSlice 27 2 #[(0, (.agg #[.int .i64 n4, .int .i64 n5, x6.val])), (1, (.agg #[.int .i64 n9, .int .i64 n10, x11.val]))]) w8 fun r12 w13 =>
 ∃ x14 : Sl, r12 = x14.val ∧
 Trip Tryd.prog 55 #[.int .i64 2, .int .i64 0, x14.val] w13 fun r15 w16 =>
 ∃ n17 : Int, ∃ n18 : Int, ∃ x19 : Sl, r15 = .agg #[.int .i64 n17, .int .i64 n18, x19.val] ∧
 StepT Tryd.prog (Instr.buildSlice 27 1 #[(0, (.agg #[.int .i64 n17, .int .i64 n18, x19.val]))]) w16 fun r20 w21 =>
 ∃ x22 : Sl, r20 = x22.val ∧
 ∃ I23 : Sl → Int → World → Prop, ∃ m24 : Sl → Int → World → Nat, I23 x22 1 w21 ∧
 ∀ x25 : Sl, ∀ n26 : Int, ∀ w27 : World, I23 x25 n26 w27 →
 ((decide (n26 < (x1.n : Int))) = true →
 IxOk x1 n26 ∧
 ∃ n28 : Int, w27.cell? ((elA x1 n26 1).add 0) = some (.int .i64 n28) ∧
 Trip Tryd.prog 120 #[.pointer (some (a_0.add 0)), .agg #[x1_0.val, x1_1.val], x1.val, .int .i64 n28] w27 fun r29 w30 =>
 ∃ n31 : Int, ∃ n32 : Int, ∃ x33 : Sl, r29 = .agg #[.int .i64 n31, .int .i64 n32, x33.val] ∧
 StepT Tryd.prog (Instr.buildSlice 27 1 #[(0, (.agg #[.int .i64 n31, .int .i64 n32, x33.val]))]) w30 fun r34 w35 =>
 ∃ x36 : Sl, r34 = x36.val ∧
 StepT Tryd.prog (Builtin.append_ #[27, 27] 27 #[(x25.val), (x36.val)]) w35 fun r37 w38 =>
 ∃ x39 : Sl, r37 = x39.val ∧
 ∃ n40 : Int, Wr .i64 (n26 + 1) n40 ∧
 ((.sl x1_0 : SV) = .sl x1_0) ∧
 ((.sl x1_1 : SV) = .sl x1_1) ∧
 ((.num .i64 0 : SV) = .num .i64 0) ∧
 ((.num .i64 0 : SV) = .num .i64 0) ∧
 ((.sl (Sl.mk none 0 0) : SV) = .sl (Sl.mk none 0 0)) ∧
 I23 x39 n40 w38 ∧
 m24 x39 n40 w38 < m24 x25 n26 w27) ∧
 ((decide (n26 < (x1.n : Int))) = false →
 Trip Tryd.prog 55 #[.int .i64 9, .int .i64 n_2, x25.val] w27 fun r41 w42 =>
 ∃ n43 : Int, ∃ n44 : Int, ∃ x45 : Sl, r41 = .agg #[.int .i64 n43, .int .i64 n44, x45.val] ∧
 IxOk x1_1 n_2 ∧
 ∃ n46 : Int, w42.cell? ((elA x1_1 n_2 5).add 1) = some (.int .i64 n46) ∧
 ((decide (n46 = 1)) = true →
 Trip Tryd.prog 117 #[.pointer (some (a_0.add 0)), .agg #[x1_0.val, x1_1.val], x1.val, .int .i64 0, .int .i64 3] w42 fun r47 w48 =>
 ∃ n49 : Int, ∃ n50 : Int, ∃ x51 : Sl, r47 = .agg #[.int .i64 n49, .int .i64 n50, x51.val] ∧
 StepT Tryd.prog (Instr.buildSlice 27 2 #[(0, (.agg #[.int .i64 n49, .int .i64 n50, x51.val])), (1, (.agg #[.int .i64 n43, .int .i64 n44, x45.val]))]) w48 fun r52 w53 =>
 ∃ x54 : Sl, r52 = x54.val ∧
 Trip Tryd.prog 55 #[.int .i64 6, .int .i64 1, x54.val] w53 fun r55 w56 =>
 ∃ n57 : Int, ∃ n58 : Int, ∃ x59 : Sl, r55 = .agg #[.int .i64 n57, .int .i64 n58, x59.val] ∧
 Trip Tryd.prog 66 #[.int .i64 0] w56 fun r60 w61 =>
 ∃ n62 : Int, ∃ n63 : Int, ∃ x64 : Sl, r60 = .agg #[.int .i64 n62, .int .i64 n63, x64.val] ∧
 Trip Tryd.prog 67 #[.int .i64 0] w61 fun r65 w66 =>
 ∃ n67 : Int, ∃ n68 : Int, ∃ x69 : Sl, r65 = .agg #[.int .i64 n67, .int .i64 n68, x69.val] ∧
 StepT Tryd.prog (Instr.buildSlice 27 2 #[(0, (.agg #[.int .i64 n62, .int .i64 n63, x64.val])), (1, (.agg #[.int .i64 n67, .int .i64 n68, x69.val]))]) w66 fun r70 w71 =>
 ∃ x72 : Sl, r70 = x72.val ∧
 Trip Tryd.prog 55 #[.int .i64 4, .int .i64 0, x72.val] w71 fun r73 w74 =>
 ∃ n75 : Int, ∃ n76 : Int, ∃ x77 : Sl, r73 = .agg #[.int .i64 n75, .int .i64 n76, x77.val] ∧
 IxOk x1_1 n_2 ∧
 ∃ n78 : Int, w74.cell? ((elA x1_1 n_2 5).add 1) = some (.int .i64 n78) ∧
 Trip Tryd.prog 117 #[.pointer (some (a_0.add 0)), .agg #[x1_0.val, x1_1.val], x1.val, .int .i64 n78, .int .i64 4] w74 fun r79 w80 =>
 ∃ n81 : Int, ∃ n82 : Int, ∃ x83 : Sl, r79 = .agg #[.int .i64 n81, .int .i64 n82, x83.val] ∧
 StepT Tryd.prog (Instr.buildSlice 27 3 #[(0, (.agg #[.int .i64 n75, .int .i64 n76, x77.val])), (1, (.agg #[.int .i64 n57, .int .i64 n58, x59.val])), (2, (.agg #[.int .i64 n81, .int .i64 n82, x83.val]))]) w80 fun r84 w85 =>
 ∃ x86 : Sl, r84 = x86.val ∧
 Trip Tryd.prog 55 #[.int .i64 7, .int .i64 0, x86.val] w85 fun r87 w88 =>
 ∃ n89 : Int, ∃ n90 : Int, ∃ x91 : Sl, r87 = .agg #[.int .i64 n89, .int .i64 n90, x91.val] ∧
 Q (.agg #[.int .i64 n89, .int .i64 n90, x91.val]) w88) ∧
 ((decide (n46 = 1)) = false →
 Trip Tryd.prog 66 #[.int .i64 0] w42 fun r92 w93 =>
 ∃ n94 : Int, ∃ n95 : Int, ∃ x96 : Sl, r92 = .agg #[.int .i64 n94, .int .i64 n95, x96.val] ∧
 Trip Tryd.prog 67 #[.int .i64 0] w93 fun r97 w98 =>
 ∃ n99 : Int, ∃ n100 : Int, ∃ x101 : Sl, r97 = .agg #[.int .i64 n99, .int .i64 n100, x101.val] ∧
 StepT Tryd.prog (Instr.buildSlice 27 2 #[(0, (.agg #[.int .i64 n94, .int .i64 n95, x96.val])), (1, (.agg #[.int .i64 n99, .int .i64 n100, x101.val]))]) w98 fun r102 w103 =>
 ∃ x104 : Sl, r102 = x104.val ∧
 Trip Tryd.prog 55 #[.int .i64 4, .int .i64 0, x104.val] w103 fun r105 w106 =>
 ∃ n107 : Int, ∃ n108 : Int, ∃ x109 : Sl, r105 = .agg #[.int .i64 n107, .int .i64 n108, x109.val] ∧
 IxOk x1_1 n_2 ∧
 ∃ n110 : Int, w106.cell? ((elA x1_1 n_2 5).add 1) = some (.int .i64 n110) ∧
 Trip Tryd.prog 117 #[.pointer (some (a_0.add 0)), .agg #[x1_0.val, x1_1.val], x1.val, .int .i64 n110, .int .i64 4] w106 fun r111 w112 =>
 ∃ n113 : Int, ∃ n114 : Int, ∃ x115 : Sl, r111 = .agg #[.int .i64 n113, .int .i64 n114, x115.val] ∧
 StepT Tryd.prog (Instr.buildSlice 27 3 #[(0, (.agg #[.int .i64 n107, .int .i64 n108, x109.val])), (1, (.agg #[.int .i64 n43, .int .i64 n44, x45.val])), (2, (.agg #[.int .i64 n113, .int .i64 n114, x115.val]))]) w112 fun r116 w117 =>
 ∃ x118 : Sl, r116 = x118.val ∧
 Trip Tryd.prog 55 #[.int .i64 7, .int .i64 0, x118.val] w117 fun r119 w120 =>
 ∃ n121 : Int, ∃ n122 : Int, ∃ x123 : Sl, r119 = .agg #[.int .i64 n121, .int .i64 n122, x123.val] ∧
 Q (.agg #[.int .i64 n121, .int .i64 n122, x123.val]) w120))
theorem of105 (a_0 : Addr) (x1_0 : Sl) (x1_1 : Sl) (n_2 : Int) (v : World) (Q : Value → World → Prop) (h : vc105 a_0 x1_0 x1_1 n_2 v Q) : Trip Tryd.prog 105 #[.pointer (some (a_0.add 0)), .agg #[x1_0.val, x1_1.val], .int .i64 n_2] v Q :=
 trip_of_eq (args := [.pt a_0 0, .ag [.sl x1_0, .sl x1_1], .num .i64 n_2]) (A := ⟨[(4, [(8, .sl), (9, .int .i64)], [])], [], [(6, []), (9, []), (11, [])], [], psG⟩) Tryd.func105 (by kernel_rfl) (by kernel_rfl) (by kernel_rfl : vc105 a_0 x1_0 x1_1 n_2 v Q = _) h

def vc106 (a_0 : Addr) (x1_0 : Sl) (x1_1 : Sl) (x_2 : Sl) (n_3 : Int) (n_4 : Int) (v : World) (Q : Value → World → Prop) : Prop :=
 Trip Tryd.prog 117 #[.pointer (some (a_0.add 0)), .agg #[x1_0.val, x1_1.val], x_2.val, .int .i64 n_3, .int .i64 n_4] v fun r1 w2 =>
 ∃ n3 : Int, ∃ n4 : Int, ∃ x5 : Sl, r1 = .agg #[.int .i64 n3, .int .i64 n4, x5.val] ∧
 ∃ I6 : Int → Int → Int → Sl → World → Prop, ∃ m7 : Int → Int → Int → Sl → World → Nat, I6 n_4 n3 n4 x5 w2 ∧
 ∀ n8 : Int, ∀ n9 : Int, ∀ n10 : Int, ∀ x11 : Sl, ∀ w12 : World, I6 n8 n9 n10 x11 w12 →
 ∃ n13 : Int, (Trip Tryd.prog 19 #[.agg #[.int .i64 n9, .int .i64 n10, x11.val]] w12 fun r14 w15 => r14 = .int .i64 n13 ∧ Sub w12 w15) ∧
 (((decide (n13 < 0)) && (decide (n8 > 2))) = true →
 ∃ n16 : Int, ((2 : Int) ≠ 0 ∧ Wr .i64 (Int.tdiv n8 2) n16) ∧
 Trip Tryd.prog 117 #[.pointer (some (a_0.add 0)), .agg #[x1_0.val, x1_1.val], x_2.val, .int .i64 n_3, .int .i64 n16] w12 fun r17 w18 =>
 ∃ n19 : Int, ∃ n20 : Int, ∃ x21 : Sl, r17 = .agg #[.int .i64 n19, .int .i64 n20, x21.val] ∧
 ((.sl x1_0 : SV) = .sl x1_0) ∧
 ((.sl x1_1 : SV) = .sl x1_1) ∧
 ((.num .i64 0 : SV) = .num .i64 0) ∧
 ((.num .i64 0 : SV) = .num .i64 0) ∧
 ((.sl (Sl.mk none 0 0) : SV) = .sl (Sl.mk none 0 0)) ∧
 I6 n16 n19 n20 x21 w18 ∧
 m7 n16 n19 n20 x21 w18 < m7 n8 n9 n10 x11 w12) ∧
 (((decide (n13 < 0)) && (decide (n8 > 2))) = false →
 Q (.agg #[.int .i64 n9, .int .i64 n10, x11.val]) w12)
theorem of106 (a_0 : Addr) (x1_0 : Sl) (x1_1 : Sl) (x_2 : Sl) (n_3 : Int) (n_4 : Int) (v : World) (Q : Value → World → Prop) (h : vc106 a_0 x1_0 x1_1 x_2 n_3 n_4 v Q) : Trip Tryd.prog 106 #[.pointer (some (a_0.add 0)), .agg #[x1_0.val, x1_1.val], x_2.val, .int .i64 n_3, .int .i64 n_4] v Q :=
 trip_of_eq (args := [.pt a_0 0, .ag [.sl x1_0, .sl x1_1], .sl x_2, .num .i64 n_3, .num .i64 n_4]) (A := ⟨[(2, [(4, .int .i64)], [(2, 0, .int .i64), (2, 1, .int .i64), (2, 2, .sl)])], [], [], [], psG⟩) Tryd.func106 (by kernel_rfl) (by kernel_rfl) (by kernel_rfl : vc106 a_0 x1_0 x1_1 x_2 n_3 n_4 v Q = _) h

def vc117 (a_0 : Addr) (x1_0 : Sl) (x1_1 : Sl) (x_2 : Sl) (n_3 : Int) (n_4 : Int) (v : World) (Q : Value → World → Prop) : Prop :=
 ((decide (n_4 < 3)) = true →
 Trip Tryd.prog 120 #[.pointer (some (a_0.add 0)), .agg #[x1_0.val, x1_1.val], x_2.val, .int .i64 n_3] v fun r1 w2 =>
 ∃ n3 : Int, ∃ n4 : Int, ∃ x5 : Sl, r1 = .agg #[.int .i64 n3, .int .i64 n4, x5.val] ∧
 Q (.agg #[.int .i64 n3, .int .i64 n4, x5.val]) w2) ∧
 ((decide (n_4 < 3)) = false →
 Trip Tryd.prog 53 #[.pointer (some (a_0.add 0)), .int .i64 12] v fun r6 w7 =>
 ∃ n8 : Int, r6 = .int .i64 n8 ∧
 ((decide (n8 = 0)) = true →
 Trip Tryd.prog 120 #[.pointer (some (a_0.add 0)), .agg #[x1_0.val, x1_1.val], x_2.val, .int .i64 n_3] w7 fun r9 w10 =>
 ∃ n11 : Int, ∃ n12 : Int, ∃ x13 : Sl, r9 = .agg #[.int .i64 n11, .int .i64 n12, x13.val] ∧
 Q (.agg #[.int .i64 n11, .int .i64 n12, x13.val]) w10) ∧
 ((decide (n8 = 0)) = false →
 ((decide (n8 = 1)) = true →
 ((decide (n8 = 1)) = true →
 Trip Tryd.prog 125 #[.pointer (some (a_0.add 0)), .agg #[x1_0.val, x1_1.val], x_2.val] w7 fun r14 w15 =>
 ∃ n16 : Int, r14 = .int .i64 n16 ∧
 ∃ n17 : Int, ((2 : Int) ≠ 0 ∧ Wr .i64 (Int.tdiv n_4 2) n17) ∧
 ∃ n18 : Int, ((2 : Int) ≠ 0 ∧ Wr .i64 (Int.tdiv n_4 2) n18) ∧
 (Trip Tryd.prog 117 #[.pointer (some (a_0.add 0)), .agg #[x1_0.val, x1_1.val], x_2.val, .int .i64 n16, .int .i64 n17] w15 fun r19 w20 =>
 ∃ n21 : Int, ∃ n22 : Int, ∃ x23 : Sl, r19 = .agg #[.int .i64 n21, .int .i64 n22, x23.val] ∧
 StepT Tryd.prog (Instr.buildSlice 86 1 #[(0, (.int .i64 n16))]) w20 fun r24 w25 =>
 ∃ x26 : Sl, r24 = x26.val ∧
 Sub w20 w25 ∧
 Trip Tryd.prog 119 #[x_2.val, x26.val] w25 fun r27 w28 =>
 ∃ x29 : Sl, r27 = x29.val ∧
 Trip Tryd.prog 117 #[.pointer (some (a_0.add 0)), .agg #[x1_0.val, x1_1.val], x29.val, .int .i64 n_3, .int .i64 n18] w28 fun r30 w31 =>
 ∃ n32 : Int, ∃ n33 : Int, ∃ x34 : Sl, r30 = .agg #[.int .i64 n32, .int .i64 n33, x34.val] ∧
 StepT Tryd.prog (Instr.buildSlice 27 2 #[(0, (.agg #[.int .i64 n21, .int .i64 n22, x23.val])), (1, (.agg #[.int .i64 n32, .int .i64 n33, x34.val]))]) w31 fun r35 w36 =>
 ∃ x37 : Sl, r35 = x37.val ∧
 Trip Tryd.prog 55 #[.int .i64 13, .int .i64 0, x37.val] w36 fun r38 w39 =>
 ∃ n40 : Int, ∃ n41 : Int, ∃ x42 : Sl, r38 = .agg #[.int .i64 n40, .int .i64 n41, x42.val] ∧
 Q (.agg #[.int .i64 n40, .int .i64 n41, x42.val]) w39) ∧
 StepT Tryd.prog (Instr.buildSlice 86 1 #[(0, (.int .i64 n16))]) w15 fun r43 w44 =>
 ∃ x45 : Sl, r43 = x45.val ∧
 Sub w15 w44 ∧
 Trip Tryd.prog 117 #[.pointer (some (a_0.add 0)), .agg #[x1_0.val, x1_1.val], x_2.val, .int .i64 n16, .int .i64 n17] w44 fun r46 w47 =>
 ∃ n48 : Int, ∃ n49 : Int, ∃ x50 : Sl, r46 = .agg #[.int .i64 n48, .int .i64 n49, x50.val] ∧
 Trip Tryd.prog 119 #[x_2.val, x45.val] w47 fun r51 w52 =>
 ∃ x53 : Sl, r51 = x53.val ∧
 Trip Tryd.prog 117 #[.pointer (some (a_0.add 0)), .agg #[x1_0.val, x1_1.val], x53.val, .int .i64 n_3, .int .i64 n18] w52 fun r54 w55 =>
 ∃ n56 : Int, ∃ n57 : Int, ∃ x58 : Sl, r54 = .agg #[.int .i64 n56, .int .i64 n57, x58.val] ∧
 StepT Tryd.prog (Instr.buildSlice 27 2 #[(0, (.agg #[.int .i64 n48, .int .i64 n49, x50.val])), (1, (.agg #[.int .i64 n56, .int .i64 n57, x58.val]))]) w55 fun r59 w60 =>
 ∃ x61 : Sl, r59 = x61.val ∧
 Trip Tryd.prog 55 #[.int .i64 13, .int .i64 0, x61.val] w60 fun r62 w63 =>
 ∃ n64 : Int, ∃ n65 : Int, ∃ x66 : Sl, r62 = .agg #[.int .i64 n64, .int .i64 n65, x66.val] ∧
 Q (.agg #[.int .i64 n64, .int .i64 n65, x66.val]) w63) ∧
 ((decide (n8 = 1)) = false →
 ((decide (n8 = 3)) = true →
 StepT Tryd.prog (Instr.buildSlice 86 3 #[(0, (.int .i64 0)), (1, (.int .i64 n_3)), (2, (.int .i64 n_3))]) w7 fun r67 w68 =>
 ∃ x69 : Sl, r67 = x69.val ∧
 ∃ n70 : Int, Wr .i64 (n_4 - 1) n70 ∧
 Trip Tryd.prog 126 #[.pointer (some (a_0.add 0)), .agg #[x1_0.val, x1_1.val], x_2.val, x69.val, .int .i64 n70] w68 fun r71 w72 =>
 ∃ x73 : Sl, r71 = x73.val ∧
 Trip Tryd.prog 55 #[.int .i64 7, .int .i64 0, x73.val] w72 fun r74 w75 =>
 ∃ n76 : Int, ∃ n77 : Int, ∃ x78 : Sl, r74 = .agg #[.int .i64 n76, .int .i64 n77, x78.val] ∧
 Q (.agg #[.int .i64 n76, .int .i64 n77, x78.val]) w75) ∧
 ((decide (n8 = 3)) = false →
 ((decide (n8 = 4)) = true →
 ((decide (n8 = 4)) = true →
 Trip Tryd.prog 127 #[.pointer (some (a_0.add 0)), .agg #[x1_0.val, x1_1.val], x_2.val, .int .i64 n_3, .int .i64 n_4] w7 fun r79 w80 =>
 ∃ n81 : Int, ∃ n82 : Int, ∃ x83 : Sl, r79 = .agg #[.int .i64 n81, .int .i64 n82, x83.val] ∧
 Q (.agg #[.int .i64 n81, .int .i64 n82, x83.val]) w80) ∧
 ((decide (n8 = 4)) = false →
 ((decide (n8 = 7)) = true →
 ((decide (n8 = 7)) = true →
 Trip Tryd.prog 128 #[.agg #[x1_0.val, x1_1.val], .int .i64 n_3] w7 fun r84 w85 =>
 ∃ x86 : Sl, r84 = x86.val ∧
 ((decide ((x86.n : Int) > 0)) = true →
 Trip Tryd.prog 53 #[.pointer (some (a_0.add 0)), .int .i64 (x86.n : Int)] w85 fun r87 w88 =>
 ∃ n89 : Int, r87 = .int .i64 n89 ∧
 IxOk x86 n89 ∧
 ∃ n90 : Int, w88.cell? ((elA x86 n89 1).add 0) = some (.int .i64 n90) ∧
 IxOk x1_1 n90 ∧
 ∃ x91 : Sl, w88.cell? ((elA x1_1 n90 5).add 0) = some (x91.val) ∧
 ∃ n92 : Int, Wr .i64 (n_4 - 1) n92 ∧
 Trip Tryd.prog 126 #[.pointer (some (a_0.add 0)), .agg #[x1_0.val, x1_1.val], x_2.val, x91.val, .int .i64 n92] w88 fun r93 w94 =>
 ∃ x95 : Sl, r93 = x95.val ∧
 Trip Tryd.prog 55 #[.int .i64 9, .int .i64 n90, x95.val] w94 fun r96 w97 =>
 ∃ n98 : Int, ∃ n99 : Int, ∃ x100 : Sl, r96 = .agg #[.int .i64 n98, .int .i64 n99, x100.val] ∧
 Q (.agg #[.int .i64 n98, .int .i64 n99, x100.val]) w97) ∧
 ((decide ((x86.n : Int) > 0)) = false →
 Trip Tryd.prog 129 #[.pointer (some (a_0.add 0)), .agg #[x1_0.val, x1_1.val], x_2.val, .int .i64 n_3, .int .i64 n_4] w85 fun r101 w102 =>
 ∃ n103 : Int, ∃ n104 : Int, ∃ x105 : Sl, r101 = .agg #[.int .i64 n103, .int .i64 n104, x105.val] ∧
 Q (.agg #[.int .i64 n103, .int .i64 n104, x105.val]) w102)) ∧
 ((decide (n8 = 7)) = false →
 Trip Tryd.prog 129 #[.pointer (some (a_0.add 0)), .agg #[x1_0.val, x1_1.val], x_2.val, .int .i64 n_3, .int .i64 n_4] w7 fun r106 w107 =>
 ∃ n108 : Int, ∃ n109 : Int, ∃ x110 : Sl, r106 = .agg #[.int .i64 n108, .int .i64 n109, x110.val] ∧
 Q (.agg #[.int .i64 n108, .int .i64 n109, x110.val]) w107)) ∧
 ((decide (n8 = 7)) = false →
 ((decide (n8 = 8)) = true →
 Trip Tryd.prog 128 #[.agg #[x1_0.val, x1_1.val], .int .i64 n_3] w7 fun r111 w112 =>
 ∃ x113 : Sl, r111 = x113.val ∧
 ((decide ((x113.n : Int) > 0)) = true →
 Trip Tryd.prog 53 #[.pointer (some (a_0.add 0)), .int .i64 (x113.n : Int)] w112 fun r114 w115 =>
 ∃ n116 : Int, r114 = .int .i64 n116 ∧
 IxOk x113 n116 ∧
 ∃ n117 : Int, w115.cell? ((elA x113 n116 1).add 0) = some (.int .i64 n117) ∧
 IxOk x1_1 n117 ∧
 ∃ x118 : Sl, w115.cell? ((elA x1_1 n117 5).add 0) = some (x118.val) ∧
 ∃ n119 : Int, Wr .i64 (n_4 - 1) n119 ∧
 Trip Tryd.prog 126 #[.pointer (some (a_0.add 0)), .agg #[x1_0.val, x1_1.val], x_2.val, x118.val, .int .i64 n119] w115 fun r120 w121 =>
 ∃ x122 : Sl, r120 = x122.val ∧
 Trip Tryd.prog 55 #[.int .i64 9, .int .i64 n117, x122.val] w121 fun r123 w124 =>
 ∃ n125 : Int, ∃ n126 : Int, ∃ x127 : Sl, r123 = .agg #[.int .i64 n125, .int .i64 n126, x127.val] ∧
 Q (.agg #[.int .i64 n125, .int .i64 n126, x127.val]) w124) ∧
 ((decide ((x113.n : Int) > 0)) = false →
 Trip Tryd.prog 129 #[.pointer (some (a_0.add 0)), .agg #[x1_0.val, x1_1.val], x_2.val, .int .i64 n_3, .int .i64 n_4] w112 fun r128 w129 =>
 ∃ n130 : Int, ∃ n131 : Int, ∃ x132 : Sl, r128 = .agg #[.int .i64 n130, .int .i64 n131, x132.val] ∧
 Q (.agg #[.int .i64 n130, .int .i64 n131, x132.val]) w129)) ∧
 ((decide (n8 = 8)) = false →
 Trip Tryd.prog 129 #[.pointer (some (a_0.add 0)), .agg #[x1_0.val, x1_1.val], x_2.val, .int .i64 n_3, .int .i64 n_4] w7 fun r133 w134 =>
 ∃ n135 : Int, ∃ n136 : Int, ∃ x137 : Sl, r133 = .agg #[.int .i64 n135, .int .i64 n136, x137.val] ∧
 Q (.agg #[.int .i64 n135, .int .i64 n136, x137.val]) w134)))) ∧
 ((decide (n8 = 4)) = false →
 ((decide (n8 = 5)) = true →
 ((decide (n8 = 5)) = true →
 Trip Tryd.prog 127 #[.pointer (some (a_0.add 0)), .agg #[x1_0.val, x1_1.val], x_2.val, .int .i64 n_3, .int .i64 n_4] w7 fun r138 w139 =>
 ∃ n140 : Int, ∃ n141 : Int, ∃ x142 : Sl, r138 = .agg #[.int .i64 n140, .int .i64 n141, x142.val] ∧
 Q (.agg #[.int .i64 n140, .int .i64 n141, x142.val]) w139) ∧
 ((decide (n8 = 5)) = false →
 ((decide (n8 = 7)) = true →
 ((decide (n8 = 7)) = true →
 Trip Tryd.prog 128 #[.agg #[x1_0.val, x1_1.val], .int .i64 n_3] w7 fun r143 w144 =>
 ∃ x145 : Sl, r143 = x145.val ∧
 ((decide ((x145.n : Int) > 0)) = true →
 Trip Tryd.prog 53 #[.pointer (some (a_0.add 0)), .int .i64 (x145.n : Int)] w144 fun r146 w147 =>
 ∃ n148 : Int, r146 = .int .i64 n148 ∧
 IxOk x145 n148 ∧
 ∃ n149 : Int, w147.cell? ((elA x145 n148 1).add 0) = some (.int .i64 n149) ∧
 IxOk x1_1 n149 ∧
 ∃ x150 : Sl, w147.cell? ((elA x1_1 n149 5).add 0) = some (x150.val) ∧
 ∃ n151 : Int, Wr .i64 (n_4 - 1) n151 ∧
 Trip Tryd.prog 126 #[.pointer (some (a_0.add 0)), .agg #[x1_0.val, x1_1.val], x_2.val, x150.val, .int .i64 n151] w147 fun r152 w153 =>
 ∃ x154 : Sl, r152 = x154.val ∧
 Trip Tryd.prog 55 #[.int .i64 9, .int .i64 n149, x154.val] w153 fun r155 w156 =>
 ∃ n157 : Int, ∃ n158 : Int, ∃ x159 : Sl, r155 = .agg #[.int .i64 n157, .int .i64 n158, x159.val] ∧
 Q (.agg #[.int .i64 n157, .int .i64 n158, x159.val]) w156) ∧
 ((decide ((x145.n : Int) > 0)) = false →
 Trip Tryd.prog 129 #[.pointer (some (a_0.add 0)), .agg #[x1_0.val, x1_1.val], x_2.val, .int .i64 n_3, .int .i64 n_4] w144 fun r160 w161 =>
 ∃ n162 : Int, ∃ n163 : Int, ∃ x164 : Sl, r160 = .agg #[.int .i64 n162, .int .i64 n163, x164.val] ∧
 Q (.agg #[.int .i64 n162, .int .i64 n163, x164.val]) w161)) ∧
 ((decide (n8 = 7)) = false →
 Trip Tryd.prog 129 #[.pointer (some (a_0.add 0)), .agg #[x1_0.val, x1_1.val], x_2.val, .int .i64 n_3, .int .i64 n_4] w7 fun r165 w166 =>
 ∃ n167 : Int, ∃ n168 : Int, ∃ x169 : Sl, r165 = .agg #[.int .i64 n167, .int .i64 n168, x169.val] ∧
 Q (.agg #[.int .i64 n167, .int .i64 n168, x169.val]) w166)) ∧
 ((decide (n8 = 7)) = false →
 ((decide (n8 = 8)) = true →
 Trip Tryd.prog 128 #[.agg #[x1_0.val, x1_1.val], .int .i64 n_3] w7 fun r170 w171 =>
 ∃ x172 : Sl, r170 = x172.val ∧
 ((decide ((x172.n : Int) > 0)) = true →
 Trip Tryd.prog 53 #[.pointer (some (a_0.add 0)), .int .i64 (x172.n : Int)] w171 fun r173 w174 =>
 ∃ n175 : Int, r173 = .int .i64 n175 ∧
 IxOk x172 n175 ∧
 ∃ n176 : Int, w174.cell? ((elA x172 n175 1).add 0) = some (.int .i64 n176) ∧
 IxOk x1_1 n176 ∧
 ∃ x177 : Sl, w174.cell? ((elA x1_1 n176 5).add 0) = some (x177.val) ∧
 ∃ n178 : Int, Wr .i64 (n_4 - 1) n178 ∧
 Trip Tryd.prog 126 #[.pointer (some (a_0.add 0)), .agg #[x1_0.val, x1_1.val], x_2.val, x177.val, .int .i64 n178] w174 fun r179 w180 =>
 ∃ x181 : Sl, r179 = x181.val ∧
 Trip Tryd.prog 55 #[.int .i64 9, .int .i64 n176, x181.val] w180 fun r182 w183 =>
 ∃ n184 : Int, ∃ n185 : Int, ∃ x186 : Sl, r182 = .agg #[.int .i64 n184, .int .i64 n185, x186.val] ∧
 Q (.agg #[.int .i64 n184, .int .i64 n185, x186.val]) w183) ∧
 ((decide ((x172.n : Int) > 0)) = false →
 Trip Tryd.prog 129 #[.pointer (some (a_0.add 0)), .agg #[x1_0.val, x1_1.val], x_2.val, .int .i64 n_3, .int .i64 n_4] w171 fun r187 w188 =>
 ∃ n189 : Int, ∃ n190 : Int, ∃ x191 : Sl, r187 = .agg #[.int .i64 n189, .int .i64 n190, x191.val] ∧
 Q (.agg #[.int .i64 n189, .int .i64 n190, x191.val]) w188)) ∧
 ((decide (n8 = 8)) = false →
 Trip Tryd.prog 129 #[.pointer (some (a_0.add 0)), .agg #[x1_0.val, x1_1.val], x_2.val, .int .i64 n_3, .int .i64 n_4] w7 fun r192 w193 =>
 ∃ n194 : Int, ∃ n195 : Int, ∃ x196 : Sl, r192 = .agg #[.int .i64 n194, .int .i64 n195, x196.val] ∧
 Q (.agg #[.int .i64 n194, .int .i64 n195, x196.val]) w193)))) ∧
 ((decide (n8 = 5)) = false →
 ((decide (n8 = 6)) = true →
 Trip Tryd.prog 127 #[.pointer (some (a_0.add 0)), .agg #[x1_0.val, x1_1.val], x_2.val, .int .i64 n_3, .int .i64 n_4] w7 fun r197 w198 =>
 ∃ n199 : Int, ∃ n200 : Int, ∃ x201 : Sl, r197 = .agg #[.int .i64 n199, .int .i64 n200, x201.val] ∧
 Q (.agg #[.int .i64 n199, .int .i64 n200, x201.val]) w198) ∧
 ((decide (n8 = 6)) = false →
 ((decide (n8 = 7)) = true →
 ((decide (n8 = 7)) = true →
 Trip Tryd.prog 128 #[.agg #[x1_0.val, x1_1.val], .int .i64 n_3] w7 fun r202 w203 =>
 ∃ x204 : Sl, r202 = x204.val ∧
 ((decide ((x204.n : Int) > 0)) = true →
 Trip Tryd.prog 53 #[.pointer (some (a_0.add 0)), .int .i64 (x204.n : Int)] w203 fun r205 w206 =>
 ∃ n207 : Int, r205 = .int .i64 n207 ∧
 IxOk x204 n207 ∧
 ∃ n208 : Int, w206.cell? ((elA x204 n207 1).add 0) = some (.int .i64 n208) ∧
 IxOk x1_1 n208 ∧
 ∃ x209 : Sl, w206.cell? ((elA x1_1 n208 5).add 0) = some (x209.val) ∧
 ∃ n210 : Int, Wr .i64 (n_4 - 1) n210 ∧
 Trip Tryd.prog 126 #[.pointer (some (a_0.add 0)), .agg #[x1_0.val, x1_1.val], x_2.val, x209.val, .int .i64 n210] w206 fun r211 w212 =>
 ∃ x213 : Sl, r211 = x213.val ∧
 Trip Tryd.prog 55 #[.int .i64 9, .int .i64 n208, x213.val] w212 fun r214 w215 =>
 ∃ n216 : Int, ∃ n217 : Int, ∃ x218 : Sl, r214 = .agg #[.int .i64 n216, .int .i64 n217, x218.val] ∧
 Q (.agg #[.int .i64 n216, .int .i64 n217, x218.val]) w215) ∧
 ((decide ((x204.n : Int) > 0)) = false →
 Trip Tryd.prog 129 #[.pointer (some (a_0.add 0)), .agg #[x1_0.val, x1_1.val], x_2.val, .int .i64 n_3, .int .i64 n_4] w203 fun r219 w220 =>
 ∃ n221 : Int, ∃ n222 : Int, ∃ x223 : Sl, r219 = .agg #[.int .i64 n221, .int .i64 n222, x223.val] ∧
 Q (.agg #[.int .i64 n221, .int .i64 n222, x223.val]) w220)) ∧
 ((decide (n8 = 7)) = false →
 Trip Tryd.prog 129 #[.pointer (some (a_0.add 0)), .agg #[x1_0.val, x1_1.val], x_2.val, .int .i64 n_3, .int .i64 n_4] w7 fun r224 w225 =>
 ∃ n226 : Int, ∃ n227 : Int, ∃ x228 : Sl, r224 = .agg #[.int .i64 n226, .int .i64 n227, x228.val] ∧
 Q (.agg #[.int .i64 n226, .int .i64 n227, x228.val]) w225)) ∧
 ((decide (n8 = 7)) = false →
 ((decide (n8 = 8)) = true →
 Trip Tryd.prog 128 #[.agg #[x1_0.val, x1_1.val], .int .i64 n_3] w7 fun r229 w230 =>
 ∃ x231 : Sl, r229 = x231.val ∧
 ((decide ((x231.n : Int) > 0)) = true →
 Trip Tryd.prog 53 #[.pointer (some (a_0.add 0)), .int .i64 (x231.n : Int)] w230 fun r232 w233 =>
 ∃ n234 : Int, r232 = .int .i64 n234 ∧
 IxOk x231 n234 ∧
 ∃ n235 : Int, w233.cell? ((elA x231 n234 1).add 0) = some (.int .i64 n235) ∧
 IxOk x1_1 n235 ∧
 ∃ x236 : Sl, w233.cell? ((elA x1_1 n235 5).add 0) = some (x236.val) ∧
 ∃ n237 : Int, Wr .i64 (n_4 - 1) n237 ∧
 Trip Tryd.prog 126 #[.pointer (some (a_0.add 0)), .agg #[x1_0.val, x1_1.val], x_2.val, x236.val, .int .i64 n237] w233 fun r238 w239 =>
 ∃ x240 : Sl, r238 = x240.val ∧
 Trip Tryd.prog 55 #[.int .i64 9, .int .i64 n235, x240.val] w239 fun r241 w242 =>
 ∃ n243 : Int, ∃ n244 : Int, ∃ x245 : Sl, r241 = .agg #[.int .i64 n243, .int .i64 n244, x245.val] ∧
 Q (.agg #[.int .i64 n243, .int .i64 n244, x245.val]) w242) ∧
 ((decide ((x231.n : Int) > 0)) = false →
 Trip Tryd.prog 129 #[.pointer (some (a_0.add 0)), .agg #[x1_0.val, x1_1.val], x_2.val, .int .i64 n_3, .int .i64 n_4] w230 fun r246 w247 =>
 ∃ n248 : Int, ∃ n249 : Int, ∃ x250 : Sl, r246 = .agg #[.int .i64 n248, .int .i64 n249, x250.val] ∧
 Q (.agg #[.int .i64 n248, .int .i64 n249, x250.val]) w247)) ∧
 ((decide (n8 = 8)) = false →
 Trip Tryd.prog 129 #[.pointer (some (a_0.add 0)), .agg #[x1_0.val, x1_1.val], x_2.val, .int .i64 n_3, .int .i64 n_4] w7 fun r251 w252 =>
 ∃ n253 : Int, ∃ n254 : Int, ∃ x255 : Sl, r251 = .agg #[.int .i64 n253, .int .i64 n254, x255.val] ∧
 Q (.agg #[.int .i64 n253, .int .i64 n254, x255.val]) w252)))))))) ∧
 ((decide (n8 = 1)) = false →
 ((decide (n8 = 2)) = true →
 Trip Tryd.prog 125 #[.pointer (some (a_0.add 0)), .agg #[x1_0.val, x1_1.val], x_2.val] w7 fun r256 w257 =>
 ∃ n258 : Int, r256 = .int .i64 n258 ∧
 ∃ n259 : Int, ((2 : Int) ≠ 0 ∧ Wr .i64 (Int.tdiv n_4 2) n259) ∧
 ∃ n260 : Int, ((2 : Int) ≠ 0 ∧ Wr .i64 (Int.tdiv n_4 2) n260) ∧
 (Trip Tryd.prog 117 #[.pointer (some (a_0.add 0)), .agg #[x1_0.val, x1_1.val], x_2.val, .int .i64 n258, .int .i64 n259] w257 fun r261 w262 =>
 ∃ n263 : Int, ∃ n264 : Int, ∃ x265 : Sl, r261 = .agg #[.int .i64 n263, .int .i64 n264, x265.val] ∧
 StepT Tryd.prog (Instr.buildSlice 86 1 #[(0, (.int .i64 n258))]) w262 fun r266 w267 =>
 ∃ x268 : Sl, r266 = x268.val ∧
 Sub w262 w267 ∧
 Trip Tryd.prog 119 #[x_2.val, x268.val] w267 fun r269 w270 =>
 ∃ x271 : Sl, r269 = x271.val ∧
 Trip Tryd.prog 117 #[.pointer (some (a_0.add 0)), .agg #[x1_0.val, x1_1.val], x271.val, .int .i64 n_3, .int .i64 n260] w270 fun r272 w273 =>
 ∃ n274 : Int, ∃ n275 : Int, ∃ x276 : Sl, r272 = .agg #[.int .i64 n274, .int .i64 n275, x276.val] ∧
 StepT Tryd.prog (Instr.buildSlice 27 2 #[(0, (.agg #[.int .i64 n263, .int .i64 n264, x265.val])), (1, (.agg #[.int .i64 n274, .int .i64 n275, x276.val]))]) w273 fun r277 w278 =>
 ∃ x279 : Sl, r277 = x279.val ∧
 Trip Tryd.prog 55 #[.int .i64 13, .int .i64 0, x279.val] w278 fun r280 w281 =>
 ∃ n282 : Int, ∃ n283 : Int, ∃ x284 : Sl, r280 = .agg #[.int .i64 n282, .int .i64 n283, x284.val] ∧
 Q (.agg #[.int .i64 n282, .int .i64 n283, x284.val]) w281) ∧
 StepT Tryd.prog (Instr.buildSlice 86 1 #[(0, (.int .i64 n258))]) w257 fun r285 w286 =>
 ∃ x287 : Sl, r285 = x287.val ∧
 Sub w257 w286 ∧
 Trip Tryd.prog 117 #[.pointer (some (a_0.add 0)), .agg #[x1_0.val, x1_1.val], x_2.val, .int .i64 n258, .int .i64 n259] w286 fun r288 w289 =>
 ∃ n290 : Int, ∃ n291 : Int, ∃ x292 : Sl, r288 = .agg #[.int .i64 n290, .int .i64 n291, x292.val] ∧
 Trip Tryd.prog 119 #[x_2.val, x287.val] w289 fun r293 w294 =>
 ∃ x295 : Sl, r293 = x295.val ∧
 Trip Tryd.prog 117 #[.pointer (some (a_0.add 0)), .agg #[x1_0.val, x1_1.val], x295.val, .int .i64 n_3, .int .i64 n260] w294 fun r296 w297 =>
 ∃ n298 : Int, ∃ n299 : Int, ∃ x300 : Sl, r296 = .agg #[.int .i64 n298, .int .i64 n299, x300.val] ∧
 StepT Tryd.prog (Instr.buildSlice 27 2 #[(0, (.agg #[.int .i64 n290, .int .i64 n291, x292.val])), (1, (.agg #[.int .i64 n298, .int .i64 n299, x300.val]))]) w297 fun r301 w302 =>
 ∃ x303 : Sl, r301 = x303.val ∧
 Trip Tryd.prog 55 #[.int .i64 13, .int .i64 0, x303.val] w302 fun r304 w305 =>
 ∃ n306 : Int, ∃ n307 : Int, ∃ x308 : Sl, r304 = .agg #[.int .i64 n306, .int .i64 n307, x308.val] ∧
 Q (.agg #[.int .i64 n306, .int .i64 n307, x308.val]) w305) ∧
 ((decide (n8 = 2)) = false →
 ((decide (n8 = 3)) = true →
 StepT Tryd.prog (Instr.buildSlice 86 3 #[(0, (.int .i64 0)), (1, (.int .i64 n_3)), (2, (.int .i64 n_3))]) w7 fun r309 w310 =>
 ∃ x311 : Sl, r309 = x311.val ∧
 ∃ n312 : Int, Wr .i64 (n_4 - 1) n312 ∧
 Trip Tryd.prog 126 #[.pointer (some (a_0.add 0)), .agg #[x1_0.val, x1_1.val], x_2.val, x311.val, .int .i64 n312] w310 fun r313 w314 =>
 ∃ x315 : Sl, r313 = x315.val ∧
 Trip Tryd.prog 55 #[.int .i64 7, .int .i64 0, x315.val] w314 fun r316 w317 =>
 ∃ n318 : Int, ∃ n319 : Int, ∃ x320 : Sl, r316 = .agg #[.int .i64 n318, .int .i64 n319, x320.val] ∧
 Q (.agg #[.int .i64 n318, .int .i64 n319, x320.val]) w317) ∧
 ((decide (n8 = 3)) = false →
 ((decide (n8 = 4)) = true →
 ((decide (n8 = 4)) = true →
 Trip Tryd.prog 127 #[.pointer (some (a_0.add 0)), .agg #[x1_0.val, x1_1.val], x_2.val, .int .i64 n_3, .int .i64 n_4] w7 fun r321 w322 =>
 ∃ n323 : Int, ∃ n324 : Int, ∃ x325 : Sl, r321 = .agg #[.int .i64 n323, .int .i64 n324, x325.val] ∧
 Q (.agg #[.int .i64 n323, .int .i64 n324, x325.val]) w322) ∧
 ((decide (n8 = 4)) = false →
 ((decide (n8 = 7)) = true →
 ((decide (n8 = 7)) = true →
 Trip Tryd.prog 128 #[.agg #[x1_0.val, x1_1.val], .int .i64 n_3] w7 fun r326 w327 =>
 ∃ x328 : Sl, r326 = x328.val ∧
 ((decide ((x328.n : Int) > 0)) = true →
 Trip Tryd.prog 53 #[.pointer (some (a_0.add 0)), .int .i64 (x328.n : Int)] w327 fun r329 w330 =>
 ∃ n331 : Int, r329 = .int .i64 n331 ∧
 IxOk x328 n331 ∧
 ∃ n332 : Int, w330.cell? ((elA x328 n331 1).add 0) = some (.int .i64 n332) ∧
 IxOk x1_1 n332 ∧
 ∃ x333 : Sl, w330.cell? ((elA x1_1 n332 5).add 0) = some (x333.val) ∧
 ∃ n334 : Int, Wr .i64 (n_4 - 1) n334 ∧
 Trip Tryd.prog 126 #[.pointer (some (a_0.add 0)), .agg #[x1_0.val, x1_1.val], x_2.val, x333.val, .int .i64 n334] w330 fun r335 w336 =>
 ∃ x337 : Sl, r335 = x337.val ∧
 Trip Tryd.prog 55 #[.int .i64 9, .int .i64 n332, x337.val] w336 fun r338 w339 =>
 ∃ n340 : Int, ∃ n341 : Int, ∃ x342 : Sl, r338 = .agg #[.int .i64 n340, .int .i64 n341, x342.val] ∧
 Q (.agg #[.int .i64 n340, .int .i64 n341, x342.val]) w339) ∧
 ((decide ((x328.n : Int) > 0)) = false →
 Trip Tryd.prog 129 #[.pointer (some (a_0.add 0)), .agg #[x1_0.val, x1_1.val], x_2.val, .int .i64 n_3, .int .i64 n_4] w327 fun r343 w344 =>
 ∃ n345 : Int, ∃ n346 : Int, ∃ x347 : Sl, r343 = .agg #[.int .i64 n345, .int .i64 n346, x347.val] ∧
 Q (.agg #[.int .i64 n345, .int .i64 n346, x347.val]) w344)) ∧
 ((decide (n8 = 7)) = false →
 Trip Tryd.prog 129 #[.pointer (some (a_0.add 0)), .agg #[x1_0.val, x1_1.val], x_2.val, .int .i64 n_3, .int .i64 n_4] w7 fun r348 w349 =>
 ∃ n350 : Int, ∃ n351 : Int, ∃ x352 : Sl, r348 = .agg #[.int .i64 n350, .int .i64 n351, x352.val] ∧
 Q (.agg #[.int .i64 n350, .int .i64 n351, x352.val]) w349)) ∧
 ((decide (n8 = 7)) = false →
 ((decide (n8 = 8)) = true →
 Trip Tryd.prog 128 #[.agg #[x1_0.val, x1_1.val], .int .i64 n_3] w7 fun r353 w354 =>
 ∃ x355 : Sl, r353 = x355.val ∧
 ((decide ((x355.n : Int) > 0)) = true →
 Trip Tryd.prog 53 #[.pointer (some (a_0.add 0)), .int .i64 (x355.n : Int)] w354 fun r356 w357 =>
 ∃ n358 : Int, r356 = .int .i64 n358 ∧
 IxOk x355 n358 ∧
 ∃ n359 : Int, w357.cell? ((elA x355 n358 1).add 0) = some (.int .i64 n359) ∧
 IxOk x1_1 n359 ∧
 ∃ x360 : Sl, w357.cell? ((elA x1_1 n359 5).add 0) = some (x360.val) ∧
 ∃ n361 : Int, Wr .i64 (n_4 - 1) n361 ∧
 Trip Tryd.prog 126 #[.pointer (some (a_0.add 0)), .agg #[x1_0.val, x1_1.val], x_2.val, x360.val, .int .i64 n361] w357 fun r362 w363 =>
 ∃ x364 : Sl, r362 = x364.val ∧
 Trip Tryd.prog 55 #[.int .i64 9, .int .i64 n359, x364.val] w363 fun r365 w366 =>
 ∃ n367 : Int, ∃ n368 : Int, ∃ x369 : Sl, r365 = .agg #[.int .i64 n367, .int .i64 n368, x369.val] ∧
 Q (.agg #[.int .i64 n367, .int .i64 n368, x369.val]) w366) ∧
 ((decide ((x355.n : Int) > 0)) = false →
 Trip Tryd.prog 129 #[.pointer (some (a_0.add 0)), .agg #[x1_0.val, x1_1.val], x_2.val, .int .i64 n_3, .int .i64 n_4] w354 fun r370 w371 =>
 ∃ n372 : Int, ∃ n373 : Int, ∃ x374 : Sl, r370 = .agg #[.int .i64 n372, .int .i64 n373, x374.val] ∧
 Q (.agg #[.int .i64 n372, .int .i64 n373, x374.val]) w371)) ∧
 ((decide (n8 = 8)) = false →
 Trip Tryd.prog 129 #[.pointer (some (a_0.add 0)), .agg #[x1_0.val, x1_1.val], x_2.val, .int .i64 n_3, .int .i64 n_4] w7 fun r375 w376 =>
 ∃ n377 : Int, ∃ n378 : Int, ∃ x379 : Sl, r375 = .agg #[.int .i64 n377, .int .i64 n378, x379.val] ∧
 Q (.agg #[.int .i64 n377, .int .i64 n378, x379.val]) w376)))) ∧
 ((decide (n8 = 4)) = false →
 ((decide (n8 = 5)) = true →
 ((decide (n8 = 5)) = true →
 Trip Tryd.prog 127 #[.pointer (some (a_0.add 0)), .agg #[x1_0.val, x1_1.val], x_2.val, .int .i64 n_3, .int .i64 n_4] w7 fun r380 w381 =>
 ∃ n382 : Int, ∃ n383 : Int, ∃ x384 : Sl, r380 = .agg #[.int .i64 n382, .int .i64 n383, x384.val] ∧
 Q (.agg #[.int .i64 n382, .int .i64 n383, x384.val]) w381) ∧
 ((decide (n8 = 5)) = false →
 ((decide (n8 = 7)) = true →
 ((decide (n8 = 7)) = true →
 Trip Tryd.prog 128 #[.agg #[x1_0.val, x1_1.val], .int .i64 n_3] w7 fun r385 w386 =>
 ∃ x387 : Sl, r385 = x387.val ∧
 ((decide ((x387.n : Int) > 0)) = true →
 Trip Tryd.prog 53 #[.pointer (some (a_0.add 0)), .int .i64 (x387.n : Int)] w386 fun r388 w389 =>
 ∃ n390 : Int, r388 = .int .i64 n390 ∧
 IxOk x387 n390 ∧
 ∃ n391 : Int, w389.cell? ((elA x387 n390 1).add 0) = some (.int .i64 n391) ∧
 IxOk x1_1 n391 ∧
 ∃ x392 : Sl, w389.cell? ((elA x1_1 n391 5).add 0) = some (x392.val) ∧
 ∃ n393 : Int, Wr .i64 (n_4 - 1) n393 ∧
 Trip Tryd.prog 126 #[.pointer (some (a_0.add 0)), .agg #[x1_0.val, x1_1.val], x_2.val, x392.val, .int .i64 n393] w389 fun r394 w395 =>
 ∃ x396 : Sl, r394 = x396.val ∧
 Trip Tryd.prog 55 #[.int .i64 9, .int .i64 n391, x396.val] w395 fun r397 w398 =>
 ∃ n399 : Int, ∃ n400 : Int, ∃ x401 : Sl, r397 = .agg #[.int .i64 n399, .int .i64 n400, x401.val] ∧
 Q (.agg #[.int .i64 n399, .int .i64 n400, x401.val]) w398) ∧
 ((decide ((x387.n : Int) > 0)) = false →
 Trip Tryd.prog 129 #[.pointer (some (a_0.add 0)), .agg #[x1_0.val, x1_1.val], x_2.val, .int .i64 n_3, .int .i64 n_4] w386 fun r402 w403 =>
 ∃ n404 : Int, ∃ n405 : Int, ∃ x406 : Sl, r402 = .agg #[.int .i64 n404, .int .i64 n405, x406.val] ∧
 Q (.agg #[.int .i64 n404, .int .i64 n405, x406.val]) w403)) ∧
 ((decide (n8 = 7)) = false →
 Trip Tryd.prog 129 #[.pointer (some (a_0.add 0)), .agg #[x1_0.val, x1_1.val], x_2.val, .int .i64 n_3, .int .i64 n_4] w7 fun r407 w408 =>
 ∃ n409 : Int, ∃ n410 : Int, ∃ x411 : Sl, r407 = .agg #[.int .i64 n409, .int .i64 n410, x411.val] ∧
 Q (.agg #[.int .i64 n409, .int .i64 n410, x411.val]) w408)) ∧
 ((decide (n8 = 7)) = false →
 ((decide (n8 = 8)) = true →
 Trip Tryd.prog 128 #[.agg #[x1_0.val, x1_1.val], .int .i64 n_3] w7 fun r412 w413 =>
 ∃ x414 : Sl, r412 = x414.val ∧
 ((decide ((x414.n : Int) > 0)) = true →
 Trip Tryd.prog 53 #[.pointer (some (a_0.add 0)), .int .i64 (x414.n : Int)] w413 fun r415 w416 =>
 ∃ n417 : Int, r415 = .int .i64 n417 ∧
 IxOk x414 n417 ∧
 ∃ n418 : Int, w416.cell? ((elA x414 n417 1).add 0) = some (.int .i64 n418) ∧
 IxOk x1_1 n418 ∧
 ∃ x419 : Sl, w416.cell? ((elA x1_1 n418 5).add 0) = some (x419.val) ∧
 ∃ n420 : Int, Wr .i64 (n_4 - 1) n420 ∧
 Trip Tryd.prog 126 #[.pointer (some (a_0.add 0)), .agg #[x1_0.val, x1_1.val], x_2.val, x419.val, .int .i64 n420] w416 fun r421 w422 =>
 ∃ x423 : Sl, r421 = x423.val ∧
 Trip Tryd.prog 55 #[.int .i64 9, .int .i64 n418, x423.val] w422 fun r424 w425 =>
 ∃ n426 : Int, ∃ n427 : Int, ∃ x428 : Sl, r424 = .agg #[.int .i64 n426, .int .i64 n427, x428.val] ∧
 Q (.agg #[.int .i64 n426, .int .i64 n427, x428.val]) w425) ∧
 ((decide ((x414.n : Int) > 0)) = false →
 Trip Tryd.prog 129 #[.pointer (some (a_0.add 0)), .agg #[x1_0.val, x1_1.val], x_2.val, .int .i64 n_3, .int .i64 n_4] w413 fun r429 w430 =>
 ∃ n431 : Int, ∃ n432 : Int, ∃ x433 : Sl, r429 = .agg #[.int .i64 n431, .int .i64 n432, x433.val] ∧
 Q (.agg #[.int .i64 n431, .int .i64 n432, x433.val]) w430)) ∧
 ((decide (n8 = 8)) = false →
 Trip Tryd.prog 129 #[.pointer (some (a_0.add 0)), .agg #[x1_0.val, x1_1.val], x_2.val, .int .i64 n_3, .int .i64 n_4] w7 fun r434 w435 =>
 ∃ n436 : Int, ∃ n437 : Int, ∃ x438 : Sl, r434 = .agg #[.int .i64 n436, .int .i64 n437, x438.val] ∧
 Q (.agg #[.int .i64 n436, .int .i64 n437, x438.val]) w435)))) ∧
 ((decide (n8 = 5)) = false →
 ((decide (n8 = 6)) = true →
 Trip Tryd.prog 127 #[.pointer (some (a_0.add 0)), .agg #[x1_0.val, x1_1.val], x_2.val, .int .i64 n_3, .int .i64 n_4] w7 fun r439 w440 =>
 ∃ n441 : Int, ∃ n442 : Int, ∃ x443 : Sl, r439 = .agg #[.int .i64 n441, .int .i64 n442, x443.val] ∧
 Q (.agg #[.int .i64 n441, .int .i64 n442, x443.val]) w440) ∧
 ((decide (n8 = 6)) = false →
 ((decide (n8 = 7)) = true →
 ((decide (n8 = 7)) = true →
 Trip Tryd.prog 128 #[.agg #[x1_0.val, x1_1.val], .int .i64 n_3] w7 fun r444 w445 =>
 ∃ x446 : Sl, r444 = x446.val ∧
 ((decide ((x446.n : Int) > 0)) = true →
 Trip Tryd.prog 53 #[.pointer (some (a_0.add 0)), .int .i64 (x446.n : Int)] w445 fun r447 w448 =>
 ∃ n449 : Int, r447 = .int .i64 n449 ∧
 IxOk x446 n449 ∧
 ∃ n450 : Int, w448.cell? ((elA x446 n449 1).add 0) = some (.int .i64 n450) ∧
 IxOk x1_1 n450 ∧
 ∃ x451 : Sl, w448.cell? ((elA x1_1 n450 5).add 0) = some (x451.val) ∧
 ∃ n452 : Int, Wr .i64 (n_4 - 1) n452 ∧
 Trip Tryd.prog 126 #[.pointer (some (a_0.add 0)), .agg #[x1_0.val, x1_1.val], x_2.val, x451.val, .int .i64 n452] w448 fun r453 w454 =>
 ∃ x455 : Sl, r453 = x455.val ∧
 Trip Tryd.prog 55 #[.int .i64 9, .int .i64 n450, x455.val] w454 fun r456 w457 =>
 ∃ n458 : Int, ∃ n459 : Int, ∃ x460 : Sl, r456 = .agg #[.int .i64 n458, .int .i64 n459, x460.val] ∧
 Q (.agg #[.int .i64 n458, .int .i64 n459, x460.val]) w457) ∧
 ((decide ((x446.n : Int) > 0)) = false →
 Trip Tryd.prog 129 #[.pointer (some (a_0.add 0)), .agg #[x1_0.val, x1_1.val], x_2.val, .int .i64 n_3, .int .i64 n_4] w445 fun r461 w462 =>
 ∃ n463 : Int, ∃ n464 : Int, ∃ x465 : Sl, r461 = .agg #[.int .i64 n463, .int .i64 n464, x465.val] ∧
 Q (.agg #[.int .i64 n463, .int .i64 n464, x465.val]) w462)) ∧
 ((decide (n8 = 7)) = false →
 Trip Tryd.prog 129 #[.pointer (some (a_0.add 0)), .agg #[x1_0.val, x1_1.val], x_2.val, .int .i64 n_3, .int .i64 n_4] w7 fun r466 w467 =>
 ∃ n468 : Int, ∃ n469 : Int, ∃ x470 : Sl, r466 = .agg #[.int .i64 n468, .int .i64 n469, x470.val] ∧
 Q (.agg #[.int .i64 n468, .int .i64 n469, x470.val]) w467)) ∧
 ((decide (n8 = 7)) = false →
 ((decide (n8 = 8)) = true →
 Trip Tryd.prog 128 #[.agg #[x1_0.val, x1_1.val], .int .i64 n_3] w7 fun r471 w472 =>
 ∃ x473 : Sl, r471 = x473.val ∧
 ((decide ((x473.n : Int) > 0)) = true →
 Trip Tryd.prog 53 #[.pointer (some (a_0.add 0)), .int .i64 (x473.n : Int)] w472 fun r474 w475 =>
 ∃ n476 : Int, r474 = .int .i64 n476 ∧
 IxOk x473 n476 ∧
 ∃ n477 : Int, w475.cell? ((elA x473 n476 1).add 0) = some (.int .i64 n477) ∧
 IxOk x1_1 n477 ∧
 ∃ x478 : Sl, w475.cell? ((elA x1_1 n477 5).add 0) = some (x478.val) ∧
 ∃ n479 : Int, Wr .i64 (n_4 - 1) n479 ∧
 Trip Tryd.prog 126 #[.pointer (some (a_0.add 0)), .agg #[x1_0.val, x1_1.val], x_2.val, x478.val, .int .i64 n479] w475 fun r480 w481 =>
 ∃ x482 : Sl, r480 = x482.val ∧
 Trip Tryd.prog 55 #[.int .i64 9, .int .i64 n477, x482.val] w481 fun r483 w484 =>
 ∃ n485 : Int, ∃ n486 : Int, ∃ x487 : Sl, r483 = .agg #[.int .i64 n485, .int .i64 n486, x487.val] ∧
 Q (.agg #[.int .i64 n485, .int .i64 n486, x487.val]) w484) ∧
 ((decide ((x473.n : Int) > 0)) = false →
 Trip Tryd.prog 129 #[.pointer (some (a_0.add 0)), .agg #[x1_0.val, x1_1.val], x_2.val, .int .i64 n_3, .int .i64 n_4] w472 fun r488 w489 =>
 ∃ n490 : Int, ∃ n491 : Int, ∃ x492 : Sl, r488 = .agg #[.int .i64 n490, .int .i64 n491, x492.val] ∧
 Q (.agg #[.int .i64 n490, .int .i64 n491, x492.val]) w489)) ∧
 ((decide (n8 = 8)) = false →
 Trip Tryd.prog 129 #[.pointer (some (a_0.add 0)), .agg #[x1_0.val, x1_1.val], x_2.val, .int .i64 n_3, .int .i64 n_4] w7 fun r493 w494 =>
 ∃ n495 : Int, ∃ n496 : Int, ∃ x497 : Sl, r493 = .agg #[.int .i64 n495, .int .i64 n496, x497.val] ∧
 Q (.agg #[.int .i64 n495, .int .i64 n496, x497.val]) w494))))))))))
theorem of117 (a_0 : Addr) (x1_0 : Sl) (x1_1 : Sl) (x_2 : Sl) (n_3 : Int) (n_4 : Int) (v : World) (Q : Value → World → Prop) (h : vc117 a_0 x1_0 x1_1 x_2 n_3 n_4 v Q) : Trip Tryd.prog 117 #[.pointer (some (a_0.add 0)), .agg #[x1_0.val, x1_1.val], x_2.val, .int .i64 n_3, .int .i64 n_4] v Q :=
 trip_of_eq (args := [.pt a_0 0, .ag [.sl x1_0, .sl x1_1], .sl x_2, .num .i64 n_3, .num .i64 n_4]) (A := ⟨[], [], [(9, [11]), (21, [])], [], psG⟩) Tryd.func117 (by kernel_rfl) (by kernel_rfl) (by kernel_rfl : vc117 a_0 x1_0 x1_1 x_2 n_3 n_4 v Q = _) h

def vc118 (a_0 : Addr) (n_1 : Int) (v : World) (Q : Value → World → Prop) : Prop :=
 StepT Tryd.prog (Instr.buildSlice 27 0 #[]) v fun r1 w2 =>
 ∃ x3 : Sl, r1 = x3.val ∧
 Trip Tryd.prog 55 #[.int .i64 6, .int .i64 0, x3.val] w2 fun r4 w5 =>
 ∃ n6 : Int, ∃ n7 : Int, ∃ x8 : Sl, r4 = .agg #[.int .i64 n6, .int .i64 n7, x8.val] ∧
 ((decide (n_1 = 3)) = true →
 StepT Tryd.prog (Instr.buildSlice 27 0 #[]) w5 fun r9 w10 =>
 ∃ x11 : Sl, r9 = x11.val ∧
 Trip Tryd.prog 55 #[.int .i64 6, .int .i64 2, x11.val] w10 fun r12 w13 =>
 ∃ n14 : Int, ∃ n15 : Int, ∃ x16 : Sl, r12 = .agg #[.int .i64 n14, .int .i64 n15, x16.val] ∧
 (Trip Tryd.prog 53 #[.pointer (some (a_0.add 0)), .int .i64 9] w13 fun r17 w18 =>
 ∃ n19 : Int, r17 = .int .i64 n19 ∧
 (Trip Tryd.prog 66 #[.int .i64 n19] w18 fun r20 w21 =>
 ∃ n22 : Int, ∃ n23 : Int, ∃ x24 : Sl, r20 = .agg #[.int .i64 n22, .int .i64 n23, x24.val] ∧
 (StepT Tryd.prog (Instr.buildSlice 27 3 #[(0, (.agg #[.int .i64 n14, .int .i64 n15, x16.val])), (1, (.agg #[.int .i64 n22, .int .i64 n23, x24.val])), (2, (.agg #[.int .i64 n14, .int .i64 n15, x16.val]))]) w21 fun r25 w26 =>
 ∃ x27 : Sl, r25 = x27.val ∧
 (Trip Tryd.prog 55 #[.int .i64 6, .int .i64 3, x27.val] w26 fun r28 w29 =>
 ∃ n30 : Int, ∃ n31 : Int, ∃ x32 : Sl, r28 = .agg #[.int .i64 n30, .int .i64 n31, x32.val] ∧
 Trip Tryd.prog 53 #[.pointer (some (a_0.add 0)), .int .i64 9] w29 fun r33 w34 =>
 ∃ n35 : Int, r33 = .int .i64 n35 ∧
 Trip Tryd.prog 66 #[.int .i64 n35] w34 fun r36 w37 =>
 ∃ n38 : Int, ∃ n39 : Int, ∃ x40 : Sl, r36 = .agg #[.int .i64 n38, .int .i64 n39, x40.val] ∧
 StepT Tryd.prog (Instr.buildSlice 27 3 #[(0, (.agg #[.int .i64 n30, .int .i64 n31, x32.val])), (1, (.agg #[.int .i64 n38, .int .i64 n39, x40.val])), (2, (.agg #[.int .i64 n14, .int .i64 n15, x16.val]))]) w37 fun r41 w42 =>
 ∃ x43 : Sl, r41 = x43.val ∧
 Trip Tryd.prog 55 #[.int .i64 6, .int .i64 3, x43.val] w42 fun r44 w45 =>
 ∃ n46 : Int, ∃ n47 : Int, ∃ x48 : Sl, r44 = .agg #[.int .i64 n46, .int .i64 n47, x48.val] ∧
 Q (.agg #[.int .i64 n46, .int .i64 n47, x48.val]) w45) ∧
 Trip Tryd.prog 55 #[.int .i64 6, .int .i64 3, x27.val] w26 fun r49 w50 =>
 ∃ n51 : Int, ∃ n52 : Int, ∃ x53 : Sl, r49 = .agg #[.int .i64 n51, .int .i64 n52, x53.val] ∧
 Trip Tryd.prog 53 #[.pointer (some (a_0.add 0)), .int .i64 9] w50 fun r54 w55 =>
 ∃ n56 : Int, r54 = .int .i64 n56 ∧
 Trip Tryd.prog 66 #[.int .i64 n56] w55 fun r57 w58 =>
 ∃ n59 : Int, ∃ n60 : Int, ∃ x61 : Sl, r57 = .agg #[.int .i64 n59, .int .i64 n60, x61.val] ∧
 StepT Tryd.prog (Instr.buildSlice 27 3 #[(0, (.agg #[.int .i64 n51, .int .i64 n52, x53.val])), (1, (.agg #[.int .i64 n59, .int .i64 n60, x61.val])), (2, (.agg #[.int .i64 n14, .int .i64 n15, x16.val]))]) w58 fun r62 w63 =>
 ∃ x64 : Sl, r62 = x64.val ∧
 Trip Tryd.prog 55 #[.int .i64 6, .int .i64 3, x64.val] w63 fun r65 w66 =>
 ∃ n67 : Int, ∃ n68 : Int, ∃ x69 : Sl, r65 = .agg #[.int .i64 n67, .int .i64 n68, x69.val] ∧
 Q (.agg #[.int .i64 n67, .int .i64 n68, x69.val]) w66) ∧
 StepT Tryd.prog (Instr.buildSlice 27 3 #[(0, (.agg #[.int .i64 n14, .int .i64 n15, x16.val])), (1, (.agg #[.int .i64 n22, .int .i64 n23, x24.val])), (2, (.agg #[.int .i64 n14, .int .i64 n15, x16.val]))]) w21 fun r70 w71 =>
 ∃ x72 : Sl, r70 = x72.val ∧
 Trip Tryd.prog 55 #[.int .i64 6, .int .i64 3, x72.val] w71 fun r73 w74 =>
 ∃ n75 : Int, ∃ n76 : Int, ∃ x77 : Sl, r73 = .agg #[.int .i64 n75, .int .i64 n76, x77.val] ∧
 Trip Tryd.prog 53 #[.pointer (some (a_0.add 0)), .int .i64 9] w74 fun r78 w79 =>
 ∃ n80 : Int, r78 = .int .i64 n80 ∧
 Trip Tryd.prog 66 #[.int .i64 n80] w79 fun r81 w82 =>
 ∃ n83 : Int, ∃ n84 : Int, ∃ x85 : Sl, r81 = .agg #[.int .i64 n83, .int .i64 n84, x85.val] ∧
 StepT Tryd.prog (Instr.buildSlice 27 3 #[(0, (.agg #[.int .i64 n75, .int .i64 n76, x77.val])), (1, (.agg #[.int .i64 n83, .int .i64 n84, x85.val])), (2, (.agg #[.int .i64 n14, .int .i64 n15, x16.val]))]) w82 fun r86 w87 =>
 ∃ x88 : Sl, r86 = x88.val ∧
 Trip Tryd.prog 55 #[.int .i64 6, .int .i64 3, x88.val] w87 fun r89 w90 =>
 ∃ n91 : Int, ∃ n92 : Int, ∃ x93 : Sl, r89 = .agg #[.int .i64 n91, .int .i64 n92, x93.val] ∧
 Q (.agg #[.int .i64 n91, .int .i64 n92, x93.val]) w90) ∧
 Trip Tryd.prog 66 #[.int .i64 n19] w18 fun r94 w95 =>
 ∃ n96 : Int, ∃ n97 : Int, ∃ x98 : Sl, r94 = .agg #[.int .i64 n96, .int .i64 n97, x98.val] ∧
 StepT Tryd.prog (Instr.buildSlice 27 3 #[(0, (.agg #[.int .i64 n14, .int .i64 n15, x16.val])), (1, (.agg #[.int .i64 n96, .int .i64 n97, x98.val])), (2, (.agg #[.int .i64 n14, .int .i64 n15, x16.val]))]) w95 fun r99 w100 =>
 ∃ x101 : Sl, r99 = x101.val ∧
 Trip Tryd.prog 55 #[.int .i64 6, .int .i64 3, x101.val] w100 fun r102 w103 =>
 ∃ n104 : Int, ∃ n105 : Int, ∃ x106 : Sl, r102 = .agg #[.int .i64 n104, .int .i64 n105, x106.val] ∧
 Trip Tryd.prog 53 #[.pointer (some (a_0.add 0)), .int .i64 9] w103 fun r107 w108 =>
 ∃ n109 : Int, r107 = .int .i64 n109 ∧
 Trip Tryd.prog 66 #[.int .i64 n109] w108 fun r110 w111 =>
 ∃ n112 : Int, ∃ n113 : Int, ∃ x114 : Sl, r110 = .agg #[.int .i64 n112, .int .i64 n113, x114.val] ∧
 StepT Tryd.prog (Instr.buildSlice 27 3 #[(0, (.agg #[.int .i64 n104, .int .i64 n105, x106.val])), (1, (.agg #[.int .i64 n112, .int .i64 n113, x114.val])), (2, (.agg #[.int .i64 n14, .int .i64 n15, x16.val]))]) w111 fun r115 w116 =>
 ∃ x117 : Sl, r115 = x117.val ∧
 Trip Tryd.prog 55 #[.int .i64 6, .int .i64 3, x117.val] w116 fun r118 w119 =>
 ∃ n120 : Int, ∃ n121 : Int, ∃ x122 : Sl, r118 = .agg #[.int .i64 n120, .int .i64 n121, x122.val] ∧
 Q (.agg #[.int .i64 n120, .int .i64 n121, x122.val]) w119) ∧
 Trip Tryd.prog 53 #[.pointer (some (a_0.add 0)), .int .i64 9] w13 fun r123 w124 =>
 ∃ n125 : Int, r123 = .int .i64 n125 ∧
 Trip Tryd.prog 66 #[.int .i64 n125] w124 fun r126 w127 =>
 ∃ n128 : Int, ∃ n129 : Int, ∃ x130 : Sl, r126 = .agg #[.int .i64 n128, .int .i64 n129, x130.val] ∧
 StepT Tryd.prog (Instr.buildSlice 27 3 #[(0, (.agg #[.int .i64 n14, .int .i64 n15, x16.val])), (1, (.agg #[.int .i64 n128, .int .i64 n129, x130.val])), (2, (.agg #[.int .i64 n14, .int .i64 n15, x16.val]))]) w127 fun r131 w132 =>
 ∃ x133 : Sl, r131 = x133.val ∧
 Trip Tryd.prog 55 #[.int .i64 6, .int .i64 3, x133.val] w132 fun r134 w135 =>
 ∃ n136 : Int, ∃ n137 : Int, ∃ x138 : Sl, r134 = .agg #[.int .i64 n136, .int .i64 n137, x138.val] ∧
 Trip Tryd.prog 53 #[.pointer (some (a_0.add 0)), .int .i64 9] w135 fun r139 w140 =>
 ∃ n141 : Int, r139 = .int .i64 n141 ∧
 Trip Tryd.prog 66 #[.int .i64 n141] w140 fun r142 w143 =>
 ∃ n144 : Int, ∃ n145 : Int, ∃ x146 : Sl, r142 = .agg #[.int .i64 n144, .int .i64 n145, x146.val] ∧
 StepT Tryd.prog (Instr.buildSlice 27 3 #[(0, (.agg #[.int .i64 n136, .int .i64 n137, x138.val])), (1, (.agg #[.int .i64 n144, .int .i64 n145, x146.val])), (2, (.agg #[.int .i64 n14, .int .i64 n15, x16.val]))]) w143 fun r147 w148 =>
 ∃ x149 : Sl, r147 = x149.val ∧
 Trip Tryd.prog 55 #[.int .i64 6, .int .i64 3, x149.val] w148 fun r150 w151 =>
 ∃ n152 : Int, ∃ n153 : Int, ∃ x154 : Sl, r150 = .agg #[.int .i64 n152, .int .i64 n153, x154.val] ∧
 Q (.agg #[.int .i64 n152, .int .i64 n153, x154.val]) w151) ∧
 ((decide (n_1 = 3)) = false →
 Trip Tryd.prog 53 #[.pointer (some (a_0.add 0)), .int .i64 3] w5 fun r155 w156 =>
 ∃ n157 : Int, r155 = .int .i64 n157 ∧
 ∃ n158 : Int, Wr .i64 (1 + n157) n158 ∧
 ∃ I159 : Int → Int → Int → Sl → World → Prop, ∃ m160 : Int → Int → Int → Sl → World → Nat, I159 n158 n6 n7 x8 w156 ∧
 ∀ n161 : Int, ∀ n162 : Int, ∀ n163 : Int, ∀ x164 : Sl, ∀ w165 : World, I159 n161 n162 n163 x164 w165 →
 ((decide (n161 > 0)) = true →
 Trip Tryd.prog 130 #[.pointer (some (a_0.add 0))] w165 fun r166 w167 =>
 ∃ n168 : Int, r166 = .int .i64 n168 ∧
 Trip Tryd.prog 66 #[.int .i64 n168] w167 fun r169 w170 =>
 ∃ n171 : Int, ∃ n172 : Int, ∃ x173 : Sl, r169 = .agg #[.int .i64 n171, .int .i64 n172, x173.val] ∧
 StepT Tryd.prog (Instr.buildSlice 27 2 #[(0, (.agg #[.int .i64 n171, .int .i64 n172, x173.val])), (1, (.agg #[.int .i64 n162, .int .i64 n163, x164.val]))]) w170 fun r174 w175 =>
 ∃ x176 : Sl, r174 = x176.val ∧
 Trip Tryd.prog 55 #[.int .i64 6, .int .i64 1, x176.val] w175 fun r177 w178 =>
 ∃ n179 : Int, ∃ n180 : Int, ∃ x181 : Sl, r177 = .agg #[.int .i64 n179, .int .i64 n180, x181.val] ∧
 ∃ n182 : Int, Wr .i64 (n161 - 1) n182 ∧
 ((.num .i64 0 : SV) = .num .i64 0) ∧
 ((.num .i64 0 : SV) = .num .i64 0) ∧
 ((.sl (Sl.mk none 0 0) : SV) = .sl (Sl.mk none 0 0)) ∧
 ((.num .i64 n6 : SV) = .num .i64 n6) ∧
 ((.num .i64 n7 : SV) = .num .i64 n7) ∧
 ((.sl x8 : SV) = .sl x8) ∧
 I159 n182 n179 n180 x181 w178 ∧
 m160 n182 n179 n180 x181 w178 < m160 n161 n162 n163 x164 w165) ∧
 ((decide (n161 > 0)) = false →
 Q (.agg #[.int .i64 n162, .int .i64 n163, x164.val]) w165))
theorem of118 (a_0 : Addr) (n_1 : Int) (v : World) (Q : Value → World → Prop) (h : vc118 a_0 n_1 v Q) : Trip Tryd.prog 118 #[.pointer (some (a_0.add 0)), .int .i64 n_1] v Q :=
 trip_of_eq (args := [.pt a_0 0, .num .i64 n_1]) (A := ⟨[(8, [(9, .int .i64)], [(2, 0, .int .i64), (2, 1, .int .i64), (2, 2, .sl)])], [], [(4, []), (5, []), (10, [])], [], psG⟩) Tryd.func118 (by kernel_rfl) (by kernel_rfl) (by kernel_rfl : vc118 a_0 n_1 v Q = _) h

def vc119 (x_0 : Sl) (x_1 : Sl) (v : World) (Q : Value → World → Prop) : Prop :=
 Trip Tryd.prog 131 #[x_0.val] v fun r1 w2 =>
 ∃ x3 : Sl, r1 = x3.val ∧
 StepT Tryd.prog (Builtin.append_ #[86, 86] 86 #[(x3.val), (x_1.val)]) w2 fun r4 w5 =>
 ∃ x6 : Sl, r4 = x6.val ∧
 Q (x6.val) w5
theorem of119 (x_0 : Sl) (x_1 : Sl) (v : World) (Q : Value → World → Prop) (h : vc119 x_0 x_1 v Q) : Trip Tryd.prog 119 #[x_0.val, x_1.val] v Q :=
 trip_of_eq (args := [.sl x_0, .sl x_1]) (A := ⟨[], [], [], [], psG⟩) Tryd.func119 (by kernel_rfl) (by kernel_rfl) (by kernel_rfl : vc119 x_0 x_1 v Q = _) h

def vc120 (a_0 : Addr) (x1_0 : Sl) (x1_1 : Sl) (x_2 : Sl) (n_3 : Int) (v : World) (Q : Value → World → Prop) : Prop :=
 Trip Tryd.prog 132 #[x_2.val, .int .i64 n_3] v fun r1 w2 =>
 ∃ x3 : Sl, r1 = x3.val ∧
 ((decide ((x3.n : Int) > 0)) = true →
 Trip Tryd.prog 53 #[.pointer (some (a_0.add 0)), .int .i64 6] w2 fun r4 w5 =>
 ∃ n6 : Int, r4 = .int .i64 n6 ∧
 ((decide (n6 > 0)) = false →
 StepT Tryd.prog (Instr.buildSlice 86 0 #[]) w5 fun r7 w8 =>
 ∃ x9 : Sl, r7 = x9.val ∧
 ∃ q10 : Bool, ((decide (n6 > 0)) = false →
 (Trip Tryd.prog 133 #[.agg #[x1_0.val, x1_1.val], x9.val, .int .i64 n_3] w8 fun r11 w12 => r11 = .bool q10 ∧ Sub w8 w12)) ∧
 (((decide (n6 > 0)) || (!q10)) = true →
 Trip Tryd.prog 53 #[.pointer (some (a_0.add 0)), .int .i64 (x3.n : Int)] w8 fun r13 w14 =>
 ∃ n15 : Int, r13 = .int .i64 n15 ∧
 IxOk x3 n15 ∧
 ∃ n16 : Int, w14.cell? ((elA x3 n15 1).add 0) = some (.int .i64 n16) ∧
 Trip Tryd.prog 67 #[.int .i64 n16] w14 fun r17 w18 =>
 ∃ n19 : Int, ∃ n20 : Int, ∃ x21 : Sl, r17 = .agg #[.int .i64 n19, .int .i64 n20, x21.val] ∧
 Q (.agg #[.int .i64 n19, .int .i64 n20, x21.val]) w18) ∧
 (((decide (n6 > 0)) || (!q10)) = false →
 Trip Tryd.prog 134 #[.pointer (some (a_0.add 0)), .agg #[x1_0.val, x1_1.val], .int .i64 n_3] w8 fun r22 w23 =>
 ∃ n24 : Int, ∃ n25 : Int, ∃ x26 : Sl, r22 = .agg #[.int .i64 n24, .int .i64 n25, x26.val] ∧
 Q (.agg #[.int .i64 n24, .int .i64 n25, x26.val]) w23)) ∧
 ((decide (n6 > 0)) = true →
 ∃ q27 : Bool, ((decide (n6 > 0)) = false →
 (Trip Tryd.prog 133 #[.agg #[x1_0.val, x1_1.val], .bool false, .int .i64 n_3] w5 fun r28 w29 => r28 = .bool q27 ∧ Sub w5 w29)) ∧
 (((decide (n6 > 0)) || (!q27)) = true →
 Trip Tryd.prog 53 #[.pointer (some (a_0.add 0)), .int .i64 (x3.n : Int)] w5 fun r30 w31 =>
 ∃ n32 : Int, r30 = .int .i64 n32 ∧
 IxOk x3 n32 ∧
 ∃ n33 : Int, w31.cell? ((elA x3 n32 1).add 0) = some (.int .i64 n33) ∧
 Trip Tryd.prog 67 #[.int .i64 n33] w31 fun r34 w35 =>
 ∃ n36 : Int, ∃ n37 : Int, ∃ x38 : Sl, r34 = .agg #[.int .i64 n36, .int .i64 n37, x38.val] ∧
 Q (.agg #[.int .i64 n36, .int .i64 n37, x38.val]) w35) ∧
 (((decide (n6 > 0)) || (!q27)) = false →
 Trip Tryd.prog 134 #[.pointer (some (a_0.add 0)), .agg #[x1_0.val, x1_1.val], .int .i64 n_3] w5 fun r39 w40 =>
 ∃ n41 : Int, ∃ n42 : Int, ∃ x43 : Sl, r39 = .agg #[.int .i64 n41, .int .i64 n42, x43.val] ∧
 Q (.agg #[.int .i64 n41, .int .i64 n42, x43.val]) w40))) ∧
 ((decide ((x3.n : Int) > 0)) = false →
 Trip Tryd.prog 134 #[.pointer (some (a_0.add 0)), .agg #[x1_0.val, x1_1.val], .int .i64 n_3] w2 fun r44 w45 =>
 ∃ n46 : Int, ∃ n47 : Int, ∃ x48 : Sl, r44 = .agg #[.int .i64 n46, .int .i64 n47, x48.val] ∧
 Q (.agg #[.int .i64 n46, .int .i64 n47, x48.val]) w45)
theorem of120 (a_0 : Addr) (x1_0 : Sl) (x1_1 : Sl) (x_2 : Sl) (n_3 : Int) (v : World) (Q : Value → World → Prop) (h : vc120 a_0 x1_0 x1_1 x_2 n_3 v Q) : Trip Tryd.prog 120 #[.pointer (some (a_0.add 0)), .agg #[x1_0.val, x1_1.val], x_2.val, .int .i64 n_3] v Q :=
 trip_of_eq (args := [.pt a_0 0, .ag [.sl x1_0, .sl x1_1], .sl x_2, .num .i64 n_3]) (A := ⟨[], [], [], [], psG⟩) Tryd.func120 (by kernel_rfl) (by kernel_rfl) (by kernel_rfl : vc120 a_0 x1_0 x1_1 x_2 n_3 v Q = _) h

def vc125 (a_0 : Addr) (x1_0 : Sl) (x1_1 : Sl) (x_2 : Sl) (v : World) (Q : Value → World → Prop) : Prop :=
 StepT Tryd.prog (Instr.buildSlice 86 7 #[(0, (.int .i64 1)), (1, (.int .i64 1)), (2, (.int .i64 3)), (3, (.int .i64 0)), (4, (.int .i64 2)), (5, (.int .i64 4)), (6, (.int .i64 3))]) v fun r1 w2 =>
 ∃ x3 : Sl, r1 = x3.val ∧
 Trip Tryd.prog 65 #[.pointer (some (a_0.add 0)), x3.val] w2 fun r4 w5 =>
 ∃ n6 : Int, r4 = .int .i64 n6 ∧
 ∃ q7 : Bool, ((decide (n6 > (x1_0.n : Int))) = false →
 (Trip Tryd.prog 133 #[.agg #[x1_0.val, x1_1.val], x_2.val, .int .i64 n6] w5 fun r8 w9 => r8 = .bool q7 ∧ Sub w5 w9)) ∧
 (((decide (n6 > (x1_0.n : Int))) || (!q7)) = true →
 Q (.int .i64 1) w5) ∧
 (((decide (n6 > (x1_0.n : Int))) || (!q7)) = false →
 Q (.int .i64 n6) w5)
theorem of125 (a_0 : Addr) (x1_0 : Sl) (x1_1 : Sl) (x_2 : Sl) (v : World) (Q : Value → World → Prop) (h : vc125 a_0 x1_0 x1_1 x_2 v Q) : Trip Tryd.prog 125 #[.pointer (some (a_0.add 0)), .agg #[x1_0.val, x1_1.val], x_2.val] v Q :=
 trip_of_eq (args := [.pt a_0 0, .ag [.sl x1_0, .sl x1_1], .sl x_2]) (A := ⟨[], [], [], [], psG⟩) Tryd.func125 (by kernel_rfl) (by kernel_rfl) (by kernel_rfl : vc125 a_0 x1_0 x1_1 x_2 v Q = _) h

def vc126 (a_0 : Addr) (x1_0 : Sl) (x1_1 : Sl) (x_2 : Sl) (x_3 : Sl) (n_4 : Int) (v : World) (Q : Value → World → Prop) : Prop :=
 StepT Tryd.prog (Instr.buildSlice 27 0 #[]) v fun r1 w2 =>
 ∃ x3 : Sl, r1 = x3.val ∧
 ∃ I4 : Sl → Int → World → Prop, ∃ m5 : Sl → Int → World → Nat, I4 x3 0 w2 ∧
 ∀ x6 : Sl, ∀ n7 : Int, ∀ w8 : World, I4 x6 n7 w8 →
 ((decide (n7 < (x_3.n : Int))) = true →
 IxOk x_3 n7 ∧
 ∃ n9 : Int, w8.cell? ((elA x_3 n7 1).add 0) = some (.int .i64 n9) ∧
 ∃ n10 : Int, (((x_3.n : Int) : Int) ≠ 0 ∧ Wr .i64 (Int.tdiv n_4 (x_3.n : Int)) n10) ∧
 Trip Tryd.prog 117 #[.pointer (some (a_0.add 0)), .agg #[x1_0.val, x1_1.val], x_2.val, .int .i64 n9, .int .i64 n10] w8 fun r11 w12 =>
 ∃ n13 : Int, ∃ n14 : Int, ∃ x15 : Sl, r11 = .agg #[.int .i64 n13, .int .i64 n14, x15.val] ∧
 StepT Tryd.prog (Instr.buildSlice 27 1 #[(0, (.agg #[.int .i64 n13, .int .i64 n14, x15.val]))]) w12 fun r16 w17 =>
 ∃ x18 : Sl, r16 = x18.val ∧
 StepT Tryd.prog (Builtin.append_ #[27, 27] 27 #[(x6.val), (x18.val)]) w17 fun r19 w20 =>
 ∃ x21 : Sl, r19 = x21.val ∧
 ∃ n22 : Int, Wr .i64 (n7 + 1) n22 ∧
 ((.sl x1_0 : SV) = .sl x1_0) ∧
 ((.sl x1_1 : SV) = .sl x1_1) ∧
 I4 x21 n22 w20 ∧
 m5 x21 n22 w20 < m5 x6 n7 w8) ∧
 ((decide (n7 < (x_3.n : Int))) = false →
 Q (x6.val) w8)
theorem of126 (a_0 : Addr) (x1_0 : Sl) (x1_1 : Sl) (x_2 : Sl) (x_3 : Sl) (n_4 : Int) (v : World) (Q : Value → World → Prop) (h : vc126 a_0 x1_0 x1_1 x_2 x_3 n_4 v Q) : Trip Tryd.prog 126 #[.pointer (some (a_0.add 0)), .agg #[x1_0.val, x1_1.val], x_2.val, x_3.val, .int .i64 n_4] v Q :=
 trip_of_eq (args := [.pt a_0 0, .ag [.sl x1_0, .sl x1_1], .sl x_2, .sl x_3, .num .i64 n_4]) (A := ⟨[(3, [(11, .sl), (12, .int .i64)], [])], [], [(5, [])], [], psG⟩) Tryd.func126 (by kernel_rfl) (by kernel_rfl) (by kernel_rfl : vc126 a_0 x1_0 x1_1 x_2 x_3 n_4 v Q = _) h

def vc127 (a_0 : Addr) (x1_0 : Sl) (x1_1 : Sl) (x_2 : Sl) (n_3 : Int) (n_4 : Int) (v : World) (Q : Value → World → Prop) : Prop :=
 StepT Tryd.prog (Instr.buildSlice 86 4 #[(0, (.int .i64 1)), (1, (.int .i64 1)), (2, (.int .i64 3)), (3, (.int .i64 4))]) v fun r1 w2 =>
 ∃ x3 : Sl, r1 = x3.val ∧
 Trip Tryd.prog 65 #[.pointer (some (a_0.add 0)), x3.val] w2 fun r4 w5 =>
 ∃ n6 : Int, r4 = .int .i64 n6 ∧
 ∃ q7 : Bool, ((decide (n6 > (x1_0.n : Int))) = false →
 (Trip Tryd.prog 135 #[x1_0.val, .int .i64 n6] w5 fun r8 w9 => r8 = .bool q7 ∧ Sub w5 w9)) ∧
 (((decide (n6 > (x1_0.n : Int))) || q7) = true →
 Trip Tryd.prog 136 #[x1_0.val, .int .i64 1] w5 fun r10 w11 =>
 ∃ x12 : Sl, r10 = x12.val ∧
 Trip Tryd.prog 120 #[.pointer (some (a_0.add 0)), .agg #[x1_0.val, x1_1.val], x_2.val, .int .i64 1] w11 fun r13 w14 =>
 ∃ n15 : Int, ∃ n16 : Int, ∃ x17 : Sl, r13 = .agg #[.int .i64 n15, .int .i64 n16, x17.val] ∧
 StepT Tryd.prog (Instr.buildSlice 27 1 #[(0, (.agg #[.int .i64 n15, .int .i64 n16, x17.val]))]) w14 fun r18 w19 =>
 ∃ x20 : Sl, r18 = x20.val ∧
 ∃ I21 : Sl → Int → World → Prop, ∃ m22 : Sl → Int → World → Nat, I21 x20 0 w19 ∧
 ∀ x23 : Sl, ∀ n24 : Int, ∀ w25 : World, I21 x23 n24 w25 →
 ((decide (n24 < (x12.n : Int))) = true →
 IxOk x12 n24 ∧
 ∃ n26 : Int, w25.cell? ((elA x12 n24 1).add 0) = some (.int .i64 n26) ∧
 ∃ n27 : Int, Wr .i64 (n_4 - 2) n27 ∧
 ∃ n28 : Int, (((x12.n : Int) : Int) ≠ 0 ∧ Wr .i64 (Int.tdiv n27 (x12.n : Int)) n28) ∧
 Trip Tryd.prog 137 #[x1_0.val, .int .i64 n26] w25 fun r29 w30 =>
 ∃ x31 : Sl, r29 = x31.val ∧
 Sub w25 w30 ∧
 Trip Tryd.prog 119 #[x_2.val, x31.val] w30 fun r32 w33 =>
 ∃ x34 : Sl, r32 = x34.val ∧
 Sub w30 w33 ∧
 Trip Tryd.prog 117 #[.pointer (some (a_0.add 0)), .agg #[x1_0.val, x1_1.val], x34.val, .int .i64 n_3, .int .i64 n28] w33 fun r35 w36 =>
 ∃ n37 : Int, ∃ n38 : Int, ∃ x39 : Sl, r35 = .agg #[.int .i64 n37, .int .i64 n38, x39.val] ∧
 StepT Tryd.prog (Instr.buildSlice 27 1 #[(0, (.agg #[.int .i64 n37, .int .i64 n38, x39.val]))]) w36 fun r40 w41 =>
 ∃ x42 : Sl, r40 = x42.val ∧
 StepT Tryd.prog (Builtin.append_ #[27, 27] 27 #[(x23.val), (x42.val)]) w41 fun r43 w44 =>
 ∃ x45 : Sl, r43 = x45.val ∧
 ∃ n46 : Int, Wr .i64 (n24 + 1) n46 ∧
 ((.sl x1_0 : SV) = .sl x1_0) ∧
 ((.sl x1_1 : SV) = .sl x1_1) ∧
 ((.num .i64 0 : SV) = .num .i64 0) ∧
 ((.num .i64 0 : SV) = .num .i64 0) ∧
 ((.sl (Sl.mk none 0 0) : SV) = .sl (Sl.mk none 0 0)) ∧
 I21 x45 n46 w44 ∧
 m22 x45 n46 w44 < m22 x23 n24 w25) ∧
 ((decide (n24 < (x12.n : Int))) = false →
 Trip Tryd.prog 55 #[.int .i64 8, .int .i64 1, x23.val] w25 fun r47 w48 =>
 ∃ n49 : Int, ∃ n50 : Int, ∃ x51 : Sl, r47 = .agg #[.int .i64 n49, .int .i64 n50, x51.val] ∧
 Q (.agg #[.int .i64 n49, .int .i64 n50, x51.val]) w48)) ∧
 (((decide (n6 > (x1_0.n : Int))) || q7) = false →
 Trip Tryd.prog 136 #[x1_0.val, .int .i64 n6] w5 fun r52 w53 =>
 ∃ x54 : Sl, r52 = x54.val ∧
 Trip Tryd.prog 120 #[.pointer (some (a_0.add 0)), .agg #[x1_0.val, x1_1.val], x_2.val, .int .i64 n6] w53 fun r55 w56 =>
 ∃ n57 : Int, ∃ n58 : Int, ∃ x59 : Sl, r55 = .agg #[.int .i64 n57, .int .i64 n58, x59.val] ∧
 StepT Tryd.prog (Instr.buildSlice 27 1 #[(0, (.agg #[.int .i64 n57, .int .i64 n58, x59.val]))]) w56 fun r60 w61 =>
 ∃ x62 : Sl, r60 = x62.val ∧
 ∃ I63 : Sl → Int → World → Prop, ∃ m64 : Sl → Int → World → Nat, I63 x62 0 w61 ∧
 ∀ x65 : Sl, ∀ n66 : Int, ∀ w67 : World, I63 x65 n66 w67 →
 ((decide (n66 < (x54.n : Int))) = true →
 IxOk x54 n66 ∧
 ∃ n68 : Int, w67.cell? ((elA x54 n66 1).add 0) = some (.int .i64 n68) ∧
 ∃ n69 : Int, Wr .i64 (n_4 - 2) n69 ∧
 ∃ n70 : Int, (((x54.n : Int) : Int) ≠ 0 ∧ Wr .i64 (Int.tdiv n69 (x54.n : Int)) n70) ∧
 Trip Tryd.prog 137 #[x1_0.val, .int .i64 n68] w67 fun r71 w72 =>
 ∃ x73 : Sl, r71 = x73.val ∧
 Sub w67 w72 ∧
 Trip Tryd.prog 119 #[x_2.val, x73.val] w72 fun r74 w75 =>
 ∃ x76 : Sl, r74 = x76.val ∧
 Sub w72 w75 ∧
 Trip Tryd.prog 117 #[.pointer (some (a_0.add 0)), .agg #[x1_0.val, x1_1.val], x76.val, .int .i64 n_3, .int .i64 n70] w75 fun r77 w78 =>
 ∃ n79 : Int, ∃ n80 : Int, ∃ x81 : Sl, r77 = .agg #[.int .i64 n79, .int .i64 n80, x81.val] ∧
 StepT Tryd.prog (Instr.buildSlice 27 1 #[(0, (.agg #[.int .i64 n79, .int .i64 n80, x81.val]))]) w78 fun r82 w83 =>
 ∃ x84 : Sl, r82 = x84.val ∧
 StepT Tryd.prog (Builtin.append_ #[27, 27] 27 #[(x65.val), (x84.val)]) w83 fun r85 w86 =>
 ∃ x87 : Sl, r85 = x87.val ∧
 ∃ n88 : Int, Wr .i64 (n66 + 1) n88 ∧
 ((.sl x1_0 : SV) = .sl x1_0) ∧
 ((.sl x1_1 : SV) = .sl x1_1) ∧
 ((.num .i64 0 : SV) = .num .i64 0) ∧
 ((.num .i64 0 : SV) = .num .i64 0) ∧
 ((.sl (Sl.mk none 0 0) : SV) = .sl (Sl.mk none 0 0)) ∧
 I63 x87 n88 w86 ∧
 m64 x87 n88 w86 < m64 x65 n66 w67) ∧
 ((decide (n66 < (x54.n : Int))) = false →
 Trip Tryd.prog 55 #[.int .i64 8, .int .i64 n6, x65.val] w67 fun r89 w90 =>
 ∃ n91 : Int, ∃ n92 : Int, ∃ x93 : Sl, r89 = .agg #[.int .i64 n91, .int .i64 n92, x93.val] ∧
 Q (.agg #[.int .i64 n91, .int .i64 n92, x93.val]) w90))
theorem of127 (a_0 : Addr) (x1_0 : Sl) (x1_1 : Sl) (x_2 : Sl) (n_3 : Int) (n_4 : Int) (v : World) (Q : Value → World → Prop) (h : vc127 a_0 x1_0 x1_1 x_2 n_3 n_4 v Q) : Trip Tryd.prog 127 #[.pointer (some (a_0.add 0)), .agg #[x1_0.val, x1_1.val], x_2.val, .int .i64 n_3, .int .i64 n_4] v Q :=
 trip_of_eq (args := [.pt a_0 0, .ag [.sl x1_0, .sl x1_1], .sl x_2, .num .i64 n_3, .num .i64 n_4]) (A := ⟨[(7, [(13, .sl), (14, .int .i64)], [])], [], [(9, [10, 11])], [], psG⟩) Tryd.func127 (by kernel_rfl) (by kernel_rfl) (by kernel_rfl : vc127 a_0 x1_0 x1_1 x_2 n_3 n_4 v Q = _) h

def vc128 (x0_0 : Sl) (x0_1 : Sl) (n_1 : Int) (v : World) (Q : Value → World → Prop) : Prop :=
 StepT Tryd.prog (Instr.buildSlice 86 0 #[]) v fun r1 w2 =>
 ∃ x3 : Sl, r1 = x3.val ∧
 ∃ I4 : Sl → Int → World → Prop, ∃ m5 : Sl → Int → World → Nat, I4 x3 1 w2 ∧
 ∀ x6 : Sl, ∀ n7 : Int, ∀ w8 : World, I4 x6 n7 w8 →
 ((decide (n7 < (x0_1.n : Int))) = true →
 IxOk x0_1 n7 ∧
 ∃ n9 : Int, w8.cell? ((elA x0_1 n7 5).add 1) = some (.int .i64 n9) ∧
 ∃ I10 : Bool → Int → World → Prop, ∃ m11 : Bool → Int → World → Nat, I10 (decide (n9 = n_1)) 0 w8 ∧
 ∀ q12 : Bool, ∀ n13 : Int, ∀ w14 : World, I10 q12 n13 w14 →
 IxOk x0_1 n7 ∧
 ∃ x15 : Sl, w14.cell? ((elA x0_1 n7 5).add 0) = some (x15.val) ∧
 ((decide (n13 < (x15.n : Int))) = true →
 (q12 = true →
 IxOk x0_1 n7) ∧
 ∃ x16 : Sl, (q12 = true →
 w14.cell? ((elA x0_1 n7 5).add 0) = some (x16.val)) ∧
 (q12 = true →
 IxOk x16 n13) ∧
 ∃ n17 : Int, (q12 = true →
 w14.cell? ((elA x16 n13 1).add 0) = some (.int .i64 n17)) ∧
 (q12 = true →
 StepT Tryd.prog (Instr.buildSlice 86 0 #[]) w14 fun r18 w19 =>
 ∃ x20 : Sl, r18 = x20.val ∧
 Sub w14 w19 ∧
 ∃ q21 : Bool, (Trip Tryd.prog 133 #[.agg #[x0_0.val, x0_1.val], x20.val, .int .i64 n17] w19 fun r22 w23 => r22 = .bool q21 ∧ Sub w19 w23) ∧
 ∃ n24 : Int, Wr .i64 (n13 + 1) n24 ∧
 ((.sl x0_0 : SV) = .sl x0_0) ∧
 ((.sl x0_1 : SV) = .sl x0_1) ∧
 I10 q21 n24 w19 ∧
 m11 q21 n24 w19 < m11 q12 n13 w14) ∧
 (q12 = false →
 Sub w14 w14 ∧
 ∃ n25 : Int, Wr .i64 (n13 + 1) n25 ∧
 ((.sl x0_0 : SV) = .sl x0_0) ∧
 ((.sl x0_1 : SV) = .sl x0_1) ∧
 I10 false n25 w14 ∧
 m11 false n25 w14 < m11 q12 n13 w14)) ∧
 ((decide (n13 < (x15.n : Int))) = false →
 (q12 = true →
 StepT Tryd.prog (Instr.buildSlice 86 1 #[(0, (.int .i64 n7))]) w14 fun r26 w27 =>
 ∃ x28 : Sl, r26 = x28.val ∧
 StepT Tryd.prog (Builtin.append_ #[86, 86] 86 #[(x6.val), (x28.val)]) w27 fun r29 w30 =>
 ∃ x31 : Sl, r29 = x31.val ∧
 ∃ n32 : Int, Wr .i64 (n7 + 1) n32 ∧
 ((.sl x0_0 : SV) = .sl x0_0) ∧
 ((.sl x0_1 : SV) = .sl x0_1) ∧
 I4 x31 n32 w30 ∧
 m5 x31 n32 w30 < m5 x6 n7 w8) ∧
 (q12 = false →
 ∃ n33 : Int, Wr .i64 (n7 + 1) n33 ∧
 ((.sl x0_0 : SV) = .sl x0_0) ∧
 ((.sl x0_1 : SV) = .sl x0_1) ∧
 I4 x6 n33 w14 ∧
 m5 x6 n33 w14 < m5 x6 n7 w8))) ∧
 ((decide (n7 < (x0_1.n : Int))) = false →
 Q (x6.val) w8)
theorem of128 (x0_0 : Sl) (x0_1 : Sl) (n_1 : Int) (v : World) (Q : Value → World → Prop) (h : vc128 x0_0 x0_1 n_1 v Q) : Trip Tryd.prog 128 #[.agg #[x0_0.val, x0_1.val], .int .i64 n_1] v Q :=
 trip_of_eq (args := [.ag [.sl x0_0, .sl x0_1], .num .i64 n_1]) (A := ⟨[(3, [(5, .sl), (6, .int .i64)], []), (7, [(7, .bool), (8, .int .i64)], [])], [], [(9, [3])], [], psG⟩) Tryd.func128 (by kernel_rfl) (by kernel_rfl) (by kernel_rfl : vc128 x0_0 x0_1 n_1 v Q = _) h

def vc129 (a_0 : Addr) (x1_0 : Sl) (x1_1 : Sl) (x_2 : Sl) (n_3 : Int) (n_4 : Int) (v : World) (Q : Value → World → Prop) : Prop :=
 Trip Tryd.prog 53 #[.pointer (some (a_0.add 0)), .int .i64 4] v fun r1 w2 =>
 ∃ n3 : Int, r1 = .int .i64 n3 ∧
 ((decide (n3 = 0)) = true →
 ∃ I4 : Int → World → Prop, ∃ m5 : Int → World → Nat, I4 1 w2 ∧
 ∀ n6 : Int, ∀ w7 : World, I4 n6 w7 →
 ((decide (n6 ≤ (x1_0.n : Int))) = true →
 ∃ q8 : Bool, (Trip Tryd.prog 135 #[x1_0.val, .int .i64 n6] w7 fun r9 w10 => r9 = .bool q8 ∧ Sub w7 w10) ∧
 ∃ n11 : Int, (q8 = true →
 Wr .i64 (n6 - 1) n11) ∧
 (q8 = true →
 IxOk x1_0 n11) ∧
 ∃ n12 : Int, (q8 = true →
 w7.cell? ((elA x1_0 n11 3).add 1) = some (.int .i64 n12)) ∧
 ∃ q13 : Bool, ((q8 && (decide (n12 = n_3))) = true →
 (Trip Tryd.prog 133 #[.agg #[x1_0.val, x1_1.val], x_2.val, .int .i64 n6] w7 fun r14 w15 => r14 = .bool q13 ∧ Sub w7 w15)) ∧
 (((q8 && (decide (n12 = n_3))) && q13) = true →
 ∃ n16 : Int, Wr .i64 (n6 - 1) n16 ∧
 ∃ n17 : Int, Wr .i64 (n_4 - 2) n17 ∧
 (Trip Tryd.prog 120 #[.pointer (some (a_0.add 0)), .agg #[x1_0.val, x1_1.val], x_2.val, .int .i64 n6] w7 fun r18 w19 =>
 ∃ n20 : Int, ∃ n21 : Int, ∃ x22 : Sl, r18 = .agg #[.int .i64 n20, .int .i64 n21, x22.val] ∧
 IxOk x1_0 n16 ∧
 ∃ n23 : Int, w19.cell? ((elA x1_0 n16 3).add 0) = some (.int .i64 n23) ∧
 Trip Tryd.prog 117 #[.pointer (some (a_0.add 0)), .agg #[x1_0.val, x1_1.val], x_2.val, .int .i64 n23, .int .i64 n17] w19 fun r24 w25 =>
 ∃ n26 : Int, ∃ n27 : Int, ∃ x28 : Sl, r24 = .agg #[.int .i64 n26, .int .i64 n27, x28.val] ∧
 StepT Tryd.prog (Instr.buildSlice 27 2 #[(0, (.agg #[.int .i64 n20, .int .i64 n21, x22.val])), (1, (.agg #[.int .i64 n26, .int .i64 n27, x28.val]))]) w25 fun r29 w30 =>
 ∃ x31 : Sl, r29 = x31.val ∧
 Trip Tryd.prog 55 #[.int .i64 11, .int .i64 0, x31.val] w30 fun r32 w33 =>
 ∃ n34 : Int, ∃ n35 : Int, ∃ x36 : Sl, r32 = .agg #[.int .i64 n34, .int .i64 n35, x36.val] ∧
 Q (.agg #[.int .i64 n34, .int .i64 n35, x36.val]) w33) ∧
 IxOk x1_0 n16 ∧
 (Trip Tryd.prog 120 #[.pointer (some (a_0.add 0)), .agg #[x1_0.val, x1_1.val], x_2.val, .int .i64 n6] w7 fun r37 w38 =>
 ∃ n39 : Int, ∃ n40 : Int, ∃ x41 : Sl, r37 = .agg #[.int .i64 n39, .int .i64 n40, x41.val] ∧
 ∃ n42 : Int, w38.cell? ((elA x1_0 n16 3).add 0) = some (.int .i64 n42) ∧
 Trip Tryd.prog 117 #[.pointer (some (a_0.add 0)), .agg #[x1_0.val, x1_1.val], x_2.val, .int .i64 n42, .int .i64 n17] w38 fun r43 w44 =>
 ∃ n45 : Int, ∃ n46 : Int, ∃ x47 : Sl, r43 = .agg #[.int .i64 n45, .int .i64 n46, x47.val] ∧
 StepT Tryd.prog (Instr.buildSlice 27 2 #[(0, (.agg #[.int .i64 n39, .int .i64 n40, x41.val])), (1, (.agg #[.int .i64 n45, .int .i64 n46, x47.val]))]) w44 fun r48 w49 =>
 ∃ x50 : Sl, r48 = x50.val ∧
 Trip Tryd.prog 55 #[.int .i64 11, .int .i64 0, x50.val] w49 fun r51 w52 =>
 ∃ n53 : Int, ∃ n54 : Int, ∃ x55 : Sl, r51 = .agg #[.int .i64 n53, .int .i64 n54, x55.val] ∧
 Q (.agg #[.int .i64 n53, .int .i64 n54, x55.val]) w52) ∧
 ∃ n56 : Int, w7.cell? ((elA x1_0 n16 3).add 0) = some (.int .i64 n56) ∧
 Trip Tryd.prog 120 #[.pointer (some (a_0.add 0)), .agg #[x1_0.val, x1_1.val], x_2.val, .int .i64 n6] w7 fun r57 w58 =>
 ∃ n59 : Int, ∃ n60 : Int, ∃ x61 : Sl, r57 = .agg #[.int .i64 n59, .int .i64 n60, x61.val] ∧
 Trip Tryd.prog 117 #[.pointer (some (a_0.add 0)), .agg #[x1_0.val, x1_1.val], x_2.val, .int .i64 n56, .int .i64 n17] w58 fun r62 w63 =>
 ∃ n64 : Int, ∃ n65 : Int, ∃ x66 : Sl, r62 = .agg #[.int .i64 n64, .int .i64 n65, x66.val] ∧
 StepT Tryd.prog (Instr.buildSlice 27 2 #[(0, (.agg #[.int .i64 n59, .int .i64 n60, x61.val])), (1, (.agg #[.int .i64 n64, .int .i64 n65, x66.val]))]) w63 fun r67 w68 =>
 ∃ x69 : Sl, r67 = x69.val ∧
 Trip Tryd.prog 55 #[.int .i64 11, .int .i64 0, x69.val] w68 fun r70 w71 =>
 ∃ n72 : Int, ∃ n73 : Int, ∃ x74 : Sl, r70 = .agg #[.int .i64 n72, .int .i64 n73, x74.val] ∧
 Q (.agg #[.int .i64 n72, .int .i64 n73, x74.val]) w71) ∧
 (((q8 && (decide (n12 = n_3))) && q13) = false →
 ∃ n75 : Int, Wr .i64 (n6 + 1) n75 ∧
 ((.sl x1_0 : SV) = .sl x1_0) ∧
 ((.sl x1_1 : SV) = .sl x1_1) ∧
 ((.num .i64 0 : SV) = .num .i64 0) ∧
 ((.num .i64 0 : SV) = .num .i64 0) ∧
 ((.sl (Sl.mk none 0 0) : SV) = .sl (Sl.mk none 0 0)) ∧
 I4 n75 w7 ∧
 m5 n75 w7 < m5 n6 w7)) ∧
 ((decide (n6 ≤ (x1_0.n : Int))) = false →
 Trip Tryd.prog 136 #[x1_0.val, .int .i64 n_3] w7 fun r76 w77 =>
 ∃ x78 : Sl, r76 = x78.val ∧
 ((decide ((x78.n : Int) > 0)) = true →
 Trip Tryd.prog 53 #[.pointer (some (a_0.add 0)), .int .i64 (x78.n : Int)] w77 fun r79 w80 =>
 ∃ n81 : Int, r79 = .int .i64 n81 ∧
 IxOk x78 n81 ∧
 ∃ n82 : Int, w80.cell? ((elA x78 n81 1).add 0) = some (.int .i64 n82) ∧
 ∃ n83 : Int, Wr .i64 (n_4 - 1) n83 ∧
 Trip Tryd.prog 137 #[x1_0.val, .int .i64 n82] w80 fun r84 w85 =>
 ∃ x86 : Sl, r84 = x86.val ∧
 Sub w80 w85 ∧
 Trip Tryd.prog 126 #[.pointer (some (a_0.add 0)), .agg #[x1_0.val, x1_1.val], x_2.val, x86.val, .int .i64 n83] w85 fun r87 w88 =>
 ∃ x89 : Sl, r87 = x89.val ∧
 Trip Tryd.prog 55 #[.int .i64 6, .int .i64 n82, x89.val] w88 fun r90 w91 =>
 ∃ n92 : Int, ∃ n93 : Int, ∃ x94 : Sl, r90 = .agg #[.int .i64 n92, .int .i64 n93, x94.val] ∧
 Q (.agg #[.int .i64 n92, .int .i64 n93, x94.val]) w91) ∧
 ((decide ((x78.n : Int) > 0)) = false →
 ((decide (n_3 > 0)) = true →
 Trip Tryd.prog 120 #[.pointer (some (a_0.add 0)), .agg #[x1_0.val, x1_1.val], x_2.val, .int .i64 n_3] w77 fun r95 w96 =>
 ∃ n97 : Int, ∃ n98 : Int, ∃ x99 : Sl, r95 = .agg #[.int .i64 n97, .int .i64 n98, x99.val] ∧
 Q (.agg #[.int .i64 n97, .int .i64 n98, x99.val]) w96) ∧
 ((decide (n_3 > 0)) = false →
 Trip Tryd.prog 53 #[.pointer (some (a_0.add 0)), .int .i64 3] w77 fun r100 w101 =>
 ∃ n102 : Int, r100 = .int .i64 n102 ∧
 ((decide (n102 = 0)) = true →
 StepT Tryd.prog (Instr.buildSlice 86 1 #[(0, (.int .i64 0))]) w101 fun r103 w104 =>
 ∃ x105 : Sl, r103 = x105.val ∧
 ∃ n106 : Int, Wr .i64 (n_4 - 1) n106 ∧
 Trip Tryd.prog 126 #[.pointer (some (a_0.add 0)), .agg #[x1_0.val, x1_1.val], x_2.val, x105.val, .int .i64 n106] w104 fun r107 w108 =>
 ∃ x109 : Sl, r107 = x109.val ∧
 Trip Tryd.prog 55 #[.int .i64 5, .int .i64 0, x109.val] w108 fun r110 w111 =>
 ∃ n112 : Int, ∃ n113 : Int, ∃ x114 : Sl, r110 = .agg #[.int .i64 n112, .int .i64 n113, x114.val] ∧
 Q (.agg #[.int .i64 n112, .int .i64 n113, x114.val]) w111) ∧
 ((decide (n102 = 0)) = false →
 ∃ n115 : Int, Wr .i64 (n_4 - 1) n115 ∧
 (StepT Tryd.prog (Instr.buildSlice 86 4 #[(0, (.int .i64 1)), (1, (.int .i64 2)), (2, (.int .i64 3)), (3, (.int .i64 4))]) w101 fun r116 w117 =>
 ∃ x118 : Sl, r116 = x118.val ∧
 (Trip Tryd.prog 65 #[.pointer (some (a_0.add 0)), x118.val] w117 fun r119 w120 =>
 ∃ n121 : Int, r119 = .int .i64 n121 ∧
 StepT Tryd.prog (Instr.buildSlice 86 2 #[(0, (.int .i64 0)), (1, (.int .i64 0))]) w120 fun r122 w123 =>
 ∃ x124 : Sl, r122 = x124.val ∧
 Trip Tryd.prog 126 #[.pointer (some (a_0.add 0)), .agg #[x1_0.val, x1_1.val], x_2.val, x124.val, .int .i64 n115] w123 fun r125 w126 =>
 ∃ x127 : Sl, r125 = x127.val ∧
 Trip Tryd.prog 55 #[.int .i64 n121, .int .i64 0, x127.val] w126 fun r128 w129 =>
 ∃ n130 : Int, ∃ n131 : Int, ∃ x132 : Sl, r128 = .agg #[.int .i64 n130, .int .i64 n131, x132.val] ∧
 Q (.agg #[.int .i64 n130, .int .i64 n131, x132.val]) w129) ∧
 StepT Tryd.prog (Instr.buildSlice 86 2 #[(0, (.int .i64 0)), (1, (.int .i64 0))]) w117 fun r133 w134 =>
 ∃ x135 : Sl, r133 = x135.val ∧
 Trip Tryd.prog 65 #[.pointer (some (a_0.add 0)), x118.val] w134 fun r136 w137 =>
 ∃ n138 : Int, r136 = .int .i64 n138 ∧
 Trip Tryd.prog 126 #[.pointer (some (a_0.add 0)), .agg #[x1_0.val, x1_1.val], x_2.val, x135.val, .int .i64 n115] w137 fun r139 w140 =>
 ∃ x141 : Sl, r139 = x141.val ∧
 Trip Tryd.prog 55 #[.int .i64 n138, .int .i64 0, x141.val] w140 fun r142 w143 =>
 ∃ n144 : Int, ∃ n145 : Int, ∃ x146 : Sl, r142 = .agg #[.int .i64 n144, .int .i64 n145, x146.val] ∧
 Q (.agg #[.int .i64 n144, .int .i64 n145, x146.val]) w143) ∧
 StepT Tryd.prog (Instr.buildSlice 86 2 #[(0, (.int .i64 0)), (1, (.int .i64 0))]) w101 fun r147 w148 =>
 ∃ x149 : Sl, r147 = x149.val ∧
 StepT Tryd.prog (Instr.buildSlice 86 4 #[(0, (.int .i64 1)), (1, (.int .i64 2)), (2, (.int .i64 3)), (3, (.int .i64 4))]) w148 fun r150 w151 =>
 ∃ x152 : Sl, r150 = x152.val ∧
 Trip Tryd.prog 65 #[.pointer (some (a_0.add 0)), x152.val] w151 fun r153 w154 =>
 ∃ n155 : Int, r153 = .int .i64 n155 ∧
 Trip Tryd.prog 126 #[.pointer (some (a_0.add 0)), .agg #[x1_0.val, x1_1.val], x_2.val, x149.val, .int .i64 n115] w154 fun r156 w157 =>
 ∃ x158 : Sl, r156 = x158.val ∧
 Trip Tryd.prog 55 #[.int .i64 n155, .int .i64 0, x158.val] w157 fun r159 w160 =>
 ∃ n161 : Int, ∃ n162 : Int, ∃ x163 : Sl, r159 = .agg #[.int .i64 n161, .int .i64 n162, x163.val] ∧
 Q (.agg #[.int .i64 n161, .int .i64 n162, x163.val]) w160))))) ∧
 ((decide (n3 = 0)) = false →
 Trip Tryd.prog 136 #[x1_0.val, .int .i64 n_3] w2 fun r164 w165 =>
 ∃ x166 : Sl, r164 = x166.val ∧
 ((decide ((x166.n : Int) > 0)) = true →
 Trip Tryd.prog 53 #[.pointer (some (a_0.add 0)), .int .i64 (x166.n : Int)] w165 fun r167 w168 =>
 ∃ n169 : Int, r167 = .int .i64 n169 ∧
 IxOk x166 n169 ∧
 ∃ n170 : Int, w168.cell? ((elA x166 n169 1).add 0) = some (.int .i64 n170) ∧
 ∃ n171 : Int, Wr .i64 (n_4 - 1) n171 ∧
 Trip Tryd.prog 137 #[x1_0.val, .int .i64 n170] w168 fun r172 w173 =>
 ∃ x174 : Sl, r172 = x174.val ∧
 Sub w168 w173 ∧
 Trip Tryd.prog 126 #[.pointer (some (a_0.add 0)), .agg #[x1_0.val, x1_1.val], x_2.val, x174.val, .int .i64 n171] w173 fun r175 w176 =>
 ∃ x177 : Sl, r175 = x177.val ∧
 Trip Tryd.prog 55 #[.int .i64 6, .int .i64 n170, x177.val] w176 fun r178 w179 =>
 ∃ n180 : Int, ∃ n181 : Int, ∃ x182 : Sl, r178 = .agg #[.int .i64 n180, .int .i64 n181, x182.val] ∧
 Q (.agg #[.int .i64 n180, .int .i64 n181, x182.val]) w179) ∧
 ((decide ((x166.n : Int) > 0)) = false →
 ((decide (n_3 > 0)) = true →
 Trip Tryd.prog 120 #[.pointer (some (a_0.add 0)), .agg #[x1_0.val, x1_1.val], x_2.val, .int .i64 n_3] w165 fun r183 w184 =>
 ∃ n185 : Int, ∃ n186 : Int, ∃ x187 : Sl, r183 = .agg #[.int .i64 n185, .int .i64 n186, x187.val] ∧
 Q (.agg #[.int .i64 n185, .int .i64 n186, x187.val]) w184) ∧
 ((decide (n_3 > 0)) = false →
 Trip Tryd.prog 53 #[.pointer (some (a_0.add 0)), .int .i64 3] w165 fun r188 w189 =>
 ∃ n190 : Int, r188 = .int .i64 n190 ∧
 ((decide (n190 = 0)) = true →
 StepT Tryd.prog (Instr.buildSlice 86 1 #[(0, (.int .i64 0))]) w189 fun r191 w192 =>
 ∃ x193 : Sl, r191 = x193.val ∧
 ∃ n194 : Int, Wr .i64 (n_4 - 1) n194 ∧
 Trip Tryd.prog 126 #[.pointer (some (a_0.add 0)), .agg #[x1_0.val, x1_1.val], x_2.val, x193.val, .int .i64 n194] w192 fun r195 w196 =>
 ∃ x197 : Sl, r195 = x197.val ∧
 Trip Tryd.prog 55 #[.int .i64 5, .int .i64 0, x197.val] w196 fun r198 w199 =>
 ∃ n200 : Int, ∃ n201 : Int, ∃ x202 : Sl, r198 = .agg #[.int .i64 n200, .int .i64 n201, x202.val] ∧
 Q (.agg #[.int .i64 n200, .int .i64 n201, x202.val]) w199) ∧
 ((decide (n190 = 0)) = false →
 ∃ n203 : Int, Wr .i64 (n_4 - 1) n203 ∧
 (StepT Tryd.prog (Instr.buildSlice 86 4 #[(0, (.int .i64 1)), (1, (.int .i64 2)), (2, (.int .i64 3)), (3, (.int .i64 4))]) w189 fun r204 w205 =>
 ∃ x206 : Sl, r204 = x206.val ∧
 (Trip Tryd.prog 65 #[.pointer (some (a_0.add 0)), x206.val] w205 fun r207 w208 =>
 ∃ n209 : Int, r207 = .int .i64 n209 ∧
 StepT Tryd.prog (Instr.buildSlice 86 2 #[(0, (.int .i64 0)), (1, (.int .i64 0))]) w208 fun r210 w211 =>
 ∃ x212 : Sl, r210 = x212.val ∧
 Trip Tryd.prog 126 #[.pointer (some (a_0.add 0)), .agg #[x1_0.val, x1_1.val], x_2.val, x212.val, .int .i64 n203] w211 fun r213 w214 =>
 ∃ x215 : Sl, r213 = x215.val ∧
 Trip Tryd.prog 55 #[.int .i64 n209, .int .i64 0, x215.val] w214 fun r216 w217 =>
 ∃ n218 : Int, ∃ n219 : Int, ∃ x220 : Sl, r216 = .agg #[.int .i64 n218, .int .i64 n219, x220.val] ∧
 Q (.agg #[.int .i64 n218, .int .i64 n219, x220.val]) w217) ∧
 StepT Tryd.prog (Instr.buildSlice 86 2 #[(0, (.int .i64 0)), (1, (.int .i64 0))]) w205 fun r221 w222 =>
 ∃ x223 : Sl, r221 = x223.val ∧
 Trip Tryd.prog 65 #[.pointer (some (a_0.add 0)), x206.val] w222 fun r224 w225 =>
 ∃ n226 : Int, r224 = .int .i64 n226 ∧
 Trip Tryd.prog 126 #[.pointer (some (a_0.add 0)), .agg #[x1_0.val, x1_1.val], x_2.val, x223.val, .int .i64 n203] w225 fun r227 w228 =>
 ∃ x229 : Sl, r227 = x229.val ∧
 Trip Tryd.prog 55 #[.int .i64 n226, .int .i64 0, x229.val] w228 fun r230 w231 =>
 ∃ n232 : Int, ∃ n233 : Int, ∃ x234 : Sl, r230 = .agg #[.int .i64 n232, .int .i64 n233, x234.val] ∧
 Q (.agg #[.int .i64 n232, .int .i64 n233, x234.val]) w231) ∧
 StepT Tryd.prog (Instr.buildSlice 86 2 #[(0, (.int .i64 0)), (1, (.int .i64 0))]) w189 fun r235 w236 =>
 ∃ x237 : Sl, r235 = x237.val ∧
 StepT Tryd.prog (Instr.buildSlice 86 4 #[(0, (.int .i64 1)), (1, (.int .i64 2)), (2, (.int .i64 3)), (3, (.int .i64 4))]) w236 fun r238 w239 =>
 ∃ x240 : Sl, r238 = x240.val ∧
 Trip Tryd.prog 65 #[.pointer (some (a_0.add 0)), x240.val] w239 fun r241 w242 =>
 ∃ n243 : Int, r241 = .int .i64 n243 ∧
 Trip Tryd.prog 126 #[.pointer (some (a_0.add 0)), .agg #[x1_0.val, x1_1.val], x_2.val, x237.val, .int .i64 n203] w242 fun r244 w245 =>
 ∃ x246 : Sl, r244 = x246.val ∧
 Trip Tryd.prog 55 #[.int .i64 n243, .int .i64 0, x246.val] w245 fun r247 w248 =>
 ∃ n249 : Int, ∃ n250 : Int, ∃ x251 : Sl, r247 = .agg #[.int .i64 n249, .int .i64 n250, x251.val] ∧
 Q (.agg #[.int .i64 n249, .int .i64 n250, x251.val]) w248))))
theorem of129 (a_0 : Addr) (x1_0 : Sl) (x1_1 : Sl) (x_2 : Sl) (n_3 : Int) (n_4 : Int) (v : World) (Q : Value → World → Prop) (h : vc129 a_0 x1_0 x1_1 x_2 n_3 n_4 v Q) : Trip Tryd.prog 129 #[.pointer (some (a_0.add 0)), .agg #[x1_0.val, x1_1.val], x_2.val, .int .i64 n_3, .int .i64 n_4] v Q :=
 trip_of_eq (args := [.pt a_0 0, .ag [.sl x1_0, .sl x1_1], .sl x_2, .num .i64 n_3, .num .i64 n_4]) (A := ⟨[(3, [(11, .int .i64)], [])], [], [(6, []), (10, [7]), (15, [])], [], psG⟩) Tryd.func129 (by kernel_rfl) (by kernel_rfl) (by kernel_rfl : vc129 a_0 x1_0 x1_1 x_2 n_3 n_4 v Q = _) h

def vc130 (a_0 : Addr) (v : World) (Q : Value → World → Prop) : Prop :=
 Trip Tryd.prog 53 #[.pointer (some (a_0.add 0)), .int .i64 6] v fun r1 w2 =>
 ∃ n3 : Int, r1 = .int .i64 n3 ∧
 Trip Tryd.prog 53 #[.pointer (some (a_0.add 0)), .int .i64 6] w2 fun r4 w5 =>
 ∃ n6 : Int, r4 = .int .i64 n6 ∧
 Trip Tryd.prog 53 #[.pointer (some (a_0.add 0)), .int .i64 40] w5 fun r7 w8 =>
 ∃ n9 : Int, r7 = .int .i64 n9 ∧
 StepT Tryd.prog (Instr.buildSlice 86 10 #[(0, (.int .i64 n3)), (1, (.int .i64 n6)), (2, (.int .i64 0)), (3, (.int .i64 1)), (4, (.int .i64 2)), (5, (.int .i64 (-1))), (6, (.int .i64 3)), (7, (.int .i64 n9)), (8, (.int .i64 999)), (9, (.int .i64 (-998)))]) w8 fun r10 w11 =>
 ∃ x12 : Sl, r10 = x12.val ∧
 Trip Tryd.prog 65 #[.pointer (some (a_0.add 0)), x12.val] w11 fun r13 w14 =>
 ∃ n15 : Int, r13 = .int .i64 n15 ∧
 Q (.int .i64 n15) w14
theorem of130 (a_0 : Addr) (v : World) (Q : Value → World → Prop) (h : vc130 a_0 v Q) : Trip Tryd.prog 130 #[.pointer (some (a_0.add 0))] v Q :=
 trip_of_eq (args := [.pt a_0 0]) (A := ⟨[], [], [], [], psG⟩) Tryd.func130 (by kernel_rfl) (by kernel_rfl) (by kernel_rfl : vc130 a_0 v Q = _) h

def vc131 (x_0 : Sl) (v : World) (Q : Value → World → Prop) : Prop :=
 StepT Tryd.prog (Instr.buildSlice 86 0 #[]) v fun r1 w2 =>
 ∃ x3 : Sl, r1 = x3.val ∧
 StepT Tryd.prog (Builtin.append_ #[86, 86] 86 #[(x3.val), (x_0.val)]) w2 fun r4 w5 =>
 ∃ x6 : Sl, r4 = x6.val ∧
 Q (x6.val) w5
theorem of131 (x_0 : Sl) (v : World) (Q : Value → World → Prop) (h : vc131 x_0 v Q) : Trip Tryd.prog 131 #[x_0.val] v Q :=
 trip_of_eq (args := [.sl x_0]) (A := ⟨[], [], [], [], psG⟩) Tryd.func131 (by kernel_rfl) (by kernel_rfl) (by kernel_rfl : vc131 x_0 v Q = _) h

def vc132 (x_0 : Sl) (n_1 : Int) (v : World) (Q : Value → World → Prop) : Prop :=
 StepT Tryd.prog (Instr.buildSlice 86 0 #[]) v fun r1 w2 =>
 ∃ x3 : Sl, r1 = x3.val ∧
 ∃ I4 : Sl → Int → World → Prop, ∃ m5 : Sl → Int → World → Nat, I4 x3 0 w2 ∧
 ∀ x6 : Sl, ∀ n7 : Int, ∀ w8 : World, I4 x6 n7 w8 →
 ((decide (n7 < (x_0.n : Int))) = true →
 IxOk x_0 n7 ∧
 ∃ n9 : Int, w8.cell? ((elA x_0 n7 1).add 0) = some (.int .i64 n9) ∧
 ((decide (n9 = n_1)) = true →
 StepT Tryd.prog (Instr.buildSlice 86 1 #[(0, (.int .i64 n7))]) w8 fun r10 w11 =>
 ∃ x12 : Sl, r10 = x12.val ∧
 StepT Tryd.prog (Builtin.append_ #[86, 86] 86 #[(x6.val), (x12.val)]) w11 fun r13 w14 =>
 ∃ x15 : Sl, r13 = x15.val ∧
 ∃ n16 : Int, Wr .i64 (n7 + 1) n16 ∧
 I4 x15 n16 w14 ∧
 m5 x15 n16 w14 < m5 x6 n7 w8) ∧
 ((decide (n9 = n_1)) = false →
 ∃ n17 : Int, Wr .i64 (n7 + 1) n17 ∧
 I4 x6 n17 w8 ∧
 m5 x6 n17 w8 < m5 x6 n7 w8)) ∧
 ((decide (n7 < (x_0.n : Int))) = false →
 Q (x6.val) w8)
theorem of132 (x_0 : Sl) (n_1 : Int) (v : World) (Q : Value → World → Prop) (h : vc132 x_0 n_1 v Q) : Trip Tryd.prog 132 #[x_0.val, .int .i64 n_1] v Q :=
 trip_of_eq (args := [.sl x_0, .num .i64 n_1]) (A := ⟨[(3, [(5, .sl), (6, .int .i64)], [])], [], [], [], psG⟩) Tryd.func132 (by kernel_rfl) (by kernel_rfl) (by kernel_rfl : vc132 x_0 n_1 v Q = _) h

def vc133 (x0_0 : Sl) (x0_1 : Sl) (x_1 : Sl) (n_2 : Int) (v : World) (Q : Value → World → Prop) : Prop :=
 ∃ q1 : Bool, (Trip Tryd.prog 135 #[x0_0.val, .int .i64 n_2] v fun r2 w3 => r2 = .bool q1 ∧ Sub v w3) ∧
 ((!q1) = false →
 Trip Tryd.prog 138 #[.agg #[x0_0.val, x0_1.val], .int .i64 n_2] v fun r4 w5 =>
 ∃ x6 : Sl, r4 = x6.val ∧
 ∃ q7 : Bool, ((decide ((x6.n : Int) > 0)) = false →
 (Trip Tryd.prog 139 #[x_1.val, .int .i64 n_2] w5 fun r8 w9 => r8 = .bool q7 ∧ Sub w5 w9)) ∧
 Q (.bool ((decide ((x6.n : Int) > 0)) || q7)) w5) ∧
 ((!q1) = true →
 Q (.bool true) v)
theorem of133 (x0_0 : Sl) (x0_1 : Sl) (x_1 : Sl) (n_2 : Int) (v : World) (Q : Value → World → Prop) (h : vc133 x0_0 x0_1 x_1 n_2 v Q) : Trip Tryd.prog 133 #[.agg #[x0_0.val, x0_1.val], x_1.val, .int .i64 n_2] v Q :=
 trip_of_eq (args := [.ag [.sl x0_0, .sl x0_1], .sl x_1, .num .i64 n_2]) (A := ⟨[], [], [], [], psG⟩) Tryd.func133 (by kernel_rfl) (by kernel_rfl) (by kernel_rfl : vc133 x0_0 x0_1 x_1 n_2 v Q = _) h

def vc134 (a_0 : Addr) (x1_0 : Sl) (x1_1 : Sl) (n_2 : Int) (v : World) (Q : Value → World → Prop) : Prop :=
 Trip Tryd.prog 136 #[x1_0.val, .int .i64 n_2] v fun r1 w2 =>
 ∃ x3 : Sl, r1 = x3.val ∧
 ((decide ((x3.n : Int) > 0)) = true →
 IxOk x3 0 ∧
 ∃ n4 : Int, w2.cell? ((elA x3 0 1).add 0) = some (.int .i64 n4) ∧
 ((decide ((x3.n : Int) > 1)) = true →
 Trip Tryd.prog 53 #[.pointer (some (a_0.add 0)), .int .i64 4] w2 fun r5 w6 =>
 ∃ n7 : Int, r5 = .int .i64 n7 ∧
 ((decide (n7 = 0)) = true →
 IxOk x3 1 ∧
 ∃ n8 : Int, w6.cell? ((elA x3 1 1).add 0) = some (.int .i64 n8) ∧
 Trip Tryd.prog 137 #[x1_0.val, .int .i64 n8] w6 fun r9 w10 =>
 ∃ x11 : Sl, r9 = x11.val ∧
 ∃ q12 : Bool, (Trip Tryd.prog 139 #[x11.val, .int .i64 n_2] w10 fun r13 w14 => r13 = .bool q12 ∧ Sub w10 w14) ∧
 (q12 = true →
 IxOk x3 0 ∧
 ∃ n15 : Int, w10.cell? ((elA x3 0 1).add 0) = some (.int .i64 n15) ∧
 StepT Tryd.prog (Instr.buildSlice 27 0 #[]) w10 fun r16 w17 =>
 ∃ x18 : Sl, r16 = x18.val ∧
 Trip Tryd.prog 137 #[x1_0.val, .int .i64 n15] w17 fun r19 w20 =>
 ∃ x21 : Sl, r19 = x21.val ∧
 ∃ I22 : Sl → Int → World → Prop, ∃ m23 : Sl → Int → World → Nat, I22 x18 0 w20 ∧
 ∀ x24 : Sl, ∀ n25 : Int, ∀ w26 : World, I22 x24 n25 w26 →
 ((decide (n25 < (x21.n : Int))) = true →
 IxOk x21 n25 ∧
 ∃ n27 : Int, w26.cell? ((elA x21 n25 1).add 0) = some (.int .i64 n27) ∧
 Trip Tryd.prog 134 #[.pointer (some (a_0.add 0)), .agg #[x1_0.val, x1_1.val], .int .i64 n27] w26 fun r28 w29 =>
 ∃ n30 : Int, ∃ n31 : Int, ∃ x32 : Sl, r28 = .agg #[.int .i64 n30, .int .i64 n31, x32.val] ∧
 StepT Tryd.prog (Instr.buildSlice 27 1 #[(0, (.agg #[.int .i64 n30, .int .i64 n31, x32.val]))]) w29 fun r33 w34 =>
 ∃ x35 : Sl, r33 = x35.val ∧
 StepT Tryd.prog (Builtin.append_ #[27, 27] 27 #[(x24.val), (x35.val)]) w34 fun r36 w37 =>
 ∃ x38 : Sl, r36 = x38.val ∧
 ∃ n39 : Int, Wr .i64 (n25 + 1) n39 ∧
 ((.sl x1_0 : SV) = .sl x1_0) ∧
 ((.sl x1_1 : SV) = .sl x1_1) ∧
 ((.num .i64 0 : SV) = .num .i64 0) ∧
 ((.num .i64 0 : SV) = .num .i64 0) ∧
 ((.sl (Sl.mk none 0 0) : SV) = .sl (Sl.mk none 0 0)) ∧
 I22 x38 n39 w37 ∧
 m23 x38 n39 w37 < m23 x24 n25 w26) ∧
 ((decide (n25 < (x21.n : Int))) = false →
 Trip Tryd.prog 55 #[.int .i64 6, .int .i64 n15, x24.val] w26 fun r40 w41 =>
 ∃ n42 : Int, ∃ n43 : Int, ∃ x44 : Sl, r40 = .agg #[.int .i64 n42, .int .i64 n43, x44.val] ∧
 Q (.agg #[.int .i64 n42, .int .i64 n43, x44.val]) w41)) ∧
 (q12 = false →
 StepT Tryd.prog (Instr.buildSlice 27 0 #[]) w10 fun r45 w46 =>
 ∃ x47 : Sl, r45 = x47.val ∧
 Trip Tryd.prog 137 #[x1_0.val, .int .i64 n8] w46 fun r48 w49 =>
 ∃ x50 : Sl, r48 = x50.val ∧
 ∃ I51 : Sl → Int → World → Prop, ∃ m52 : Sl → Int → World → Nat, I51 x47 0 w49 ∧
 ∀ x53 : Sl, ∀ n54 : Int, ∀ w55 : World, I51 x53 n54 w55 →
 ((decide (n54 < (x50.n : Int))) = true →
 IxOk x50 n54 ∧
 ∃ n56 : Int, w55.cell? ((elA x50 n54 1).add 0) = some (.int .i64 n56) ∧
 Trip Tryd.prog 134 #[.pointer (some (a_0.add 0)), .agg #[x1_0.val, x1_1.val], .int .i64 n56] w55 fun r57 w58 =>
 ∃ n59 : Int, ∃ n60 : Int, ∃ x61 : Sl, r57 = .agg #[.int .i64 n59, .int .i64 n60, x61.val] ∧
 StepT Tryd.prog (Instr.buildSlice 27 1 #[(0, (.agg #[.int .i64 n59, .int .i64 n60, x61.val]))]) w58 fun r62 w63 =>
 ∃ x64 : Sl, r62 = x64.val ∧
 StepT Tryd.prog (Builtin.append_ #[27, 27] 27 #[(x53.val), (x64.val)]) w63 fun r65 w66 =>
 ∃ x67 : Sl, r65 = x67.val ∧
 ∃ n68 : Int, Wr .i64 (n54 + 1) n68 ∧
 ((.sl x1_0 : SV) = .sl x1_0) ∧
 ((.sl x1_1 : SV) = .sl x1_1) ∧
 ((.num .i64 0 : SV) = .num .i64 0) ∧
 ((.num .i64 0 : SV) = .num .i64 0) ∧
 ((.sl (Sl.mk none 0 0) : SV) = .sl (Sl.mk none 0 0)) ∧
 I51 x67 n68 w66 ∧
 m52 x67 n68 w66 < m52 x53 n54 w55) ∧
 ((decide (n54 < (x50.n : Int))) = false →
 Trip Tryd.prog 55 #[.int .i64 6, .int .i64 n8, x53.val] w55 fun r69 w70 =>
 ∃ n71 : Int, ∃ n72 : Int, ∃ x73 : Sl, r69 = .agg #[.int .i64 n71, .int .i64 n72, x73.val] ∧
 Q (.agg #[.int .i64 n71, .int .i64 n72, x73.val]) w70))) ∧
 ((decide (n7 = 0)) = false →
 Trip Tryd.prog 137 #[x1_0.val, .int .i64 n4] w6 fun r74 w75 =>
 ∃ x76 : Sl, r74 = x76.val ∧
 ∃ q77 : Bool, (Trip Tryd.prog 139 #[x76.val, .int .i64 n_2] w75 fun r78 w79 => r78 = .bool q77 ∧ Sub w75 w79) ∧
 (q77 = true →
 IxOk x3 0 ∧
 ∃ n80 : Int, w75.cell? ((elA x3 0 1).add 0) = some (.int .i64 n80) ∧
 StepT Tryd.prog (Instr.buildSlice 27 0 #[]) w75 fun r81 w82 =>
 ∃ x83 : Sl, r81 = x83.val ∧
 Trip Tryd.prog 137 #[x1_0.val, .int .i64 n80] w82 fun r84 w85 =>
 ∃ x86 : Sl, r84 = x86.val ∧
 ∃ I87 : Sl → Int → World → Prop, ∃ m88 : Sl → Int → World → Nat, I87 x83 0 w85 ∧
 ∀ x89 : Sl, ∀ n90 : Int, ∀ w91 : World, I87 x89 n90 w91 →
 ((decide (n90 < (x86.n : Int))) = true →
 IxOk x86 n90 ∧
 ∃ n92 : Int, w91.cell? ((elA x86 n90 1).add 0) = some (.int .i64 n92) ∧
 Trip Tryd.prog 134 #[.pointer (some (a_0.add 0)), .agg #[x1_0.val, x1_1.val], .int .i64 n92] w91 fun r93 w94 =>
 ∃ n95 : Int, ∃ n96 : Int, ∃ x97 : Sl, r93 = .agg #[.int .i64 n95, .int .i64 n96, x97.val] ∧
 StepT Tryd.prog (Instr.buildSlice 27 1 #[(0, (.agg #[.int .i64 n95, .int .i64 n96, x97.val]))]) w94 fun r98 w99 =>
 ∃ x100 : Sl, r98 = x100.val ∧
 StepT Tryd.prog (Builtin.append_ #[27, 27] 27 #[(x89.val), (x100.val)]) w99 fun r101 w102 =>
 ∃ x103 : Sl, r101 = x103.val ∧
 ∃ n104 : Int, Wr .i64 (n90 + 1) n104 ∧
 ((.sl x1_0 : SV) = .sl x1_0) ∧
 ((.sl x1_1 : SV) = .sl x1_1) ∧
 ((.num .i64 0 : SV) = .num .i64 0) ∧
 ((.num .i64 0 : SV) = .num .i64 0) ∧
 ((.sl (Sl.mk none 0 0) : SV) = .sl (Sl.mk none 0 0)) ∧
 I87 x103 n104 w102 ∧
 m88 x103 n104 w102 < m88 x89 n90 w91) ∧
 ((decide (n90 < (x86.n : Int))) = false →
 Trip Tryd.prog 55 #[.int .i64 6, .int .i64 n80, x89.val] w91 fun r105 w106 =>
 ∃ n107 : Int, ∃ n108 : Int, ∃ x109 : Sl, r105 = .agg #[.int .i64 n107, .int .i64 n108, x109.val] ∧
 Q (.agg #[.int .i64 n107, .int .i64 n108, x109.val]) w106)) ∧
 (q77 = false →
 StepT Tryd.prog (Instr.buildSlice 27 0 #[]) w75 fun r110 w111 =>
 ∃ x112 : Sl, r110 = x112.val ∧
 Trip Tryd.prog 137 #[x1_0.val, .int .i64 n4] w111 fun r113 w114 =>
 ∃ x115 : Sl, r113 = x115.val ∧
 ∃ I116 : Sl → Int → World → Prop, ∃ m117 : Sl → Int → World → Nat, I116 x112 0 w114 ∧
 ∀ x118 : Sl, ∀ n119 : Int, ∀ w120 : World, I116 x118 n119 w120 →
 ((decide (n119 < (x115.n : Int))) = true →
 IxOk x115 n119 ∧
 ∃ n121 : Int, w120.cell? ((elA x115 n119 1).add 0) = some (.int .i64 n121) ∧
 Trip Tryd.prog 134 #[.pointer (some (a_0.add 0)), .agg #[x1_0.val, x1_1.val], .int .i64 n121] w120 fun r122 w123 =>
 ∃ n124 : Int, ∃ n125 : Int, ∃ x126 : Sl, r122 = .agg #[.int .i64 n124, .int .i64 n125, x126.val] ∧
 StepT Tryd.prog (Instr.buildSlice 27 1 #[(0, (.agg #[.int .i64 n124, .int .i64 n125, x126.val]))]) w123 fun r127 w128 =>
 ∃ x129 : Sl, r127 = x129.val ∧
 StepT Tryd.prog (Builtin.append_ #[27, 27] 27 #[(x118.val), (x129.val)]) w128 fun r130 w131 =>
 ∃ x132 : Sl, r130 = x132.val ∧
 ∃ n133 : Int, Wr .i64 (n119 + 1) n133 ∧
 ((.sl x1_0 : SV) = .sl x1_0) ∧
 ((.sl x1_1 : SV) = .sl x1_1) ∧
 ((.num .i64 0 : SV) = .num .i64 0) ∧
 ((.num .i64 0 : SV) = .num .i64 0) ∧
 ((.sl (Sl.mk none 0 0) : SV) = .sl (Sl.mk none 0 0)) ∧
 I116 x132 n133 w131 ∧
 m117 x132 n133 w131 < m117 x118 n119 w120) ∧
 ((decide (n119 < (x115.n : Int))) = false →
 Trip Tryd.prog 55 #[.int .i64 6, .int .i64 n4, x118.val] w120 fun r134 w135 =>
 ∃ n136 : Int, ∃ n137 : Int, ∃ x138 : Sl, r134 = .agg #[.int .i64 n136, .int .i64 n137, x138.val] ∧
 Q (.agg #[.int .i64 n136, .int .i64 n137, x138.val]) w135)))) ∧
 ((decide ((x3.n : Int) > 1)) = false →
 Trip Tryd.prog 137 #[x1_0.val, .int .i64 n4] w2 fun r139 w140 =>
 ∃ x141 : Sl, r139 = x141.val ∧
 ∃ q142 : Bool, (Trip Tryd.prog 139 #[x141.val, .int .i64 n_2] w140 fun r143 w144 => r143 = .bool q142 ∧ Sub w140 w144) ∧
 (q142 = true →
 IxOk x3 0 ∧
 ∃ n145 : Int, w140.cell? ((elA x3 0 1).add 0) = some (.int .i64 n145) ∧
 StepT Tryd.prog (Instr.buildSlice 27 0 #[]) w140 fun r146 w147 =>
 ∃ x148 : Sl, r146 = x148.val ∧
 Trip Tryd.prog 137 #[x1_0.val, .int .i64 n145] w147 fun r149 w150 =>
 ∃ x151 : Sl, r149 = x151.val ∧
 ∃ I152 : Sl → Int → World → Prop, ∃ m153 : Sl → Int → World → Nat, I152 x148 0 w150 ∧
 ∀ x154 : Sl, ∀ n155 : Int, ∀ w156 : World, I152 x154 n155 w156 →
 ((decide (n155 < (x151.n : Int))) = true →
 IxOk x151 n155 ∧
 ∃ n157 : Int, w156.cell? ((elA x151 n155 1).add 0) = some (.int .i64 n157) ∧
 Trip Tryd.prog 134 #[.pointer (some (a_0.add 0)), .agg #[x1_0.val, x1_1.val], .int .i64 n157] w156 fun r158 w159 =>
 ∃ n160 : Int, ∃ n161 : Int, ∃ x162 : Sl, r158 = .agg #[.int .i64 n160, .int .i64 n161, x162.val] ∧
 StepT Tryd.prog (Instr.buildSlice 27 1 #[(0, (.agg #[.int .i64 n160, .int .i64 n161, x162.val]))]) w159 fun r163 w164 =>
 ∃ x165 : Sl, r163 = x165.val ∧
 StepT Tryd.prog (Builtin.append_ #[27, 27] 27 #[(x154.val), (x165.val)]) w164 fun r166 w167 =>
 ∃ x168 : Sl, r166 = x168.val ∧
 ∃ n169 : Int, Wr .i64 (n155 + 1) n169 ∧
 ((.sl x1_0 : SV) = .sl x1_0) ∧
 ((.sl x1_1 : SV) = .sl x1_1) ∧
 ((.num .i64 0 : SV) = .num .i64 0) ∧
 ((.num .i64 0 : SV) = .num .i64 0) ∧
 ((.sl (Sl.mk none 0 0) : SV) = .sl (Sl.mk none 0 0)) ∧
 I152 x168 n169 w167 ∧
 m153 x168 n169 w167 < m153 x154 n155 w156) ∧
 ((decide (n155 < (x151.n : Int))) = false →
 Trip Tryd.prog 55 #[.int .i64 6, .int .i64 n145, x154.val] w156 fun r170 w171 =>
 ∃ n172 : Int, ∃ n173 : Int, ∃ x174 : Sl, r170 = .agg #[.int .i64 n172, .int .i64 n173, x174.val] ∧
 Q (.agg #[.int .i64 n172, .int .i64 n173, x174.val]) w171)) ∧
 (q142 = false →
 StepT Tryd.prog (Instr.buildSlice 27 0 #[]) w140 fun r175 w176 =>
 ∃ x177 : Sl, r175 = x177.val ∧
 Trip Tryd.prog 137 #[x1_0.val, .int .i64 n4] w176 fun r178 w179 =>
 ∃ x180 : Sl, r178 = x180.val ∧
 ∃ I181 : Sl → Int → World → Prop, ∃ m182 : Sl → Int → World → Nat, I181 x177 0 w179 ∧
 ∀ x183 : Sl, ∀ n184 : Int, ∀ w185 : World, I181 x183 n184 w185 →
 ((decide (n184 < (x180.n : Int))) = true →
 IxOk x180 n184 ∧
 ∃ n186 : Int, w185.cell? ((elA x180 n184 1).add 0) = some (.int .i64 n186) ∧
 Trip Tryd.prog 134 #[.pointer (some (a_0.add 0)), .agg #[x1_0.val, x1_1.val], .int .i64 n186] w185 fun r187 w188 =>
 ∃ n189 : Int, ∃ n190 : Int, ∃ x191 : Sl, r187 = .agg #[.int .i64 n189, .int .i64 n190, x191.val] ∧
 StepT Tryd.prog (Instr.buildSlice 27 1 #[(0, (.agg #[.int .i64 n189, .int .i64 n190, x191.val]))]) w188 fun r192 w193 =>
 ∃ x194 : Sl, r192 = x194.val ∧
 StepT Tryd.prog (Builtin.append_ #[27, 27] 27 #[(x183.val), (x194.val)]) w193 fun r195 w196 =>
 ∃ x197 : Sl, r195 = x197.val ∧
 ∃ n198 : Int, Wr .i64 (n184 + 1) n198 ∧
 ((.sl x1_0 : SV) = .sl x1_0) ∧
 ((.sl x1_1 : SV) = .sl x1_1) ∧
 ((.num .i64 0 : SV) = .num .i64 0) ∧
 ((.num .i64 0 : SV) = .num .i64 0) ∧
 ((.sl (Sl.mk none 0 0) : SV) = .sl (Sl.mk none 0 0)) ∧
 I181 x197 n198 w196 ∧
 m182 x197 n198 w196 < m182 x183 n184 w185) ∧
 ((decide (n184 < (x180.n : Int))) = false →
 Trip Tryd.prog 55 #[.int .i64 6, .int .i64 n4, x183.val] w185 fun r199 w200 =>
 ∃ n201 : Int, ∃ n202 : Int, ∃ x203 : Sl, r199 = .agg #[.int .i64 n201, .int .i64 n202, x203.val] ∧
 Q (.agg #[.int .i64 n201, .int .i64 n202, x203.val]) w200)))) ∧
 ((decide ((x3.n : Int) > 0)) = false →
 Trip Tryd.prog 138 #[.agg #[x1_0.val, x1_1.val], .int .i64 n_2] w2 fun r204 w205 =>
 ∃ x206 : Sl, r204 = x206.val ∧
 (((decide (n_2 > 0)) && (decide ((x206.n : Int) > 0))) = true →
 Trip Tryd.prog 53 #[.pointer (some (a_0.add 0)), .int .i64 (x206.n : Int)] w205 fun r207 w208 =>
 ∃ n209 : Int, r207 = .int .i64 n209 ∧
 IxOk x206 n209 ∧
 ∃ n210 : Int, w208.cell? ((elA x206 n209 1).add 0) = some (.int .i64 n210) ∧
 IxOk x1_1 n210 ∧
 ∃ x211 : Sl, w208.cell? ((elA x1_1 n210 5).add 0) = some (x211.val) ∧
 StepT Tryd.prog (Instr.buildSlice 27 0 #[]) w208 fun r212 w213 =>
 ∃ x214 : Sl, r212 = x214.val ∧
 ∃ I215 : Sl → Int → World → Prop, ∃ m216 : Sl → Int → World → Nat, I215 x214 0 w213 ∧
 ∀ x217 : Sl, ∀ n218 : Int, ∀ w219 : World, I215 x217 n218 w219 →
 ∃ n220 : Int, Wr .i64 (n218 + 1) n220 ∧
 ((decide (n220 < (x211.n : Int))) = true →
 IxOk x211 n218 ∧
 ∃ n221 : Int, w219.cell? ((elA x211 n218 1).add 0) = some (.int .i64 n221) ∧
 Trip Tryd.prog 134 #[.pointer (some (a_0.add 0)), .agg #[x1_0.val, x1_1.val], .int .i64 n221] w219 fun r222 w223 =>
 ∃ n224 : Int, ∃ n225 : Int, ∃ x226 : Sl, r222 = .agg #[.int .i64 n224, .int .i64 n225, x226.val] ∧
 StepT Tryd.prog (Instr.buildSlice 27 1 #[(0, (.agg #[.int .i64 n224, .int .i64 n225, x226.val]))]) w223 fun r227 w228 =>
 ∃ x229 : Sl, r227 = x229.val ∧
 StepT Tryd.prog (Builtin.append_ #[27, 27] 27 #[(x217.val), (x229.val)]) w228 fun r230 w231 =>
 ∃ x232 : Sl, r230 = x232.val ∧
 ∃ n233 : Int, Wr .i64 (n218 + 1) n233 ∧
 ((.sl x1_0 : SV) = .sl x1_0) ∧
 ((.sl x1_1 : SV) = .sl x1_1) ∧
 ((.num .i64 0 : SV) = .num .i64 0) ∧
 ((.num .i64 0 : SV) = .num .i64 0) ∧
 ((.sl (Sl.mk none 0 0) : SV) = .sl (Sl.mk none 0 0)) ∧
 I215 x232 n233 w231 ∧
 m216 x232 n233 w231 < m216 x217 n218 w219) ∧
 ((decide (n220 < (x211.n : Int))) = false →
 Trip Tryd.prog 55 #[.int .i64 10, .int .i64 n210, x217.val] w219 fun r234 w235 =>
 ∃ n236 : Int, ∃ n237 : Int, ∃ x238 : Sl, r234 = .agg #[.int .i64 n236, .int .i64 n237, x238.val] ∧
 Q (.agg #[.int .i64 n236, .int .i64 n237, x238.val]) w235)) ∧
 (((decide (n_2 > 0)) && (decide ((x206.n : Int) > 0))) = false →
 Trip Tryd.prog 130 #[.pointer (some (a_0.add 0))] w205 fun r239 w240 =>
 ∃ n241 : Int, r239 = .int .i64 n241 ∧
 Trip Tryd.prog 66 #[.int .i64 n241] w240 fun r242 w243 =>
 ∃ n244 : Int, ∃ n245 : Int, ∃ x246 : Sl, r242 = .agg #[.int .i64 n244, .int .i64 n245, x246.val] ∧
 Q (.agg #[.int .i64 n244, .int .i64 n245, x246.val]) w243))
theorem of134 (a_0 : Addr) (x1_0 : Sl) (x1_1 : Sl) (n_2 : Int) (v : World) (Q : Value → World → Prop) (h : vc134 a_0 x1_0 x1_1 n_2 v Q) : Trip Tryd.prog 134 #[.pointer (some (a_0.add 0)), .agg #[x1_0.val, x1_1.val], .int .i64 n_2] v Q :=
 trip_of_eq (args := [.pt a_0 0, .ag [.sl x1_0, .sl x1_1], .num .i64 n_2]) (A := ⟨[(11, [(9, .sl), (11, .int .i64)], []), (21, [(15, .sl), (16, .int .i64)], [])], [], [(13, []), (23, [])], [], psG⟩) Tryd.func134 (by kernel_rfl) (by kernel_rfl) (by kernel_rfl : vc134 a_0 x1_0 x1_1 n_2 v Q = _) h

def vc135 (x_0 : Sl) (n_1 : Int) (v : World) (Q : Value → World → Prop) : Prop :=
 ∃ q1 : Bool, (Trip Tryd.prog 34 #[.int .i64 n_1, .int .i64 1, .int .i64 (x_0.n : Int)] v fun r2 w3 => r2 = .bool q1 ∧ Sub v w3) ∧
 ∃ n4 : Int, (q1 = true →
 Wr .i64 (n_1 - 1) n4) ∧
 (q1 = true →
 IxOk x_0 n4) ∧
 ∃ x5 : Sl, (q1 = true →
 v.cell? ((elA x_0 n4 3).add 2) = some (x5.val)) ∧
 Q (.bool (q1 && (decide ((x5.n : Int) = 0)))) v
theorem of135 (x_0 : Sl) (n_1 : Int) (v : World) (Q : Value → World → Prop) (h : vc135 x_0 n_1 v Q) : Trip Tryd.prog 135 #[x_0.val, .int .i64 n_1] v Q :=
 trip_of_eq (args := [.sl x_0, .num .i64 n_1]) (A := ⟨[], [], [], [], psG⟩) Tryd.func135 (by kernel_rfl) (by kernel_rfl) (by kernel_rfl : vc135 x_0 n_1 v Q = _) h

def vc136 (x_0 : Sl) (n_1 : Int) (v : World) (Q : Value → World → Prop) : Prop :=
 StepT Tryd.prog (Instr.buildSlice 86 0 #[]) v fun r1 w2 =>
 ∃ x3 : Sl, r1 = x3.val ∧
 ∃ q4 : Bool, (Trip Tryd.prog 34 #[.int .i64 n_1, .int .i64 1, .int .i64 (x_0.n : Int)] w2 fun r5 w6 => r5 = .bool q4 ∧ Sub w2 w6) ∧
 ((!q4) = true →
 Q (x3.val) w2) ∧
 ((!q4) = false →
 ∃ I7 : Sl → Int → World → Prop, ∃ m8 : Sl → Int → World → Nat, I7 x3 0 w2 ∧
 ∀ x9 : Sl, ∀ n10 : Int, ∀ w11 : World, I7 x9 n10 w11 →
 ∃ n12 : Int, Wr .i64 (n_1 - 1) n12 ∧
 IxOk x_0 n12 ∧
 ∃ x13 : Sl, w11.cell? ((elA x_0 n12 3).add 2) = some (x13.val) ∧
 ((decide (n10 < (x13.n : Int))) = true →
 ∃ n14 : Int, Wr .i64 (n_1 - 1) n14 ∧
 ∃ n15 : Int, (Trip Tryd.prog 140 #[x_0.val, .int .i64 n14] w11 fun r16 w17 => r16 = .int .i64 n15 ∧ Sub w11 w17) ∧
 ∃ n18 : Int, Wr .i64 (n15 + n10) n18 ∧
 StepT Tryd.prog (Instr.buildSlice 86 1 #[(0, (.int .i64 n18))]) w11 fun r19 w20 =>
 ∃ x21 : Sl, r19 = x21.val ∧
 StepT Tryd.prog (Builtin.append_ #[86, 86] 86 #[(x9.val), (x21.val)]) w20 fun r22 w23 =>
 ∃ x24 : Sl, r22 = x24.val ∧
 ∃ n25 : Int, Wr .i64 (n10 + 1) n25 ∧
 I7 x24 n25 w23 ∧
 m8 x24 n25 w23 < m8 x9 n10 w11) ∧
 ((decide (n10 < (x13.n : Int))) = false →
 Q (x9.val) w11))
theorem of136 (x_0 : Sl) (n_1 : Int) (v : World) (Q : Value → World → Prop) (h : vc136 x_0 n_1 v Q) : Trip Tryd.prog 136 #[x_0.val, .int .i64 n_1] v Q :=
 trip_of_eq (args := [.sl x_0, .num .i64 n_1]) (A := ⟨[(5, [(5, .sl), (6, .int .i64)], [])], [], [], [], psG⟩) Tryd.func136 (by kernel_rfl) (by kernel_rfl) (by kernel_rfl : vc136 x_0 n_1 v Q = _) h

def vc137 (x_0 : Sl) (n_1 : Int) (v : World) (Q : Value → World → Prop) : Prop :=
 ∃ n1 : Int, (Trip Tryd.prog 141 #[x_0.val, .int .i64 n_1] v fun r2 w3 => r2 = .int .i64 n1 ∧ Sub v w3) ∧
 ((decide (n1 < 1)) = true →
 StepT Tryd.prog (Instr.buildSlice 86 0 #[]) v fun r4 w5 =>
 ∃ x6 : Sl, r4 = x6.val ∧
 Q (x6.val) w5) ∧
 ((decide (n1 < 1)) = false →
 ∃ n7 : Int, Wr .i64 (n1 - 1) n7 ∧
 IxOk x_0 n7 ∧
 ∃ x8 : Sl, v.cell? ((elA x_0 n7 3).add 2) = some (x8.val) ∧
 ∃ n9 : Int, Wr .i64 (n1 - 1) n9 ∧
 ∃ n10 : Int, (Trip Tryd.prog 140 #[x_0.val, .int .i64 n9] v fun r11 w12 => r11 = .int .i64 n10 ∧ Sub v w12) ∧
 ∃ n13 : Int, Wr .i64 (n_1 - n10) n13 ∧
 IxOk x8 n13 ∧
 ∃ x14 : Sl, v.cell? ((elA x8 n13 1).add 0) = some (x14.val) ∧
 Q (x14.val) v)
theorem of137 (x_0 : Sl) (n_1 : Int) (v : World) (Q : Value → World → Prop) (h : vc137 x_0 n_1 v Q) : Trip Tryd.prog 137 #[x_0.val, .int .i64 n_1] v Q :=
 trip_of_eq (args := [.sl x_0, .num .i64 n_1]) (A := ⟨[], [], [], [], psG⟩) Tryd.func137 (by kernel_rfl) (by kernel_rfl) (by kernel_rfl : vc137 x_0 n_1 v Q = _) h

def vc138 (x0_0 : Sl) (x0_1 : Sl) (n_1 : Int) (v : World) (Q : Value → World → Prop) : Prop :=
 StepT Tryd.prog (Instr.buildSlice 86 0 #[]) v fun r1 w2 =>
 ∃ x3 : Sl, r1 = x3.val ∧
 ∃ I4 : Sl → Int → World → Prop, ∃ m5 : Sl → Int → World → Nat, I4 x3 0 w2 ∧
 ∀ x6 : Sl, ∀ n7 : Int, ∀ w8 : World, I4 x6 n7 w8 →
 ((decide (n7 < (x0_1.n : Int))) = true →
 IxOk x0_1 n7 ∧
 ∃ x9 : Sl, w8.cell? ((elA x0_1 n7 5).add 0) = some (x9.val) ∧
 ((decide ((x9.n : Int) > 0)) = true →
 IxOk x0_1 n7) ∧
 ∃ x10 : Sl, ((decide ((x9.n : Int) > 0)) = true →
 w8.cell? ((elA x0_1 n7 5).add 0) = some (x10.val)) ∧
 ∃ n11 : Int, ((decide ((x9.n : Int) > 0)) = true →
 Wr .i64 ((x9.n : Int) - 1) n11) ∧
 ((decide ((x9.n : Int) > 0)) = true →
 IxOk x10 n11) ∧
 ∃ n12 : Int, ((decide ((x9.n : Int) > 0)) = true →
 w8.cell? ((elA x10 n11 1).add 0) = some (.int .i64 n12)) ∧
 ((decide ((x9.n : Int) > 0)) = true →
 IxOk x0_1 n7) ∧
 ∃ n13 : Int, ((decide ((x9.n : Int) > 0)) = true →
 w8.cell? ((elA x0_1 n7 5).add 1) = some (.int .i64 n13)) ∧
 ∃ n14 : Int, ((decide ((x9.n : Int) > 0)) = true →
 (Trip Tryd.prog 142 #[x0_0.val, .int .i64 n12, .int .i64 n13] w8 fun r15 w16 => r15 = .int .i64 n14 ∧ Sub w8 w16)) ∧
 (((decide ((x9.n : Int) > 0)) && (decide (n14 = n_1))) = true →
 StepT Tryd.prog (Instr.buildSlice 86 1 #[(0, (.int .i64 n7))]) w8 fun r17 w18 =>
 ∃ x19 : Sl, r17 = x19.val ∧
 StepT Tryd.prog (Builtin.append_ #[86, 86] 86 #[(x6.val), (x19.val)]) w18 fun r20 w21 =>
 ∃ x22 : Sl, r20 = x22.val ∧
 ∃ n23 : Int, Wr .i64 (n7 + 1) n23 ∧
 ((.sl x0_0 : SV) = .sl x0_0) ∧
 ((.sl x0_1 : SV) = .sl x0_1) ∧
 I4 x22 n23 w21 ∧
 m5 x22 n23 w21 < m5 x6 n7 w8) ∧
 (((decide ((x9.n : Int) > 0)) && (decide (n14 = n_1))) = false →
 ∃ n24 : Int, Wr .i64 (n7 + 1) n24 ∧
 ((.sl x0_0 : SV) = .sl x0_0) ∧
 ((.sl x0_1 : SV) = .sl x0_1) ∧
 I4 x6 n24 w8 ∧
 m5 x6 n24 w8 < m5 x6 n7 w8)) ∧
 ((decide (n7 < (x0_1.n : Int))) = false →
 Q (x6.val) w8)
theorem of138 (x0_0 : Sl) (x0_1 : Sl) (n_1 : Int) (v : World) (Q : Value → World → Prop) (h : vc138 x0_0 x0_1 n_1 v Q) : Trip Tryd.prog 138 #[.agg #[x0_0.val, x0_1.val], .int .i64 n_1] v Q :=
 trip_of_eq (args := [.ag [.sl x0_0, .sl x0_1], .num .i64 n_1]) (A := ⟨[(3, [(5, .sl), (6, .int .i64)], [])], [], [], [], psG⟩) Tryd.func138 (by kernel_rfl) (by kernel_rfl) (by kernel_rfl : vc138 x0_0 x0_1 n_1 v Q = _) h

def vc139 (x_0 : Sl) (n_1 : Int) (v : World) (Q : Value → World → Prop) : Prop :=
 ∃ I1 : Int → World → Prop, ∃ m2 : Int → World → Nat, I1 0 v ∧
 ∀ n3 : Int, ∀ w4 : World, I1 n3 w4 →
 ((decide (n3 < (x_0.n : Int))) = true →
 IxOk x_0 n3 ∧
 ∃ n5 : Int, w4.cell? ((elA x_0 n3 1).add 0) = some (.int .i64 n5) ∧
 ((decide (n5 = n_1)) = true →
 Q (.bool true) w4) ∧
 ((decide (n5 = n_1)) = false →
 ∃ n6 : Int, Wr .i64 (n3 + 1) n6 ∧
 I1 n6 w4 ∧
 m2 n6 w4 < m2 n3 w4)) ∧
 ((decide (n3 < (x_0.n : Int))) = false →
 Q (.bool false) w4)
theorem of139 (x_0 : Sl) (n_1 : Int) (v : World) (Q : Value → World → Prop) (h : vc139 x_0 n_1 v Q) : Trip Tryd.prog 139 #[x_0.val, .int .i64 n_1] v Q :=
 trip_of_eq (args := [.sl x_0, .num .i64 n_1]) (A := ⟨[(2, [(5, .int .i64)], [])], [], [], [], psG⟩) Tryd.func139 (by kernel_rfl) (by kernel_rfl) (by kernel_rfl : vc139 x_0 n_1 v Q = _) h

def vc140 (x_0 : Sl) (n_1 : Int) (v : World) (Q : Value → World → Prop) : Prop :=
 ∃ I1 : Int → Int → World → Prop, ∃ m2 : Int → Int → World → Nat, I1 0 0 v ∧
 ∀ n3 : Int, ∀ n4 : Int, ∀ w5 : World, I1 n3 n4 w5 →
 ((decide (n4 < n_1)) = true →
 IxOk x_0 n4 ∧
 ∃ x6 : Sl, w5.cell? ((elA x_0 n4 3).add 2) = some (x6.val) ∧
 ∃ n7 : Int, Wr .i64 (n3 + (x6.n : Int)) n7 ∧
 ∃ n8 : Int, Wr .i64 (n4 + 1) n8 ∧
 I1 n7 n8 w5 ∧
 m2 n7 n8 w5 < m2 n3 n4 w5) ∧
 ((decide (n4 < n_1)) = false →
 Q (.int .i64 n3) w5)
theorem of140 (x_0 : Sl) (n_1 : Int) (v : World) (Q : Value → World → Prop) (h : vc140 x_0 n_1 v Q) : Trip Tryd.prog 140 #[x_0.val, .int .i64 n_1] v Q :=
 trip_of_eq (args := [.sl x_0, .num .i64 n_1]) (A := ⟨[(3, [(5, .int .i64), (6, .int .i64)], [])], [], [], [], psG⟩) Tryd.func140 (by kernel_rfl) (by kernel_rfl) (by kernel_rfl : vc140 x_0 n_1 v Q = _) h

def vc141 (x_0 : Sl) (n_1 : Int) (v : World) (Q : Value → World → Prop) : Prop :=
 ∃ I1 : Int → World → Prop, ∃ m2 : Int → World → Nat, I1 0 v ∧
 ∀ n3 : Int, ∀ w4 : World, I1 n3 w4 →
 ((decide (n3 < (x_0.n : Int))) = true →
 ∃ n5 : Int, (Trip Tryd.prog 140 #[x_0.val, .int .i64 n3] w4 fun r6 w7 => r6 = .int .i64 n5 ∧ Sub w4 w7) ∧
 IxOk x_0 n3 ∧
 ∃ x8 : Sl, w4.cell? ((elA x_0 n3 3).add 2) = some (x8.val) ∧
 ∃ n9 : Int, Wr .i64 (n5 + (x8.n : Int)) n9 ∧
 ∃ n10 : Int, Wr .i64 (n9 - 1) n10 ∧
 ∃ q11 : Bool, (Trip Tryd.prog 34 #[.int .i64 n_1, .int .i64 n5, .int .i64 n10] w4 fun r12 w13 => r12 = .bool q11 ∧ Sub w4 w13) ∧
 (q11 = true →
 ∃ n14 : Int, Wr .i64 (n3 + 1) n14 ∧
 Q (.int .i64 n14) w4) ∧
 (q11 = false →
 ∃ n15 : Int, Wr .i64 (n3 + 1) n15 ∧
 I1 n15 w4 ∧
 m2 n15 w4 < m2 n3 w4)) ∧
 ((decide (n3 < (x_0.n : Int))) = false →
 Q (.int .i64 (-1)) w4)
theorem of141 (x_0 : Sl) (n_1 : Int) (v : World) (Q : Value → World → Prop) (h : vc141 x_0 n_1 v Q) : Trip Tryd.prog 141 #[x_0.val, .int .i64 n_1] v Q :=
 trip_of_eq (args := [.sl x_0, .num .i64 n_1]) (A := ⟨[(2, [(5, .int .i64)], [])], [], [], [], psG⟩) Tryd.func141 (by kernel_rfl) (by kernel_rfl) (by kernel_rfl : vc141 x_0 n_1 v Q = _) h

def vc142 (x_0 : Sl) (n_1 : Int) (n_2 : Int) (v : World) (Q : Value → World → Prop) : Prop :=
 ∃ I1 : Int → World → Prop, ∃ m2 : Int → World → Nat, I1 0 v ∧
 ∀ n3 : Int, ∀ w4 : World, I1 n3 w4 →
 ((decide (n3 < (x_0.n : Int))) = true →
 IxOk x_0 n3 ∧
 ∃ x5 : Sl, w4.cell? ((elA x_0 n3 3).add 2) = some (x5.val) ∧
 ((decide ((x5.n : Int) = 0)) = true →
 IxOk x_0 n3) ∧
 ∃ n6 : Int, ((decide ((x5.n : Int) = 0)) = true →
 w4.cell? ((elA x_0 n3 3).add 0) = some (.int .i64 n6)) ∧
 (((decide ((x5.n : Int) = 0)) && (decide (n6 = n_1))) = true →
 IxOk x_0 n3) ∧
 ∃ n7 : Int, (((decide ((x5.n : Int) = 0)) && (decide (n6 = n_1))) = true →
 w4.cell? ((elA x_0 n3 3).add 1) = some (.int .i64 n7)) ∧
 ((((decide ((x5.n : Int) = 0)) && (decide (n6 = n_1))) && (decide (n7 = n_2))) = true →
 ∃ n8 : Int, Wr .i64 (n3 + 1) n8 ∧
 Q (.int .i64 n8) w4) ∧
 ((((decide ((x5.n : Int) = 0)) && (decide (n6 = n_1))) && (decide (n7 = n_2))) = false →
 ∃ n9 : Int, Wr .i64 (n3 + 1) n9 ∧
 I1 n9 w4 ∧
 m2 n9 w4 < m2 n3 w4)) ∧
 ((decide (n3 < (x_0.n : Int))) = false →
 Q (.int .i64 (-1)) w4)
theorem of142 (x_0 : Sl) (n_1 : Int) (n_2 : Int) (v : World) (Q : Value → World → Prop) (h : vc142 x_0 n_1 n_2 v Q) : Trip Tryd.prog 142 #[x_0.val, .int .i64 n_1, .int .i64 n_2] v Q :=
 trip_of_eq (args := [.sl x_0, .num .i64 n_1, .num .i64 n_2]) (A := ⟨[(2, [(7, .int .i64)], [])], [], [], [], psG⟩) Tryd.func142 (by kernel_rfl) (by kernel_rfl) (by kernel_rfl : vc142 x_0 n_1 n_2 v Q = _) h

-- STOP 163 var's door: gosem.cut.vars holds initialisers alone; see the manifest's row cutvarsword (look 11, test files too): 'NoneType' object is not subscriptable
-- STOP 164 var's door: internal/strconv.uint64pow10 is laid by its own initialiser, plain data (look 11): 'NoneType' object is not subscriptable
-- STOP 165 var's door: math/bits.deBruijn32tab is laid by its own initialiser, plain data (look 11): 'NoneType' object is not subscriptable
-- STOP 166 var's door: math/bits.deBruijn64tab is laid by its own initialiser, plain data (look 11): 'NoneType' object is not subscriptable
-- STOP 167 var's door: strconv.ErrRange is laid by its own call of errors.New on one literal (look 11): 'NoneType' object is not subscriptable
-- STOP 168 var's door: strconv.ErrSyntax is laid by its own call of errors.New on one literal (look 11): 'NoneType' object is not subscriptable
-- STOP 169 var's door: the look of gosem.cut.vars went over the folder that the caller named as the repository's root (look 11): 'NoneType' object is not subscriptable
-- STOP 170 var's door: unicode/utf8.acceptRanges is laid by its own initialiser, plain data (look 11): 'NoneType' object is not subscriptable
-- STOP 171 var's door: unicode/utf8.first is laid by its text alone (pinned 1): 'NoneType' object is not subscriptable
def vc172  (v : World) (Q : Value → World → Prop) : Prop :=
 StoreAt v (Addr.mk 4 0 none) 0 [.int .u8 0, .int .u8 1, .int .u8 28, .int .u8 2, .int .u8 29, .int .u8 14, .int .u8 24, .int .u8 3, .int .u8 30, .int .u8 22, .int .u8 20, .int .u8 15, .int .u8 25, .int .u8 17, .int .u8 4, .int .u8 8, .int .u8 31, .int .u8 27, .int .u8 13, .int .u8 23, .int .u8 21, .int .u8 19, .int .u8 16, .int .u8 7, .int .u8 26, .int .u8 12, .int .u8 18, .int .u8 6, .int .u8 11, .int .u8 5, .int .u8 10, .int .u8 9] fun w1 =>
 StoreAt w1 (Addr.mk 5 0 none) 0 [.int .u8 0, .int .u8 1, .int .u8 56, .int .u8 2, .int .u8 57, .int .u8 49, .int .u8 28, .int .u8 3, .int .u8 61, .int .u8 58, .int .u8 42, .int .u8 50, .int .u8 38, .int .u8 29, .int .u8 17, .int .u8 4, .int .u8 62, .int .u8 47, .int .u8 59, .int .u8 36, .int .u8 45, .int .u8 43, .int .u8 51, .int .u8 22, .int .u8 53, .int .u8 39, .int .u8 33, .int .u8 30, .int .u8 24, .int .u8 18, .int .u8 12, .int .u8 5, .int .u8 63, .int .u8 55, .int .u8 48, .int .u8 27, .int .u8 60, .int .u8 41, .int .u8 37, .int .u8 16, .int .u8 46, .int .u8 35, .int .u8 44, .int .u8 21, .int .u8 52, .int .u8 32, .int .u8 23, .int .u8 11, .int .u8 54, .int .u8 26, .int .u8 40, .int .u8 15, .int .u8 34, .int .u8 20, .int .u8 31, .int .u8 10, .int .u8 25, .int .u8 14, .int .u8 19, .int .u8 9, .int .u8 13, .int .u8 8, .int .u8 7, .int .u8 6] fun w2 =>
 StoreAt w2 (Addr.mk 2 0 none) 0 [.int .u64 1, .int .u64 10, .int .u64 100, .int .u64 1000, .int .u64 10000, .int .u64 100000, .int .u64 1000000, .int .u64 10000000, .int .u64 100000000, .int .u64 1000000000, .int .u64 10000000000, .int .u64 100000000000, .int .u64 1000000000000, .int .u64 10000000000000, .int .u64 100000000000000, .int .u64 1000000000000000, .int .u64 10000000000000000, .int .u64 100000000000000000, .int .u64 1000000000000000000, .int .u64 10000000000000000000] fun w3 =>
 StoreAt w3 (Addr.mk 7 0 none) 0 [.int .u8 128, .int .u8 191, .int .u8 160, .int .u8 191, .int .u8 128, .int .u8 159, .int .u8 144, .int .u8 191, .int .u8 128, .int .u8 143, .int .u8 0, .int .u8 0, .int .u8 0, .int .u8 0, .int .u8 0, .int .u8 0, .int .u8 0, .int .u8 0, .int .u8 0, .int .u8 0, .int .u8 0, .int .u8 0, .int .u8 0, .int .u8 0, .int .u8 0, .int .u8 0, .int .u8 0, .int .u8 0, .int .u8 0, .int .u8 0, .int .u8 0, .int .u8 0] fun w4 =>
 Trip Tryd.prog 97 #[.string (ByteArray.mk #[118, 97, 108, 117, 101, 32, 111, 117, 116, 32, 111, 102, 32, 114, 97, 110, 103, 101])] w4 fun r5 w6 =>
 ∃ y7 : Vl, r5 = y7.x ∧
 StoreAt w6 (Addr.mk 1 0 none) 0 [y7.x] fun w8 =>
 Trip Tryd.prog 97 #[.string (ByteArray.mk #[105, 110, 118, 97, 108, 105, 100, 32, 115, 121, 110, 116, 97, 120])] w8 fun r9 w10 =>
 ∃ y11 : Vl, r9 = y11.x ∧
 StoreAt w10 (Addr.mk 0 0 none) 0 [y11.x] fun w12 =>
 Q (.tuple #[]) w12
theorem of172  (v : World) (Q : Value → World → Prop) (h : vc172  v Q) : Trip Tryd.prog 172 #[] v Q :=
 trip_of_eq (args := []) (A := ⟨[], [], [], [], psG⟩) Tryd.func172 (by kernel_rfl) (by kernel_rfl) (by kernel_rfl : vc172  v Q = _) h

end Go.Vc
