/- Part of the proofs about the heaps and memories: a law is joined in the text whose name ends in W and the law. -/
import Derived.Test.YtgabmgfbolhbbaaGreatEGa
namespace Go.Vc
open Go Go.Proofs
set_option linter.all false

def vc73 (a_0 : Addr) (x1_0 : Sl) (x1_1 : Sl) (n2_0 : Int) (n2_1 : Int) (n2_2 : Int) (n2_3 : Int) (x2_4 : Sl) (x2_5 : Sl) (v : World) (Q : Value → World → Prop) : Prop :=
 Trip Tryz.prog 107 #[x1_0.val, .int .i64 n2_2] v fun r1 w2 =>
 ∃ x3 : Sl, r1 = x3.val ∧
 Sub v w2 ∧
 Trip Tryz.prog 72 #[.pointer (some (a_0.add 0)), .agg #[x1_0.val, x1_1.val], .agg #[.int .i64 n2_0, .int .i64 n2_1, .int .i64 n2_2, .int .i64 n2_3, x2_4.val, x2_5.val], x3.val] w2 fun r4 w5 =>
 ∃ q6 : Bool, r4 = .bool q6 ∧
 ((!q6) = true →
 Q (.bool false) w5) ∧
 ((!q6) = false →
 ((decide (n2_3 > 0)) = true →
 ∃ x7 : Sl, w5.cell? (a_0.add 5) = some (x7.val) ∧
 ∃ n8 : Int, Wr .i64 (n2_3 - 1) n8 ∧
 IxOk x7 n8 ∧
 ∃ n9 : Int, w5.cell? ((elA x7 n8 1).add 0) = some (.int .i64 n9) ∧
 ((!decide (n9 = (x2_4.n : Int))) = true →
 Q (.bool false) w5) ∧
 ((!decide (n9 = (x2_4.n : Int))) = false →
 ∃ x10 : Sl, w5.cell? (a_0.add 5) = some (x10.val) ∧
 ∃ n11 : Int, Wr .i64 (n2_3 - 1) n11 ∧
 IxOk x10 n11 ∧
 StoreAt w5 (elA x10 n11 1) 0 [.int .i64 (-1)] fun w12 =>
 ∃ n13 : Int, (Trip Tryz.prog 106 #[x1_0.val, .int .i64 n2_2] w12 fun r14 w15 => r14 = .int .i64 n13 ∧ Sub w12 w15) ∧
 Trip Tryz.prog 79 #[.pointer (some (a_0.add 0)), .int .i64 n2_1, .int .i64 n13] w12 fun r16 w17 =>
 ∃ q18 : Bool, r16 = .bool q18 ∧
 Q (.bool q18) w17)) ∧
 ((decide (n2_3 > 0)) = false →
 ∃ n19 : Int, (Trip Tryz.prog 106 #[x1_0.val, .int .i64 n2_2] w5 fun r20 w21 => r20 = .int .i64 n19 ∧ Sub w5 w21) ∧
 Trip Tryz.prog 79 #[.pointer (some (a_0.add 0)), .int .i64 n2_1, .int .i64 n19] w5 fun r22 w23 =>
 ∃ q24 : Bool, r22 = .bool q24 ∧
 Q (.bool q24) w23))
theorem of73 (a_0 : Addr) (x1_0 : Sl) (x1_1 : Sl) (n2_0 : Int) (n2_1 : Int) (n2_2 : Int) (n2_3 : Int) (x2_4 : Sl) (x2_5 : Sl) (v : World) (Q : Value → World → Prop) (h : vc73 a_0 x1_0 x1_1 n2_0 n2_1 n2_2 n2_3 x2_4 x2_5 v Q) : Trip Tryz.prog 73 #[.pointer (some (a_0.add 0)), .agg #[x1_0.val, x1_1.val], .agg #[.int .i64 n2_0, .int .i64 n2_1, .int .i64 n2_2, .int .i64 n2_3, x2_4.val, x2_5.val]] v Q :=
 trip_of_eq (args := [.pt a_0 0, .ag [.sl x1_0, .sl x1_1], .ag [.num .i64 n2_0, .num .i64 n2_1, .num .i64 n2_2, .num .i64 n2_3, .sl x2_4, .sl x2_5]]) (A := ⟨[], [], [(1, [7]), (6, []), (7, [])], [], psG⟩) Tryz.func73 (by kernel_rfl) (by kernel_rfl) (by kernel_rfl : vc73 a_0 x1_0 x1_1 n2_0 n2_1 n2_2 n2_3 x2_4 x2_5 v Q = _) h

def vc74 (a_0 : Addr) (x1_0 : Sl) (x1_1 : Sl) (x2_0 : Sl) (x2_1 : Sl) (n2_2 : Int) (n2_3 : Int) (x2_4 : Sl) (n3_0 : Int) (n3_1 : Int) (n3_2 : Int) (n3_3 : Int) (x3_4 : Sl) (x3_5 : Sl) (v : World) (Q : Value → World → Prop) : Prop :=
 IxOk x1_1 n3_2 ∧
 ∃ x1 : Sl, ∃ x2 : Sl, ∃ n3 : Int, ∃ n4 : Int, ∃ x5 : Sl, (v.cell? ((elA x1_1 n3_2 5).add 0) = some (x1.val) ∧
 v.cell? ((elA x1_1 n3_2 5).add 1) = some (x2.val) ∧
 v.cell? ((elA x1_1 n3_2 5).add 2) = some (.int .i64 n3) ∧
 v.cell? ((elA x1_1 n3_2 5).add 3) = some (.int .i64 n4) ∧
 v.cell? ((elA x1_1 n3_2 5).add 4) = some (x5.val)) ∧
 ((decide (n3_0 = 9)) = true →
 Trip Tryz.prog 72 #[.pointer (some (a_0.add 0)), .agg #[x1_0.val, x1_1.val], .agg #[.int .i64 n3_0, .int .i64 n3_1, .int .i64 n3_2, .int .i64 n3_3, x3_4.val, x3_5.val], x1.val] v fun r6 w7 =>
 ∃ q8 : Bool, r6 = .bool q8 ∧
 (q8 = true →
 Trip Tryz.prog 79 #[.pointer (some (a_0.add 0)), .int .i64 n3_1, .int .i64 n3] w7 fun r9 w10 =>
 ∃ q11 : Bool, r9 = .bool q11 ∧
 Q (.bool q11) w10) ∧
 (q8 = false →
 Q (.bool false) w7)) ∧
 ((decide (n3_0 = 9)) = false →
 ((decide (n3_0 = 24)) = true →
 Trip Tryz.prog 72 #[.pointer (some (a_0.add 0)), .agg #[x1_0.val, x1_1.val], .agg #[.int .i64 n3_0, .int .i64 n3_1, .int .i64 n3_2, .int .i64 n3_3, x3_4.val, x3_5.val], x1.val] v fun r12 w13 =>
 ∃ q14 : Bool, r12 = .bool q14 ∧
 ∃ q15 : Bool, ((q14 && (decide (n3 = n2_2))) = true →
 (Trip Tryz.prog 81 #[.pointer (some (a_0.add 0))] w13 fun r16 w17 => r16 = .bool q15 ∧ Sub w13 w17)) ∧
 Q (.bool ((q14 && (decide (n3 = n2_2))) && q15)) w13) ∧
 ((decide (n3_0 = 24)) = false →
 ∃ n18 : Int, Wr .i64 ((x1.n : Int) - 1) n18 ∧
 IxOk x1 n18 ∧
 ∃ n19 : Int, v.cell? ((elA x1 n18 1).add 0) = some (.int .i64 n19) ∧
 ∃ n20 : Int, (Trip Tryz.prog 112 #[x1_0.val, .int .i64 n19, .int .i64 n3] v fun r21 w22 => r21 = .int .i64 n20 ∧ Sub v w22) ∧
 ∃ n23 : Int, ((decide (n20 > 0)) = true →
 Wr .i64 ((x1.n : Int) - 1) n23) ∧
 ((decide (n20 > 0)) = true →
 CutOk x1 0 n23) ∧
 ((decide (n20 > 0)) = true →
 Trip Tryz.prog 72 #[.pointer (some (a_0.add 0)), .agg #[x1_0.val, x1_1.val], .agg #[.int .i64 n3_0, .int .i64 n3_1, .int .i64 n3_2, .int .i64 n3_3, x3_4.val, x3_5.val], (x1.cut 0 n23 1).val] v fun r24 w25 =>
 ∃ q26 : Bool, r24 = .bool q26 ∧
 (q26 = true →
 Trip Tryz.prog 79 #[.pointer (some (a_0.add 0)), .int .i64 n3_1, .int .i64 n20] w25 fun r27 w28 =>
 ∃ q29 : Bool, r27 = .bool q29 ∧
 Q (.bool q29) w28) ∧
 (q26 = false →
 Q (.bool false) w25)) ∧
 ((decide (n20 > 0)) = false →
 Q (.bool false) v)))
theorem of74 (a_0 : Addr) (x1_0 : Sl) (x1_1 : Sl) (x2_0 : Sl) (x2_1 : Sl) (n2_2 : Int) (n2_3 : Int) (x2_4 : Sl) (n3_0 : Int) (n3_1 : Int) (n3_2 : Int) (n3_3 : Int) (x3_4 : Sl) (x3_5 : Sl) (v : World) (Q : Value → World → Prop) (h : vc74 a_0 x1_0 x1_1 x2_0 x2_1 n2_2 n2_3 x2_4 n3_0 n3_1 n3_2 n3_3 x3_4 x3_5 v Q) : Trip Tryz.prog 74 #[.pointer (some (a_0.add 0)), .agg #[x1_0.val, x1_1.val], .agg #[x2_0.val, x2_1.val, .int .i64 n2_2, .int .i64 n2_3, x2_4.val], .agg #[.int .i64 n3_0, .int .i64 n3_1, .int .i64 n3_2, .int .i64 n3_3, x3_4.val, x3_5.val]] v Q :=
 trip_of_eq (args := [.pt a_0 0, .ag [.sl x1_0, .sl x1_1], .ag [.sl x2_0, .sl x2_1, .num .i64 n2_2, .num .i64 n2_3, .sl x2_4], .ag [.num .i64 n3_0, .num .i64 n3_1, .num .i64 n3_2, .num .i64 n3_3, .sl x3_4, .sl x3_5]]) (A := ⟨[], [], [(9, [])], [999999], psG⟩) Tryz.func74 (by kernel_rfl) (by kernel_rfl) (by kernel_rfl : vc74 a_0 x1_0 x1_1 x2_0 x2_1 n2_2 n2_3 x2_4 n3_0 n3_1 n3_2 n3_3 x3_4 x3_5 v Q = _) h

def vc75 (a_0 : Addr) (x1_0 : Sl) (x1_1 : Sl) (n2_0 : Int) (n2_1 : Int) (n2_2 : Int) (n2_3 : Int) (x2_4 : Sl) (x2_5 : Sl) (v : World) (Q : Value → World → Prop) : Prop :=
 ∃ x1 : Sl, v.cell? (a_0.add 0) = some (x1.val) ∧
 IxOk x2_4 0 ∧
 ∃ n2 : Int, v.cell? ((elA x2_4 0 1).add 0) = some (.int .i64 n2) ∧
 IxOk x1 n2 ∧
 ∃ n3 : Int, v.cell? ((elA x1 n2 1).add 0) = some (.int .i64 n3) ∧
 ∃ q4 : Bool, (Trip Tryz.prog 113 #[x1_0.val, .int .i64 n3] v fun r5 w6 => r5 = .bool q4 ∧ Sub v w6) ∧
 ((!q4) = true →
 Q (.bool false) v) ∧
 ((!q4) = false →
 ∃ n7 : Int, Wr .i64 (n3 - 1) n7 ∧
 IxOk x1_0 n7 ∧
 ∃ n8 : Int, ∃ n9 : Int, ∃ x10 : Sl, (v.cell? ((elA x1_0 n7 3).add 0) = some (.int .i64 n8) ∧
 v.cell? ((elA x1_0 n7 3).add 1) = some (.int .i64 n9) ∧
 v.cell? ((elA x1_0 n7 3).add 2) = some (x10.val)) ∧
 StepT Tryz.prog (Instr.buildSlice 37 2 #[(0, (.int .i64 n3)), (1, (.int .i64 n8))]) v fun r11 w12 =>
 ∃ x13 : Sl, r11 = x13.val ∧
 Trip Tryz.prog 72 #[.pointer (some (a_0.add 0)), .agg #[x1_0.val, x1_1.val], .agg #[.int .i64 n2_0, .int .i64 n2_1, .int .i64 n2_2, .int .i64 n2_3, x2_4.val, x2_5.val], x13.val] w12 fun r14 w15 =>
 ∃ q16 : Bool, r14 = .bool q16 ∧
 (q16 = true →
 Trip Tryz.prog 79 #[.pointer (some (a_0.add 0)), .int .i64 n2_1, .int .i64 n9] w15 fun r17 w18 =>
 ∃ q19 : Bool, r17 = .bool q19 ∧
 Q (.bool q19) w18) ∧
 (q16 = false →
 Q (.bool false) w15))
theorem of75 (a_0 : Addr) (x1_0 : Sl) (x1_1 : Sl) (n2_0 : Int) (n2_1 : Int) (n2_2 : Int) (n2_3 : Int) (x2_4 : Sl) (x2_5 : Sl) (v : World) (Q : Value → World → Prop) (h : vc75 a_0 x1_0 x1_1 n2_0 n2_1 n2_2 n2_3 x2_4 x2_5 v Q) : Trip Tryz.prog 75 #[.pointer (some (a_0.add 0)), .agg #[x1_0.val, x1_1.val], .agg #[.int .i64 n2_0, .int .i64 n2_1, .int .i64 n2_2, .int .i64 n2_3, x2_4.val, x2_5.val]] v Q :=
 trip_of_eq (args := [.pt a_0 0, .ag [.sl x1_0, .sl x1_1], .ag [.num .i64 n2_0, .num .i64 n2_1, .num .i64 n2_2, .num .i64 n2_3, .sl x2_4, .sl x2_5]]) (A := ⟨[], [], [], [], psG⟩) Tryz.func75 (by kernel_rfl) (by kernel_rfl) (by kernel_rfl : vc75 a_0 x1_0 x1_1 n2_0 n2_1 n2_2 n2_3 x2_4 x2_5 v Q = _) h

def vc76 (a_0 : Addr) (n_1 : Int) (v : World) (Q : Value → World → Prop) : Prop :=
 ∃ I1 : Int → World → Prop, ∃ m2 : Int → World → Nat, I1 n_1 v ∧
 ∀ n3 : Int, ∀ w4 : World, I1 n3 w4 →
 ∃ x5 : Sl, w4.cell? (a_0.add 1) = some (x5.val) ∧
 IxOk x5 n3 ∧
 ∃ n6 : Int, w4.cell? ((elA x5 n3 1).add 0) = some (.int .i64 n6) ∧
 ∃ x7 : Sl, ((decide (n6 < 1)) = true →
 w4.cell? (a_0.add 6) = some (x7.val)) ∧
 ((decide (n6 < 1)) = true →
 IxOk x7 n3) ∧
 ∃ n8 : Int, ((decide (n6 < 1)) = true →
 w4.cell? ((elA x7 n3 1).add 0) = some (.int .i64 n8)) ∧
 (((decide (n6 < 1)) && (decide (n8 = 0))) = true →
 ∃ x9 : Sl, w4.cell? (a_0.add 2) = some (x9.val) ∧
 IxOk x9 n3 ∧
 ∃ n10 : Int, w4.cell? ((elA x9 n3 1).add 0) = some (.int .i64 n10) ∧
 ((decide (n10 < 0)) = true →
 Q (.bool false) w4) ∧
 ((decide (n10 < 0)) = false →
 I1 n10 w4 ∧
 m2 n10 w4 < m2 n3 w4)) ∧
 (((decide (n6 < 1)) && (decide (n8 = 0))) = false →
 Q (.bool true) w4)
theorem of76 (a_0 : Addr) (n_1 : Int) (v : World) (Q : Value → World → Prop) (h : vc76 a_0 n_1 v Q) : Trip Tryz.prog 76 #[.pointer (some (a_0.add 0)), .int .i64 n_1] v Q :=
 trip_of_eq (args := [.pt a_0 0, .num .i64 n_1]) (A := ⟨[(1, [(1, .int .i64)], [])], [], [], [], psG⟩) Tryz.func76 (by kernel_rfl) (by kernel_rfl) (by kernel_rfl : vc76 a_0 n_1 v Q = _) h

def vc77 (a_0 : Addr) (n_1 : Int) (v : World) (Q : Value → World → Prop) : Prop :=
 ∃ x1 : Sl, v.cell? (a_0.add 0) = some (x1.val) ∧
 IxOk x1 n_1 ∧
 ∃ n2 : Int, v.cell? ((elA x1 n_1 1).add 0) = some (.int .i64 n2) ∧
 ((decide (n2 = 0)) = true →
 Q (.bool true) v) ∧
 ((decide (n2 = 0)) = false →
 ∃ x3 : Sl, v.cell? (a_0.add 0) = some (x3.val) ∧
 IxOk x3 n_1 ∧
 ∃ n4 : Int, v.cell? ((elA x3 n_1 1).add 0) = some (.int .i64 n4) ∧
 ∃ x5 : Sl, ((decide (n4 < 0)) = false →
 v.cell? (a_0.add 1) = some (x5.val)) ∧
 ((decide (n4 < 0)) = false →
 IxOk x5 n_1) ∧
 ∃ n6 : Int, ((decide (n4 < 0)) = false →
 v.cell? ((elA x5 n_1 1).add 0) = some (.int .i64 n6)) ∧
 (((decide (n4 < 0)) || (decide (n6 < 1))) = true →
 Q (.bool false) v) ∧
 (((decide (n4 < 0)) || (decide (n6 < 1))) = false →
 ∃ x7 : Sl, v.cell? (a_0.add 1) = some (x7.val) ∧
 ∃ x8 : Sl, v.cell? (a_0.add 1) = some (x8.val) ∧
 IxOk x8 n_1 ∧
 ∃ n9 : Int, v.cell? ((elA x8 n_1 1).add 0) = some (.int .i64 n9) ∧
 ∃ n10 : Int, Wr .i64 (n9 - 1) n10 ∧
 IxOk x7 n_1 ∧
 StoreAt v (elA x7 n_1 1) 0 [.int .i64 n10] fun w11 =>
 Q (.bool true) w11))
theorem of77 (a_0 : Addr) (n_1 : Int) (v : World) (Q : Value → World → Prop) (h : vc77 a_0 n_1 v Q) : Trip Tryz.prog 77 #[.pointer (some (a_0.add 0)), .int .i64 n_1] v Q :=
 trip_of_eq (args := [.pt a_0 0, .num .i64 n_1]) (A := ⟨[], [], [(5, [])], [], psG⟩) Tryz.func77 (by kernel_rfl) (by kernel_rfl) (by kernel_rfl : vc77 a_0 n_1 v Q = _) h

def vc78 (a_0 : Addr) (x1_0 : Sl) (x1_1 : Sl) (n2_0 : Int) (n2_1 : Int) (n2_2 : Int) (n2_3 : Int) (x2_4 : Sl) (x2_5 : Sl) (v : World) (Q : Value → World → Prop) : Prop :=
 IxOk x2_4 0 ∧
 ∃ n1 : Int, v.cell? ((elA x2_4 0 1).add 0) = some (.int .i64 n1) ∧
 ∃ x2 : Sl, v.cell? (a_0.add 4) = some (x2.val) ∧
 IxOk x2 n1 ∧
 ∃ n3 : Int, v.cell? ((elA x2 n1 1).add 0) = some (.int .i64 n3) ∧
 ∃ x4 : Sl, ((decide (n3 < 0)) = false →
 v.cell? (a_0.add 1) = some (x4.val)) ∧
 ((decide (n3 < 0)) = false →
 IxOk x4 n1) ∧
 ∃ n5 : Int, ((decide (n3 < 0)) = false →
 v.cell? ((elA x4 n1 1).add 0) = some (.int .i64 n5)) ∧
 ∃ x6 : Sl, ((decide (n2_0 = 17)) = true →
 ((decide (n3 < 0)) || (decide (n5 < 1))) = false →
 v.cell? (a_0.add 5) = some (x6.val)) ∧
 ((decide (n2_0 = 17)) = true →
 ((decide (n3 < 0)) || (decide (n5 < 1))) = false →
 IxOk x6 n1) ∧
 ∃ n7 : Int, ((decide (n2_0 = 17)) = true →
 ((decide (n3 < 0)) || (decide (n5 < 1))) = false →
 v.cell? ((elA x6 n1 1).add 0) = some (.int .i64 n7)) ∧
 ((((decide (n3 < 0)) || (decide (n5 < 1))) || ((decide (n2_0 = 17)) && (decide (n7 ≥ 0)))) = true →
 Q (.bool false) v) ∧
 ((((decide (n3 < 0)) || (decide (n5 < 1))) || ((decide (n2_0 = 17)) && (decide (n7 ≥ 0)))) = false →
 ∃ x8 : Sl, v.cell? (a_0.add 4) = some (x8.val) ∧
 IxOk x8 n1 ∧
 ∃ n9 : Int, v.cell? ((elA x8 n1 1).add 0) = some (.int .i64 n9) ∧
 Trip Tryz.prog 107 #[x1_0.val, .int .i64 n9] v fun r10 w11 =>
 ∃ x12 : Sl, r10 = x12.val ∧
 Trip Tryz.prog 114 #[x12.val, .int .i64 0] w11 fun r13 w14 =>
 ∃ x15 : Sl, r13 = x15.val ∧
 ∃ n16 : Int, Wr .i64 ((x2_4.n : Int) - 1) n16 ∧
 ((!decide ((x15.n : Int) = n16)) = true →
 Q (.bool false) w14) ∧
 ((!decide ((x15.n : Int) = n16)) = false →
 ∃ I17 : Int → World → Prop, ∃ m18 : Int → World → Nat, I17 0 w14 ∧
 ∀ n19 : Int, ∀ w20 : World, I17 n19 w20 →
 ((decide (n19 < (x15.n : Int))) = true →
 ∃ n21 : Int, Wr .i64 (1 + n19) n21 ∧
 IxOk x2_4 n21 ∧
 ∃ n22 : Int, w20.cell? ((elA x2_4 n21 1).add 0) = some (.int .i64 n22) ∧
 ∃ x23 : Sl, w20.cell? (a_0.add 2) = some (x23.val) ∧
 IxOk x23 n22 ∧
 ∃ n24 : Int, w20.cell? ((elA x23 n22 1).add 0) = some (.int .i64 n24) ∧
 ∃ x25 : Sl, ((!decide (n24 = n1)) = false →
 w20.cell? (a_0.add 3) = some (x25.val)) ∧
 ((!decide (n24 = n1)) = false →
 IxOk x25 n22) ∧
 ∃ n26 : Int, ((!decide (n24 = n1)) = false →
 w20.cell? ((elA x25 n22 1).add 0) = some (.int .i64 n26)) ∧
 ((!decide (n24 = n1)) = false →
 IxOk x15 n19) ∧
 ∃ n27 : Int, ((!decide (n24 = n1)) = false →
 w20.cell? ((elA x15 n19 1).add 0) = some (.int .i64 n27)) ∧
 (((!decide (n24 = n1)) || (!decide (n26 = n27))) = true →
 Q (.bool false) w20) ∧
 (((!decide (n24 = n1)) || (!decide (n26 = n27))) = false →
 ∃ x28 : Sl, w20.cell? (a_0.add 1) = some (x28.val) ∧
 ∃ x29 : Sl, w20.cell? (a_0.add 1) = some (x29.val) ∧
 IxOk x29 n22 ∧
 ∃ n30 : Int, w20.cell? ((elA x29 n22 1).add 0) = some (.int .i64 n30) ∧
 ∃ n31 : Int, Wr .i64 (n30 + 1) n31 ∧
 IxOk x28 n22 ∧
 StoreAt w20 (elA x28 n22 1) 0 [.int .i64 n31] fun w32 =>
 ∃ n33 : Int, Wr .i64 (n19 + 1) n33 ∧
 ((.sl x1_0 : SV) = .sl x1_0) ∧
 ((.sl x1_1 : SV) = .sl x1_1) ∧
 ((.num .i64 n2_0 : SV) = .num .i64 n2_0) ∧
 ((.num .i64 n2_1 : SV) = .num .i64 n2_1) ∧
 ((.num .i64 n2_2 : SV) = .num .i64 n2_2) ∧
 ((.num .i64 n2_3 : SV) = .num .i64 n2_3) ∧
 ((.sl x2_4 : SV) = .sl x2_4) ∧
 ((.sl x2_5 : SV) = .sl x2_5) ∧
 I17 n33 w32 ∧
 m18 n33 w32 < m18 n19 w20)) ∧
 ((decide (n19 < (x15.n : Int))) = false →
 ∃ x34 : Sl, w20.cell? (a_0.add 1) = some (x34.val) ∧
 ∃ x35 : Sl, w20.cell? (a_0.add 1) = some (x35.val) ∧
 IxOk x35 n1 ∧
 ∃ n36 : Int, w20.cell? ((elA x35 n1 1).add 0) = some (.int .i64 n36) ∧
 ∃ n37 : Int, Wr .i64 (n36 - 1) n37 ∧
 IxOk x34 n1 ∧
 StoreAt w20 (elA x34 n1 1) 0 [.int .i64 n37] fun w38 =>
 ((decide (n2_0 = 17)) = true →
 ∃ x39 : Sl, w38.cell? (a_0.add 5) = some (x39.val) ∧
 IxOk x39 n1 ∧
 StoreAt w38 (elA x39 n1 1) 0 [.int .i64 (x12.n : Int)] fun w40 =>
 Q (.bool true) w40) ∧
 ((decide (n2_0 = 17)) = false →
 Q (.bool true) w38))))
theorem of78 (a_0 : Addr) (x1_0 : Sl) (x1_1 : Sl) (n2_0 : Int) (n2_1 : Int) (n2_2 : Int) (n2_3 : Int) (x2_4 : Sl) (x2_5 : Sl) (v : World) (Q : Value → World → Prop) (h : vc78 a_0 x1_0 x1_1 n2_0 n2_1 n2_2 n2_3 x2_4 x2_5 v Q) : Trip Tryz.prog 78 #[.pointer (some (a_0.add 0)), .agg #[x1_0.val, x1_1.val], .agg #[.int .i64 n2_0, .int .i64 n2_1, .int .i64 n2_2, .int .i64 n2_3, x2_4.val, x2_5.val]] v Q :=
 trip_of_eq (args := [.pt a_0 0, .ag [.sl x1_0, .sl x1_1], .ag [.num .i64 n2_0, .num .i64 n2_1, .num .i64 n2_2, .num .i64 n2_3, .sl x2_4, .sl x2_5]]) (A := ⟨[(9, [(10, .int .i64)], [])], [], [(4, []), (14, []), (15, [])], [], psG⟩) Tryz.func78 (by kernel_rfl) (by kernel_rfl) (by kernel_rfl : vc78 a_0 x1_0 x1_1 n2_0 n2_1 n2_2 n2_3 x2_4 x2_5 v Q = _) h

def vc79 (a_0 : Addr) (n_1 : Int) (n_2 : Int) (v : World) (Q : Value → World → Prop) : Prop :=
 Trip Tryz.prog 71 #[.pointer (some (a_0.add 0)), .int .i64 n_1, .int .i64 n_2] v fun r1 w2 =>
 ∃ q3 : Bool, r1 = .bool q3 ∧
 ((!q3) = true →
 Q (.bool false) w2) ∧
 ((!q3) = false →
 ((!decide (n_2 = 0)) = true →
 ∃ x4 : Sl, w2.cell? (a_0.add 1) = some (x4.val) ∧
 IxOk x4 n_1 ∧
 StoreAt w2 (elA x4 n_1 1) 0 [.int .i64 1] fun w5 =>
 Q (.bool true) w5) ∧
 ((!decide (n_2 = 0)) = false →
 Q (.bool true) w2))
theorem of79 (a_0 : Addr) (n_1 : Int) (n_2 : Int) (v : World) (Q : Value → World → Prop) (h : vc79 a_0 n_1 n_2 v Q) : Trip Tryz.prog 79 #[.pointer (some (a_0.add 0)), .int .i64 n_1, .int .i64 n_2] v Q :=
 trip_of_eq (args := [.pt a_0 0, .num .i64 n_1, .num .i64 n_2]) (A := ⟨[], [], [], [], psG⟩) Tryz.func79 (by kernel_rfl) (by kernel_rfl) (by kernel_rfl : vc79 a_0 n_1 n_2 v Q = _) h

def vc80 (a_0 : Addr) (x1_0 : Sl) (x1_1 : Sl) (n2_0 : Int) (n2_1 : Int) (n2_2 : Int) (n2_3 : Int) (x2_4 : Sl) (x2_5 : Sl) (v : World) (Q : Value → World → Prop) : Prop :=
 IxOk x2_4 0 ∧
 ∃ n1 : Int, v.cell? ((elA x2_4 0 1).add 0) = some (.int .i64 n1) ∧
 ∃ x2 : Sl, v.cell? (a_0.add 4) = some (x2.val) ∧
 IxOk x2 n1 ∧
 ∃ n3 : Int, v.cell? ((elA x2 n1 1).add 0) = some (.int .i64 n3) ∧
 ∃ q4 : Bool, ((decide (n3 < 0)) = false →
 (Trip Tryz.prog 76 #[.pointer (some (a_0.add 0)), .int .i64 n1] v fun r5 w6 => r5 = .bool q4 ∧ Sub v w6)) ∧
 (((decide (n3 < 0)) || (!q4)) = true →
 Q (.bool false) v) ∧
 (((decide (n3 < 0)) || (!q4)) = false →
 ∃ x7 : Sl, v.cell? (a_0.add 4) = some (x7.val) ∧
 IxOk x7 n1 ∧
 ∃ n8 : Int, v.cell? ((elA x7 n1 1).add 0) = some (.int .i64 n8) ∧
 Trip Tryz.prog 107 #[x1_0.val, .int .i64 n8] v fun r9 w10 =>
 ∃ x11 : Sl, r9 = x11.val ∧
 ((decide (n2_2 ≥ (x11.n : Int))) = false →
 IxOk x11 n2_2) ∧
 ∃ n12 : Int, ((decide (n2_2 ≥ (x11.n : Int))) = false →
 w10.cell? ((elA x11 n2_2 1).add 0) = some (.int .i64 n12)) ∧
 ((decide (n2_2 ≥ (x11.n : Int))) = false →
 Trip Tryz.prog 71 #[.pointer (some (a_0.add 0)), .int .i64 n2_1, .int .i64 n12] w10 fun r13 w14 =>
 ∃ q15 : Bool, r13 = .bool q15 ∧
 ((!q15) = true →
 Q (.bool false) w14) ∧
 ((!q15) = false →
 ((!decide (n2_1 = n1)) = true →
 ∃ x16 : Sl, w14.cell? (a_0.add 2) = some (x16.val) ∧
 IxOk x16 n2_1 ∧
 StoreAt w14 (elA x16 n2_1 1) 0 [.int .i64 n1] fun w17 =>
 ∃ x18 : Sl, w17.cell? (a_0.add 3) = some (x18.val) ∧
 IxOk x18 n2_1 ∧
 StoreAt w17 (elA x18 n2_1 1) 0 [.int .i64 n2_2] fun w19 =>
 Q (.bool true) w19) ∧
 ((!decide (n2_1 = n1)) = false →
 Q (.bool true) w14))) ∧
 ((decide (n2_2 ≥ (x11.n : Int))) = true →
 Q (.bool false) w10))
theorem of80 (a_0 : Addr) (x1_0 : Sl) (x1_1 : Sl) (n2_0 : Int) (n2_1 : Int) (n2_2 : Int) (n2_3 : Int) (x2_4 : Sl) (x2_5 : Sl) (v : World) (Q : Value → World → Prop) (h : vc80 a_0 x1_0 x1_1 n2_0 n2_1 n2_2 n2_3 x2_4 x2_5 v Q) : Trip Tryz.prog 80 #[.pointer (some (a_0.add 0)), .agg #[x1_0.val, x1_1.val], .agg #[.int .i64 n2_0, .int .i64 n2_1, .int .i64 n2_2, .int .i64 n2_3, x2_4.val, x2_5.val]] v Q :=
 trip_of_eq (args := [.pt a_0 0, .ag [.sl x1_0, .sl x1_1], .ag [.num .i64 n2_0, .num .i64 n2_1, .num .i64 n2_2, .num .i64 n2_3, .sl x2_4, .sl x2_5]]) (A := ⟨[], [], [(4, []), (5, []), (8, []), (9, [])], [], psG⟩) Tryz.func80 (by kernel_rfl) (by kernel_rfl) (by kernel_rfl : vc80 a_0 x1_0 x1_1 n2_0 n2_1 n2_2 n2_3 x2_4 x2_5 v Q = _) h

def vc81 (a_0 : Addr) (v : World) (Q : Value → World → Prop) : Prop :=
 ∃ I1 : Int → World → Prop, ∃ m2 : Int → World → Nat, I1 0 v ∧
 ∀ n3 : Int, ∀ w4 : World, I1 n3 w4 →
 ∃ x5 : Sl, w4.cell? (a_0.add 1) = some (x5.val) ∧
 ((decide (n3 < (x5.n : Int))) = true →
 ∃ x6 : Sl, w4.cell? (a_0.add 1) = some (x6.val) ∧
 IxOk x6 n3 ∧
 ∃ n7 : Int, w4.cell? ((elA x6 n3 1).add 0) = some (.int .i64 n7) ∧
 ∃ x8 : Sl, ((!decide (n7 = 0)) = false →
 w4.cell? (a_0.add 5) = some (x8.val)) ∧
 ((!decide (n7 = 0)) = false →
 IxOk x8 n3) ∧
 ∃ n9 : Int, ((!decide (n7 = 0)) = false →
 w4.cell? ((elA x8 n3 1).add 0) = some (.int .i64 n9)) ∧
 (((!decide (n7 = 0)) || (decide (n9 ≥ 0))) = true →
 Q (.bool false) w4) ∧
 (((!decide (n7 = 0)) || (decide (n9 ≥ 0))) = false →
 ∃ n10 : Int, Wr .i64 (n3 + 1) n10 ∧
 I1 n10 w4 ∧
 m2 n10 w4 < m2 n3 w4)) ∧
 ((decide (n3 < (x5.n : Int))) = false →
 Q (.bool true) w4)
theorem of81 (a_0 : Addr) (v : World) (Q : Value → World → Prop) (h : vc81 a_0 v Q) : Trip Tryz.prog 81 #[.pointer (some (a_0.add 0))] v Q :=
 trip_of_eq (args := [.pt a_0 0]) (A := ⟨[(2, [(3, .int .i64)], [])], [], [], [], psG⟩) Tryz.func81 (by kernel_rfl) (by kernel_rfl) (by kernel_rfl : vc81 a_0 v Q = _) h

def vc82 (x_0 : Sl) (n_1 : Int) (v : World) (Q : Value → World → Prop) : Prop :=
 IxOk x_0 n_1 ∧
 ∃ n1 : Int, ∃ n2 : Int, ∃ n3 : Int, ∃ n4 : Int, ∃ x5 : Sl, ∃ x6 : Sl, (v.cell? ((elA x_0 n_1 6).add 0) = some (.int .i64 n1) ∧
 v.cell? ((elA x_0 n_1 6).add 1) = some (.int .i64 n2) ∧
 v.cell? ((elA x_0 n_1 6).add 2) = some (.int .i64 n3) ∧
 v.cell? ((elA x_0 n_1 6).add 3) = some (.int .i64 n4) ∧
 v.cell? ((elA x_0 n_1 6).add 4) = some (x5.val) ∧
 v.cell? ((elA x_0 n_1 6).add 5) = some (x6.val)) ∧
 ((decide (n1 = 23)) = true →
 StepT Tryz.prog (Instr.buildSlice 37 0 #[]) v fun r7 w8 =>
 ∃ x9 : Sl, r7 = x9.val ∧
 Q (x9.val) w8) ∧
 ((decide (n1 = 23)) = false →
 ((decide (n1 = 24)) = true →
 StepT Tryz.prog (Instr.buildSlice 37 0 #[]) v fun r10 w11 =>
 ∃ x12 : Sl, r10 = x12.val ∧
 Q (x12.val) w11) ∧
 ((decide (n1 = 24)) = false →
 ((decide (n1 = 22)) = true →
 StepT Tryz.prog (Instr.buildSlice 37 1 #[(0, (.int .i64 n3))]) v fun r13 w14 =>
 ∃ x15 : Sl, r13 = x15.val ∧
 Q (x15.val) w14) ∧
 ((decide (n1 = 22)) = false →
 ((decide (n1 = 20)) = true →
 ∃ n16 : Int, Wr .i64 (n_1 + 1) n16 ∧
 StepT Tryz.prog (Instr.buildSlice 37 1 #[(0, (.int .i64 n16))]) v fun r17 w18 =>
 ∃ x19 : Sl, r17 = x19.val ∧
 Trip Tryz.prog 115 #[x19.val, .int .i64 n3] w18 fun r20 w21 =>
 ∃ x22 : Sl, r20 = x22.val ∧
 Q (x22.val) w21) ∧
 ((decide (n1 = 20)) = false →
 ((decide (n1 = 21)) = true →
 StepT Tryz.prog (Instr.buildSlice 37 0 #[]) v fun r23 w24 =>
 ∃ x25 : Sl, r23 = x25.val ∧
 ∃ I26 : Sl → Int → World → Prop, ∃ m27 : Sl → Int → World → Nat, I26 x25 0 w24 ∧
 ∀ x28 : Sl, ∀ n29 : Int, ∀ w30 : World, I26 x28 n29 w30 →
 ((decide (n29 < (x6.n : Int))) = true →
 IxOk x6 n29 ∧
 ∃ n31 : Int, w30.cell? ((elA x6 n29 1).add 0) = some (.int .i64 n31) ∧
 Trip Tryz.prog 115 #[x28.val, .int .i64 n31] w30 fun r32 w33 =>
 ∃ x34 : Sl, r32 = x34.val ∧
 ∃ n35 : Int, Wr .i64 (n29 + 1) n35 ∧
 ((.num .i64 n1 : SV) = .num .i64 n1) ∧
 ((.num .i64 n2 : SV) = .num .i64 n2) ∧
 ((.num .i64 n3 : SV) = .num .i64 n3) ∧
 ((.num .i64 n4 : SV) = .num .i64 n4) ∧
 ((.sl x5 : SV) = .sl x5) ∧
 ((.sl x6 : SV) = .sl x6) ∧
 I26 x34 n35 w33 ∧
 m27 x34 n35 w33 < m27 x28 n29 w30) ∧
 ((decide (n29 < (x6.n : Int))) = false →
 Q (x28.val) w30)) ∧
 ((decide (n1 = 21)) = false →
 ∃ n36 : Int, Wr .i64 (n_1 + 1) n36 ∧
 StepT Tryz.prog (Instr.buildSlice 37 1 #[(0, (.int .i64 n36))]) v fun r37 w38 =>
 ∃ x39 : Sl, r37 = x39.val ∧
 Q (x39.val) w38)))))
theorem of82 (x_0 : Sl) (n_1 : Int) (v : World) (Q : Value → World → Prop) (h : vc82 x_0 n_1 v Q) : Trip Tryz.prog 82 #[x_0.val, .int .i64 n_1] v Q :=
 trip_of_eq (args := [.sl x_0, .num .i64 n_1]) (A := ⟨[(13, [(6, .sl), (7, .int .i64)], [])], [], [], [999999], psG⟩) Tryz.func82 (by kernel_rfl) (by kernel_rfl) (by kernel_rfl : vc82 x_0 n_1 v Q = _) h

def vc83 (x_0 : Sl) (n_1 : Int) (v : World) (Q : Value → World → Prop) : Prop :=
 StepT Tryz.prog (Instr.buildSlice 37 0 #[]) v fun r1 w2 =>
 ∃ x3 : Sl, r1 = x3.val ∧
 ∃ q4 : Bool, (Trip Tryz.prog 25 #[.int .i64 n_1, .int .i64 1, .int .i64 (x_0.n : Int)] w2 fun r5 w6 => r5 = .bool q4 ∧ Sub w2 w6) ∧
 ((!q4) = true →
 Q (x3.val) w2) ∧
 ((!q4) = false →
 ∃ I7 : Sl → Int → World → Prop, ∃ m8 : Sl → Int → World → Nat, I7 x3 0 w2 ∧
 ∀ x9 : Sl, ∀ n10 : Int, ∀ w11 : World, I7 x9 n10 w11 →
 ∃ n12 : Int, Wr .i64 (n_1 - 1) n12 ∧
 IxOk x_0 n12 ∧
 ∃ x13 : Sl, w11.cell? ((elA x_0 n12 3).add 2) = some (x13.val) ∧
 ((decide (n10 < (x13.n : Int))) = true →
 ∃ n14 : Int, Wr .i64 (n_1 - 1) n14 ∧
 ∃ n15 : Int, (Trip Tryz.prog 116 #[x_0.val, .int .i64 n14] w11 fun r16 w17 => r16 = .int .i64 n15 ∧ Sub w11 w17) ∧
 ∃ n18 : Int, Wr .i64 (n15 + n10) n18 ∧
 StepT Tryz.prog (Instr.buildSlice 37 1 #[(0, (.int .i64 n18))]) w11 fun r19 w20 =>
 ∃ x21 : Sl, r19 = x21.val ∧
 StepT Tryz.prog (Builtin.append_ #[37, 37] 37 #[(x9.val), (x21.val)]) w20 fun r22 w23 =>
 ∃ x24 : Sl, r22 = x24.val ∧
 ∃ n25 : Int, Wr .i64 (n10 + 1) n25 ∧
 I7 x24 n25 w23 ∧
 m8 x24 n25 w23 < m8 x9 n10 w11) ∧
 ((decide (n10 < (x13.n : Int))) = false →
 Q (x9.val) w11))
theorem of83 (x_0 : Sl) (n_1 : Int) (v : World) (Q : Value → World → Prop) (h : vc83 x_0 n_1 v Q) : Trip Tryz.prog 83 #[x_0.val, .int .i64 n_1] v Q :=
 trip_of_eq (args := [.sl x_0, .num .i64 n_1]) (A := ⟨[(5, [(5, .sl), (6, .int .i64)], [])], [], [], [], psG⟩) Tryz.func83 (by kernel_rfl) (by kernel_rfl) (by kernel_rfl : vc83 x_0 n_1 v Q = _) h

def vc84 (x_0 : Sl) (v : World) (Q : Value → World → Prop) : Prop :=
 StepT Tryz.prog (Instr.makeSlice 99 (.int .i64 (x_0.n : Int)) (.int .i64 (x_0.n : Int))) v fun r1 w2 =>
 ∃ x3 : Sl, r1 = x3.val ∧
 ∃ I4 : Int → World → Prop, ∃ m5 : Int → World → Nat, I4 0 w2 ∧
 ∀ n6 : Int, ∀ w7 : World, I4 n6 w7 →
 ((decide (n6 < (x_0.n : Int))) = true →
 IxOk x_0 n6 ∧
 ∃ x8 : Sl, w7.cell? ((elA x_0 n6 1).add 0) = some (x8.val) ∧
 Trip Tryz.prog 117 #[.agg #[x8.val]] w7 fun r9 w10 =>
 ∃ x11 : Sl, r9 = .agg #[x11.val] ∧
 IxOk x3 n6 ∧
 StoreAt w10 (elA x3 n6 1) 0 [x11.val] fun w12 =>
 ∃ n13 : Int, Wr .i64 (n6 + 1) n13 ∧
 I4 n13 w12 ∧
 m5 n13 w12 < m5 n6 w7) ∧
 ((decide (n6 < (x_0.n : Int))) = false →
 Q (x3.val) w7)
theorem of84 (x_0 : Sl) (v : World) (Q : Value → World → Prop) (h : vc84 x_0 v Q) : Trip Tryz.prog 84 #[x_0.val] v Q :=
 trip_of_eq (args := [.sl x_0]) (A := ⟨[(3, [(4, .int .i64)], [])], [], [], [], psG⟩) Tryz.func84 (by kernel_rfl) (by kernel_rfl) (by kernel_rfl : vc84 x_0 v Q = _) h

def vc85 (x_0 : Sl) (v : World) (Q : Value → World → Prop) : Prop :=
 StepT Tryz.prog (Instr.makeSlice 37 (.int .i64 (x_0.n : Int)) (.int .i64 (x_0.n : Int))) v fun r1 w2 =>
 ∃ x3 : Sl, r1 = x3.val ∧
 ∃ I4 : Int → World → Prop, ∃ m5 : Int → World → Nat, I4 0 w2 ∧
 ∀ n6 : Int, ∀ w7 : World, I4 n6 w7 →
 ((decide (n6 < (x_0.n : Int))) = true →
 IxOk x_0 n6 ∧
 ∃ n8 : Int, w7.cell? ((elA x_0 n6 1).add 0) = some (.int .i64 n8) ∧
 IxOk x3 n6 ∧
 StoreAt w7 (elA x3 n6 1) 0 [.int .i64 n8] fun w9 =>
 ∃ n10 : Int, Wr .i64 (n6 + 1) n10 ∧
 I4 n10 w9 ∧
 m5 n10 w9 < m5 n6 w7) ∧
 ((decide (n6 < (x_0.n : Int))) = false →
 Q (x3.val) w7)
theorem of85 (x_0 : Sl) (v : World) (Q : Value → World → Prop) (h : vc85 x_0 v Q) : Trip Tryz.prog 85 #[x_0.val] v Q :=
 trip_of_eq (args := [.sl x_0]) (A := ⟨[(3, [(4, .int .i64)], [])], [], [], [], psG⟩) Tryz.func85 (by kernel_rfl) (by kernel_rfl) (by kernel_rfl : vc85 x_0 v Q = _) h

def vc86 (x_0 : Sl) (v : World) (Q : Value → World → Prop) : Prop :=
 StepT Tryz.prog (Instr.makeSlice 49 (.int .i64 (x_0.n : Int)) (.int .i64 (x_0.n : Int))) v fun r1 w2 =>
 ∃ x3 : Sl, r1 = x3.val ∧
 ∃ I4 : Int → World → Prop, ∃ m5 : Int → World → Nat, I4 0 w2 ∧
 ∀ n6 : Int, ∀ w7 : World, I4 n6 w7 →
 ((decide (n6 < (x_0.n : Int))) = true →
 IxOk x_0 n6 ∧
 ∃ n8 : Int, ∃ n9 : Int, ∃ n10 : Int, ∃ n11 : Int, ∃ x12 : Sl, ∃ x13 : Sl, (w7.cell? ((elA x_0 n6 6).add 0) = some (.int .i64 n8) ∧
 w7.cell? ((elA x_0 n6 6).add 1) = some (.int .i64 n9) ∧
 w7.cell? ((elA x_0 n6 6).add 2) = some (.int .i64 n10) ∧
 w7.cell? ((elA x_0 n6 6).add 3) = some (.int .i64 n11) ∧
 w7.cell? ((elA x_0 n6 6).add 4) = some (x12.val) ∧
 w7.cell? ((elA x_0 n6 6).add 5) = some (x13.val)) ∧
 Trip Tryz.prog 118 #[.agg #[.int .i64 n8, .int .i64 n9, .int .i64 n10, .int .i64 n11, x12.val, x13.val]] w7 fun r14 w15 =>
 ∃ n16 : Int, ∃ n17 : Int, ∃ n18 : Int, ∃ n19 : Int, ∃ x20 : Sl, ∃ x21 : Sl, r14 = .agg #[.int .i64 n16, .int .i64 n17, .int .i64 n18, .int .i64 n19, x20.val, x21.val] ∧
 IxOk x3 n6 ∧
 StoreAt w15 (elA x3 n6 6) 0 [.int .i64 n16, .int .i64 n17, .int .i64 n18, .int .i64 n19, x20.val, x21.val] fun w22 =>
 ∃ n23 : Int, Wr .i64 (n6 + 1) n23 ∧
 I4 n23 w22 ∧
 m5 n23 w22 < m5 n6 w7) ∧
 ((decide (n6 < (x_0.n : Int))) = false →
 Q (x3.val) w7)
theorem of86 (x_0 : Sl) (v : World) (Q : Value → World → Prop) (h : vc86 x_0 v Q) : Trip Tryz.prog 86 #[x_0.val] v Q :=
 trip_of_eq (args := [.sl x_0]) (A := ⟨[(3, [(4, .int .i64)], [])], [], [], [], psG⟩) Tryz.func86 (by kernel_rfl) (by kernel_rfl) (by kernel_rfl : vc86 x_0 v Q = _) h

def vc87 (x_0 : Sl) (x_1 : Sl) (v : World) (Q : Value → World → Prop) : Prop :=
 ∃ q1 : Bool, (Trip Tryz.prog 119 #[x_0.val] v fun r2 w3 => r2 = .bool q1 ∧ Sub v w3) ∧
 ((((!q1) || (decide ((x_1.n : Int) < 1))) || (decide ((x_1.n : Int) > 4))) = false →
 IxOk x_1 0) ∧
 ∃ x4 : Sl, ((((!q1) || (decide ((x_1.n : Int) < 1))) || (decide ((x_1.n : Int) > 4))) = false →
 v.cell? ((elA x_1 0 3).add 0) = some (x4.val)) ∧
 (((((!q1) || (decide ((x_1.n : Int) < 1))) || (decide ((x_1.n : Int) > 4))) || (decide ((x4.n : Int) > 0))) = false →
 IxOk x_1 0) ∧
 ∃ n5 : Int, (((((!q1) || (decide ((x_1.n : Int) < 1))) || (decide ((x_1.n : Int) > 4))) || (decide ((x4.n : Int) > 0))) = false →
 v.cell? ((elA x_1 0 3).add 2) = some (.int .i64 n5)) ∧
 ((((((!q1) || (decide ((x_1.n : Int) < 1))) || (decide ((x_1.n : Int) > 4))) || (decide ((x4.n : Int) > 0))) || (!decide (n5 = 0))) = true →
 Q (.bool false) v) ∧
 ((((((!q1) || (decide ((x_1.n : Int) < 1))) || (decide ((x_1.n : Int) > 4))) || (decide ((x4.n : Int) > 0))) || (!decide (n5 = 0))) = false →
 ∃ I6 : Int → World → Prop, ∃ m7 : Int → World → Nat, I6 0 v ∧
 ∀ n8 : Int, ∀ w9 : World, I6 n8 w9 →
 ((decide (n8 < (x_1.n : Int))) = true →
 IxOk x_1 n8 ∧
 ∃ x10 : Sl, ∃ x11 : Sl, ∃ n12 : Int, (w9.cell? ((elA x_1 n8 3).add 0) = some (x10.val) ∧
 w9.cell? ((elA x_1 n8 3).add 1) = some (x11.val) ∧
 w9.cell? ((elA x_1 n8 3).add 2) = some (.int .i64 n12)) ∧
 ∃ q13 : Bool, ((decide ((x10.n : Int) > 3)) = false →
 (Trip Tryz.prog 120 #[x_0.val, x10.val] w9 fun r14 w15 => r14 = .bool q13 ∧ Sub w9 w15)) ∧
 ∃ q16 : Bool, (((decide ((x10.n : Int) > 3)) || (!q13)) = false →
 (Trip Tryz.prog 121 #[x_0.val, .int .i64 n12] w9 fun r17 w18 => r17 = .bool q16 ∧ Sub w9 w18)) ∧
 ((((decide ((x10.n : Int) > 3)) || (!q13)) || (!q16)) = true →
 Q (.bool false) w9) ∧
 ((((decide ((x10.n : Int) > 3)) || (!q13)) || (!q16)) = false →
 ∃ I19 : Int → World → Prop, ∃ m20 : Int → World → Nat, I19 0 w9 ∧
 ∀ n21 : Int, ∀ w22 : World, I19 n21 w22 →
 ((decide (n21 < (x11.n : Int))) = true →
 IxOk x11 n21 ∧
 ∃ n23 : Int, w22.cell? ((elA x11 n21 1).add 0) = some (.int .i64 n23) ∧
 (((decide (n23 < 0)) || (decide (n23 ≥ (x10.n : Int)))) = false →
 IxOk x10 n23) ∧
 ∃ n24 : Int, (((decide (n23 < 0)) || (decide (n23 ≥ (x10.n : Int)))) = false →
 w22.cell? ((elA x10 n23 1).add 0) = some (.int .i64 n24)) ∧
 ∃ n25 : Int, ((decide (n21 > 0)) = true →
 (((decide (n23 < 0)) || (decide (n23 ≥ (x10.n : Int)))) || (decide (n24 = 0))) = false →
 Wr .i64 (n21 - 1) n25) ∧
 ((decide (n21 > 0)) = true →
 (((decide (n23 < 0)) || (decide (n23 ≥ (x10.n : Int)))) || (decide (n24 = 0))) = false →
 IxOk x11 n25) ∧
 ∃ n26 : Int, ((decide (n21 > 0)) = true →
 (((decide (n23 < 0)) || (decide (n23 ≥ (x10.n : Int)))) || (decide (n24 = 0))) = false →
 w22.cell? ((elA x11 n25 1).add 0) = some (.int .i64 n26)) ∧
 (((((decide (n23 < 0)) || (decide (n23 ≥ (x10.n : Int)))) || (decide (n24 = 0))) || ((decide (n21 > 0)) && (decide (n23 ≤ n26)))) = true →
 Q (.bool false) w22) ∧
 (((((decide (n23 < 0)) || (decide (n23 ≥ (x10.n : Int)))) || (decide (n24 = 0))) || ((decide (n21 > 0)) && (decide (n23 ≤ n26)))) = false →
 ∃ n27 : Int, Wr .i64 (n21 + 1) n27 ∧
 ((.sl x10 : SV) = .sl x10) ∧
 ((.sl x11 : SV) = .sl x11) ∧
 ((.num .i64 n12 : SV) = .num .i64 n12) ∧
 I19 n27 w22 ∧
 m20 n27 w22 < m20 n21 w22)) ∧
 ((decide (n21 < (x11.n : Int))) = false →
 ∃ n28 : Int, Wr .i64 (n8 + 1) n28 ∧
 I6 n28 w22 ∧
 m7 n28 w22 < m7 n8 w9))) ∧
 ((decide (n8 < (x_1.n : Int))) = false →
 Q (.bool true) w9))
theorem of87 (x_0 : Sl) (x_1 : Sl) (v : World) (Q : Value → World → Prop) (h : vc87 x_0 x_1 v Q) : Trip Tryz.prog 87 #[x_0.val, x_1.val] v Q :=
 trip_of_eq (args := [.sl x_0, .sl x_1]) (A := ⟨[(4, [(39, .int .i64)], []), (9, [(64, .int .i64)], [])], [], [], [], psG⟩) Tryz.func87 (by kernel_rfl) (by kernel_rfl) (by kernel_rfl : vc87 x_0 x_1 v Q = _) h

def vc88 (n_0 : Int) (v : World) (Q : Value → World → Prop) : Prop :=
 Q (.bool ((((decide (n_0 ≥ 0)) && (decide (n_0 ≤ 11))) || (decide (n_0 = 18))) || (decide (n_0 = 19)))) v
theorem of88 (n_0 : Int) (v : World) (Q : Value → World → Prop) (h : vc88 n_0 v Q) : Trip Tryz.prog 88 #[.int .i64 n_0] v Q :=
 trip_of_eq (args := [.num .i64 n_0]) (A := ⟨[], [], [], [], psG⟩) Tryz.func88 (by kernel_rfl) (by kernel_rfl) (by kernel_rfl : vc88 n_0 v Q = _) h

def vc89 (n_0 : Int) (c_0 : Addr) (c_1 : Addr) (v : World) (Q : Value → World → Prop) : Prop :=
 ∃ n1 : Int, v.cell? (c_0.add 0) = some (.int .i64 n1) ∧
 ∃ x2 : Sl, ((decide (n_0 > n1)) = true →
 v.cell? (c_1.add 4) = some (x2.val)) ∧
 Q (.bool ((decide (n_0 > n1)) && (decide (n_0 < (x2.n : Int))))) v
theorem of89 (n_0 : Int) (c_0 : Addr) (c_1 : Addr) (v : World) (Q : Value → World → Prop) (h : vc89 n_0 c_0 c_1 v Q) : Trip Tryz.prog 89 #[.int .i64 n_0, .pointer (some (c_0.add 0)), .pointer (some (c_1.add 0))] v Q :=
 trip_of_eq (args := [.num .i64 n_0, .pt c_0 0, .pt c_1 0]) (A := ⟨[], [], [], [], psG⟩) Tryz.func89 (by kernel_rfl) (by kernel_rfl) (by kernel_rfl : vc89 n_0 c_0 c_1 v Q = _) h

def vc90 (x_0 : Sl) (f_1 : Nat) (k1_0 : Addr) (v : World) (Q : Value → World → Prop) : Prop :=
 Trip Tryz.prog 122 #[x_0.val, .func (.func f_1) #[] #[.pointer (some (k1_0.add 0))]] v fun r1 w2 =>
 ∃ n3 : Int, r1 = .int .i64 n3 ∧
 Q (.bool (decide (n3 ≥ 0))) w2
theorem of90 (x_0 : Sl) (f_1 : Nat) (k1_0 : Addr) (v : World) (Q : Value → World → Prop) (h : vc90 x_0 f_1 k1_0 v Q) : Trip Tryz.prog 90 #[x_0.val, .func (.func f_1) #[] #[.pointer (some (k1_0.add 0))]] v Q :=
 trip_of_eq (args := [.sl x_0, .clo f_1 [.pt k1_0 0]]) (A := ⟨[], [], [], [], psG⟩) Tryz.func90 (by kernel_rfl) (by kernel_rfl) (by kernel_rfl : vc90 x_0 f_1 k1_0 v Q = _) h

def vc91 (n_0 : Int) (c_0 : Addr) (v : World) (Q : Value → World → Prop) : Prop :=
 ∃ y1 : Vl, v.cell? (c_0.add 0) = some (y1.x) ∧
 ∃ g4 : Nat, ∃ cs5 : List Value, y1.x = .func (.func g4) #[] cs5.toArray ∧
 Trip Tryz.prog g4 (([.int .i64 n_0] : List Value) ++ cs5).toArray v fun r2 w3 =>
 ∃ q6 : Bool, r2 = .bool q6 ∧
 Q (.bool (!q6)) w3
theorem of91 (n_0 : Int) (c_0 : Addr) (v : World) (Q : Value → World → Prop) (h : vc91 n_0 c_0 v Q) : Trip Tryz.prog 91 #[.int .i64 n_0, .pointer (some (c_0.add 0))] v Q :=
 trip_of_eq (args := [.num .i64 n_0, .pt c_0 0]) (A := ⟨[], [], [], [], psG⟩) Tryz.func91 (by kernel_rfl) (by kernel_rfl) (by kernel_rfl : vc91 n_0 c_0 v Q = _) h

def vc92 (x0_0 : Sl) (x0_1 : Sl) (n1_0 : Int) (n1_1 : Int) (n1_2 : Int) (n1_3 : Int) (x1_4 : Sl) (x1_5 : Sl) (f_2 : Nat) (k2_0 : Addr) (k2_1 : Addr) (v : World) (Q : Value → World → Prop) : Prop :=
 ((decide (n1_0 = 0)) = true →
 Q (.bool ((decide (n1_2 ≥ (-999))) && (decide (n1_2 ≤ 999)))) v) ∧
 ((decide (n1_0 = 0)) = false →
 ((decide (n1_0 = 6)) = true →
 ∃ n1 : Int, ((decide (n1_2 ≥ 0)) = true →
 (Trip Tryz.prog 123 #[x0_0.val] v fun r2 w3 => r2 = .int .i64 n1 ∧ Sub v w3)) ∧
 Q (.bool ((decide (n1_2 ≥ 0)) && (decide (n1_2 < n1)))) v) ∧
 ((decide (n1_0 = 6)) = false →
 ((decide (n1_0 = 9)) = true →
 Q (.bool ((decide (n1_2 ≥ 0)) && (decide (n1_2 < (x0_1.n : Int))))) v) ∧
 ((decide (n1_0 = 9)) = false →
 ((decide (n1_0 = 24)) = true →
 Q (.bool ((decide (n1_2 ≥ 0)) && (decide (n1_2 < (x0_1.n : Int))))) v) ∧
 ((decide (n1_0 = 24)) = false →
 ((decide (n1_0 = 10)) = true →
 (((decide (n1_2 ≥ 0)) && (decide (n1_2 < (x0_1.n : Int)))) = true →
 IxOk x0_1 n1_2) ∧
 ∃ x4 : Sl, (((decide (n1_2 ≥ 0)) && (decide (n1_2 < (x0_1.n : Int)))) = true →
 v.cell? ((elA x0_1 n1_2 3).add 1) = some (x4.val)) ∧
 Q (.bool (((decide (n1_2 ≥ 0)) && (decide (n1_2 < (x0_1.n : Int)))) && (decide ((x4.n : Int) = 0)))) v) ∧
 ((decide (n1_0 = 10)) = false →
 ((decide (n1_0 = 19)) = true →
 Q (.bool ((decide (n1_2 ≥ 0)) && (decide (n1_2 < 3)))) v) ∧
 ((decide (n1_0 = 19)) = false →
 ((decide (n1_0 = 20)) = true →
 Trip Tryz.prog f_2 #[.int .i64 n1_2, .pointer (some (k2_0.add 0)), .pointer (some (k2_1.add 0))] v fun r5 w6 =>
 ∃ q7 : Bool, r5 = .bool q7 ∧
 Q (.bool q7) w6) ∧
 ((decide (n1_0 = 20)) = false →
 ((decide (n1_0 = 22)) = true →
 Trip Tryz.prog f_2 #[.int .i64 n1_2, .pointer (some (k2_0.add 0)), .pointer (some (k2_1.add 0))] v fun r8 w9 =>
 ∃ q10 : Bool, r8 = .bool q10 ∧
 Q (.bool q10) w9) ∧
 ((decide (n1_0 = 22)) = false →
 ((decide (n1_0 = 21)) = true →
 Trip Tryz.prog 124 #[x0_0.val, .int .i64 n1_2] v fun r11 w12 =>
 ∃ x13 : Sl, r11 = x13.val ∧
 Q (.bool ((decide ((x13.n : Int) > 0)) && (decide ((x1_5.n : Int) = (x13.n : Int))))) w12) ∧
 ((decide (n1_0 = 21)) = false →
 Q (.bool (decide (n1_2 = 0))) v)))))))))
theorem of92 (x0_0 : Sl) (x0_1 : Sl) (n1_0 : Int) (n1_1 : Int) (n1_2 : Int) (n1_3 : Int) (x1_4 : Sl) (x1_5 : Sl) (f_2 : Nat) (k2_0 : Addr) (k2_1 : Addr) (v : World) (Q : Value → World → Prop) (h : vc92 x0_0 x0_1 n1_0 n1_1 n1_2 n1_3 x1_4 x1_5 f_2 k2_0 k2_1 v Q) : Trip Tryz.prog 92 #[.agg #[x0_0.val, x0_1.val], .agg #[.int .i64 n1_0, .int .i64 n1_1, .int .i64 n1_2, .int .i64 n1_3, x1_4.val, x1_5.val], .func (.func f_2) #[] #[.pointer (some (k2_0.add 0)), .pointer (some (k2_1.add 0))]] v Q :=
 trip_of_eq (args := [.ag [.sl x0_0, .sl x0_1], .ag [.num .i64 n1_0, .num .i64 n1_1, .num .i64 n1_2, .num .i64 n1_3, .sl x1_4, .sl x1_5], .clo f_2 [.pt k2_0 0, .pt k2_1 0]]) (A := ⟨[], [], [], [999999], psG⟩) Tryz.func92 (by kernel_rfl) (by kernel_rfl) (by kernel_rfl : vc92 x0_0 x0_1 n1_0 n1_1 n1_2 n1_3 x1_4 x1_5 f_2 k2_0 k2_1 v Q = _) h

def vc93 (x0_0 : Sl) (x0_1 : Sl) (n1_0 : Int) (n1_1 : Int) (n1_2 : Int) (n1_3 : Int) (x1_4 : Sl) (x1_5 : Sl) (v : World) (Q : Value → World → Prop) : Prop :=
 ((decide (n1_0 = 0)) = true →
 Q (.tuple #[.int .i64 0, .int .i64 0]) v) ∧
 ((decide (n1_0 = 0)) = false →
 ((decide (n1_0 = 22)) = true →
 Q (.tuple #[.int .i64 0, .int .i64 0]) v) ∧
 ((decide (n1_0 = 22)) = false →
 ((decide (n1_0 = 1)) = true →
 Q (.tuple #[.int .i64 2, .int .i64 2]) v) ∧
 ((decide (n1_0 = 1)) = false →
 ((decide (n1_0 = 2)) = true →
 Q (.tuple #[.int .i64 2, .int .i64 2]) v) ∧
 ((decide (n1_0 = 2)) = false →
 ((decide (n1_0 = 3)) = true →
 Q (.tuple #[.int .i64 2, .int .i64 2]) v) ∧
 ((decide (n1_0 = 3)) = false →
 ((decide (n1_0 = 4)) = true →
 Q (.tuple #[.int .i64 2, .int .i64 2]) v) ∧
 ((decide (n1_0 = 4)) = false →
 ((decide (n1_0 = 11)) = true →
 Q (.tuple #[.int .i64 2, .int .i64 2]) v) ∧
 ((decide (n1_0 = 11)) = false →
 ((decide (n1_0 = 6)) = true →
 ∃ x1 : Sl, (Trip Tryz.prog 125 #[x0_0.val, .int .i64 n1_2] v fun r2 w3 => r2 = x1.val ∧ Sub v w3) ∧
 Q (.tuple #[.int .i64 (x1.n : Int), .int .i64 (x1.n : Int)]) v) ∧
 ((decide (n1_0 = 6)) = false →
 ((decide (n1_0 = 9)) = true →
 IxOk x0_1 n1_2 ∧
 ∃ x4 : Sl, v.cell? ((elA x0_1 n1_2 3).add 0) = some (x4.val) ∧
 Q (.tuple #[.int .i64 (x4.n : Int), .int .i64 (x4.n : Int)]) v) ∧
 ((decide (n1_0 = 9)) = false →
 ((decide (n1_0 = 24)) = true →
 IxOk x0_1 n1_2 ∧
 ∃ x5 : Sl, v.cell? ((elA x0_1 n1_2 3).add 0) = some (x5.val) ∧
 Q (.tuple #[.int .i64 (x5.n : Int), .int .i64 (x5.n : Int)]) v) ∧
 ((decide (n1_0 = 24)) = false →
 ((decide (n1_0 = 10)) = true →
 IxOk x0_1 n1_2 ∧
 ∃ x6 : Sl, v.cell? ((elA x0_1 n1_2 3).add 0) = some (x6.val) ∧
 ∃ n7 : Int, Wr .i64 ((x6.n : Int) - 1) n7 ∧
 Q (.tuple #[.int .i64 n7, .int .i64 n7]) v) ∧
 ((decide (n1_0 = 10)) = false →
 ((decide (n1_0 = 16)) = true →
 Q (.tuple #[.int .i64 1, .int .i64 4]) v) ∧
 ((decide (n1_0 = 16)) = false →
 ((decide (n1_0 = 17)) = true →
 Q (.tuple #[.int .i64 1, .int .i64 4]) v) ∧
 ((decide (n1_0 = 17)) = false →
 Q (.tuple #[.int .i64 1, .int .i64 1]) v)))))))))))))
theorem of93 (x0_0 : Sl) (x0_1 : Sl) (n1_0 : Int) (n1_1 : Int) (n1_2 : Int) (n1_3 : Int) (x1_4 : Sl) (x1_5 : Sl) (v : World) (Q : Value → World → Prop) (h : vc93 x0_0 x0_1 n1_0 n1_1 n1_2 n1_3 x1_4 x1_5 v Q) : Trip Tryz.prog 93 #[.agg #[x0_0.val, x0_1.val], .agg #[.int .i64 n1_0, .int .i64 n1_1, .int .i64 n1_2, .int .i64 n1_3, x1_4.val, x1_5.val]] v Q :=
 trip_of_eq (args := [.ag [.sl x0_0, .sl x0_1], .ag [.num .i64 n1_0, .num .i64 n1_1, .num .i64 n1_2, .num .i64 n1_3, .sl x1_4, .sl x1_5]]) (A := ⟨[], [], [], [999999], psG⟩) Tryz.func93 (by kernel_rfl) (by kernel_rfl) (by kernel_rfl : vc93 x0_0 x0_1 n1_0 n1_1 n1_2 n1_3 x1_4 x1_5 v Q = _) h

def vc94 (x_0 : Sl) (n_1 : Int) (v : World) (Q : Value → World → Prop) : Prop :=
 ∃ I1 : Int → World → Prop, ∃ m2 : Int → World → Nat, I1 0 v ∧
 ∀ n3 : Int, ∀ w4 : World, I1 n3 w4 →
 ((decide (n3 < (x_0.n : Int))) = true →
 IxOk x_0 n3 ∧
 ∃ n5 : Int, w4.cell? ((elA x_0 n3 1).add 0) = some (.int .i64 n5) ∧
 ((decide (n_1 = n5)) = true →
 Q (.int .i64 n3) w4) ∧
 ((decide (n_1 = n5)) = false →
 ∃ n6 : Int, Wr .i64 (n3 + 1) n6 ∧
 I1 n6 w4 ∧
 m2 n6 w4 < m2 n3 w4)) ∧
 ((decide (n3 < (x_0.n : Int))) = false →
 Q (.int .i64 (-1)) w4)
theorem of94 (x_0 : Sl) (n_1 : Int) (v : World) (Q : Value → World → Prop) (h : vc94 x_0 n_1 v Q) : Trip Tryz.prog 94 #[x_0.val, .int .i64 n_1] v Q :=
 trip_of_eq (args := [.sl x_0, .num .i64 n_1]) (A := ⟨[(2, [(8, .int .i64)], [])], [], [], [], psG⟩) Tryz.func94 (by kernel_rfl) (by kernel_rfl) (by kernel_rfl : vc94 x_0 n_1 v Q = _) h

def vc95 (a_0 : Addr) (v : World) (Q : Value → World → Prop) : Prop :=
 ∃ x1 : Sl, v.cell? (a_0.add 0) = some (x1.val) ∧
 ∃ x2 : Sl, v.cell? (a_0.add 1) = some (x2.val) ∧
 Trip Tryz.prog 126 #[x1.val] v fun r3 w4 =>
 ∃ x5 : Sl, r3 = x5.val ∧
 Sub v w4 ∧
 Trip Tryz.prog 127 #[x2.val] w4 fun r6 w7 =>
 ∃ x8 : Sl, r6 = x8.val ∧
 NewAt w7 (.cells #[x5.val, x8.val] 69 (0, 0)) fun a9 w10 =>
 Q (.pointer (some (a9.add 0))) w10
theorem of95 (a_0 : Addr) (v : World) (Q : Value → World → Prop) (h : vc95 a_0 v Q) : Trip Tryz.prog 95 #[.pointer (some (a_0.add 0))] v Q :=
 trip_of_eq (args := [.pt a_0 0]) (A := ⟨[], [], [(1, [4])], [14], psG⟩) Tryz.func95 (by kernel_rfl) (by kernel_rfl) (by kernel_rfl : vc95 a_0 v Q = _) h

def vc96 (a_0 : Addr) (a_1 : Addr) (n2_0 : Int) (n2_1 : Int) (n2_2 : Int) (n2_3 : Int) (x2_4 : Sl) (x2_5 : Sl) (v : World) (Q : Value → World → Prop) : Prop :=
 ∃ x1 : Sl, v.cell? (a_1.add 0) = some (x1.val) ∧
 IxOk x2_4 0 ∧
 ∃ n2 : Int, v.cell? ((elA x2_4 0 1).add 0) = some (.int .i64 n2) ∧
 IxOk x1 n2 ∧
 ∃ n3 : Int, v.cell? ((elA x1 n2 6).add 0) = some (.int .i64 n3) ∧
 ((!decide (n3 = n2_2)) = false →
 IxOk x2_4 0) ∧
 ∃ n4 : Int, ((!decide (n3 = n2_2)) = false →
 v.cell? ((elA x2_4 0 1).add 0) = some (.int .i64 n4)) ∧
 ∃ q5 : Bool, ((!decide (n3 = n2_2)) = false →
 (Trip Tryz.prog 128 #[.pointer (some (a_1.add 0)), .int .i64 n4] v fun r6 w7 => r6 = .bool q5 ∧ Sub v w7)) ∧
 (((!decide (n3 = n2_2)) || (!q5)) = true →
 Q (.bool false) v) ∧
 (((!decide (n3 = n2_2)) || (!q5)) = false →
 ∃ n8 : Int, v.cell? ((elA x1 n2 6).add 3) = some (.int .i64 n8) ∧
 ∃ x9 : Sl, v.cell? (a_0.add 0) = some (x9.val) ∧
 Trip Tryz.prog 124 #[x9.val, .int .i64 n2_2] v fun r10 w11 =>
 ∃ x12 : Sl, r10 = x12.val ∧
 ∃ I13 : Int → World → Prop, ∃ m14 : Int → World → Nat, I13 0 w11 ∧
 ∀ n15 : Int, ∀ w16 : World, I13 n15 w16 →
 ((decide (n15 < (x12.n : Int))) = true →
 IxOk x12 n15 ∧
 ∃ n17 : Int, w16.cell? ((elA x12 n15 1).add 0) = some (.int .i64 n17) ∧
 (((decide (n8 ≥ 0)) && (!decide (n8 = n17))) = true →
 ∃ n18 : Int, Wr .i64 (n15 + 1) n18 ∧
 ((.num .i64 n2_0 : SV) = .num .i64 n2_0) ∧
 ((.num .i64 n2_1 : SV) = .num .i64 n2_1) ∧
 ((.num .i64 n2_2 : SV) = .num .i64 n2_2) ∧
 ((.num .i64 n2_3 : SV) = .num .i64 n2_3) ∧
 ((.sl x2_4 : SV) = .sl x2_4) ∧
 ((.sl x2_5 : SV) = .sl x2_5) ∧
 I13 n18 w16 ∧
 m14 n18 w16 < m14 n15 w16) ∧
 (((decide (n8 ≥ 0)) && (!decide (n8 = n17))) = false →
 StoreAt w16 (elA x1 n2 6) 3 [.int .i64 n17] fun w19 =>
 IxOk x2_5 n15 ∧
 ∃ n20 : Int, w19.cell? ((elA x2_5 n15 1).add 0) = some (.int .i64 n20) ∧
 Trip Tryz.prog 99 #[.pointer (some (a_0.add 0)), .pointer (some (a_1.add 0)), .int .i64 n20] w19 fun r21 w22 =>
 ∃ q23 : Bool, r21 = .bool q23 ∧
 ((!q23) = true →
 Q (.bool false) w22) ∧
 ((!q23) = false →
 ∃ n24 : Int, Wr .i64 (n15 + 1) n24 ∧
 ((.num .i64 n2_0 : SV) = .num .i64 n2_0) ∧
 ((.num .i64 n2_1 : SV) = .num .i64 n2_1) ∧
 ((.num .i64 n2_2 : SV) = .num .i64 n2_2) ∧
 ((.num .i64 n2_3 : SV) = .num .i64 n2_3) ∧
 ((.sl x2_4 : SV) = .sl x2_4) ∧
 ((.sl x2_5 : SV) = .sl x2_5) ∧
 I13 n24 w22 ∧
 m14 n24 w22 < m14 n15 w16))) ∧
 ((decide (n15 < (x12.n : Int))) = false →
 Q (.bool true) w16))
theorem of96 (a_0 : Addr) (a_1 : Addr) (n2_0 : Int) (n2_1 : Int) (n2_2 : Int) (n2_3 : Int) (x2_4 : Sl) (x2_5 : Sl) (v : World) (Q : Value → World → Prop) (h : vc96 a_0 a_1 n2_0 n2_1 n2_2 n2_3 x2_4 x2_5 v Q) : Trip Tryz.prog 96 #[.pointer (some (a_0.add 0)), .pointer (some (a_1.add 0)), .agg #[.int .i64 n2_0, .int .i64 n2_1, .int .i64 n2_2, .int .i64 n2_3, x2_4.val, x2_5.val]] v Q :=
 trip_of_eq (args := [.pt a_0 0, .pt a_1 0, .ag [.num .i64 n2_0, .num .i64 n2_1, .num .i64 n2_2, .num .i64 n2_3, .sl x2_4, .sl x2_5]]) (A := ⟨[(6, [(49, .int .i64)], [])], [], [(5, [])], [], psG⟩) Tryz.func96 (by kernel_rfl) (by kernel_rfl) (by kernel_rfl : vc96 a_0 a_1 n2_0 n2_1 n2_2 n2_3 x2_4 x2_5 v Q = _) h

def vc97 (a_0 : Addr) (a_1 : Addr) (n2_0 : Int) (n2_1 : Int) (n2_2 : Int) (n2_3 : Int) (x2_4 : Sl) (x2_5 : Sl) (v : World) (Q : Value → World → Prop) : Prop :=
 ((decide (n2_0 = 22)) = true →
 Q (.bool true) v) ∧
 ((decide (n2_0 = 22)) = false →
 ((decide (n2_0 = 14)) = true →
 ∃ x1 : Sl, v.cell? (a_1.add 0) = some (x1.val) ∧
 IxOk x2_4 0 ∧
 ∃ n2 : Int, v.cell? ((elA x2_4 0 1).add 0) = some (.int .i64 n2) ∧
 IxOk x1 n2 ∧
 ∃ n3 : Int, v.cell? ((elA x1 n2 6).add 0) = some (.int .i64 n3) ∧
 ((decide (n3 ≤ 0)) = false →
 IxOk x2_4 0) ∧
 ∃ n4 : Int, ((decide (n3 ≤ 0)) = false →
 v.cell? ((elA x2_4 0 1).add 0) = some (.int .i64 n4)) ∧
 ∃ q5 : Bool, ((decide (n3 ≤ 0)) = false →
 (Trip Tryz.prog 128 #[.pointer (some (a_1.add 0)), .int .i64 n4] v fun r6 w7 => r6 = .bool q5 ∧ Sub v w7)) ∧
 (((decide (n3 ≤ 0)) || (!q5)) = true →
 Q (.bool false) v) ∧
 (((decide (n3 ≤ 0)) || (!q5)) = false →
 ∃ x8 : Sl, v.cell? (a_1.add 0) = some (x8.val) ∧
 IxOk x2_4 0 ∧
 ∃ n9 : Int, v.cell? ((elA x2_4 0 1).add 0) = some (.int .i64 n9) ∧
 IxOk x8 n9 ∧
 ∃ n10 : Int, v.cell? ((elA x8 n9 6).add 1) = some (.int .i64 n10) ∧
 ∃ n11 : Int, Wr .i64 (n10 + 1) n11 ∧
 IxOk x8 n9 ∧
 StoreAt v (elA x8 n9 6) 1 [.int .i64 n11] fun w12 =>
 Q (.bool true) w12)) ∧
 ((decide (n2_0 = 14)) = false →
 ((decide (n2_0 = 15)) = true →
 ∃ x13 : Sl, v.cell? (a_1.add 0) = some (x13.val) ∧
 IxOk x2_4 0 ∧
 ∃ n14 : Int, v.cell? ((elA x2_4 0 1).add 0) = some (.int .i64 n14) ∧
 IxOk x13 n14 ∧
 ∃ n15 : Int, v.cell? ((elA x13 n14 6).add 0) = some (.int .i64 n15) ∧
 ((decide (n15 > 0)) = true →
 IxOk x2_4 0) ∧
 ∃ n16 : Int, ((decide (n15 > 0)) = true →
 v.cell? ((elA x2_4 0 1).add 0) = some (.int .i64 n16)) ∧
 ((decide (n15 > 0)) = true →
 Trip Tryz.prog 129 #[.pointer (some (a_1.add 0)), .int .i64 n16] v fun r17 w18 =>
 ∃ q19 : Bool, r17 = .bool q19 ∧
 Q (.bool q19) w18) ∧
 ((decide (n15 > 0)) = false →
 Q (.bool false) v)) ∧
 ((decide (n2_0 = 15)) = false →
 ((decide (n2_0 = 16)) = true →
 Trip Tryz.prog 130 #[.pointer (some (a_0.add 0)), .pointer (some (a_1.add 0)), .agg #[.int .i64 n2_0, .int .i64 n2_1, .int .i64 n2_2, .int .i64 n2_3, x2_4.val, x2_5.val]] v fun r20 w21 =>
 ∃ q22 : Bool, r20 = .bool q22 ∧
 Q (.bool q22) w21) ∧
 ((decide (n2_0 = 16)) = false →
 ((decide (n2_0 = 17)) = true →
 Trip Tryz.prog 130 #[.pointer (some (a_0.add 0)), .pointer (some (a_1.add 0)), .agg #[.int .i64 n2_0, .int .i64 n2_1, .int .i64 n2_2, .int .i64 n2_3, x2_4.val, x2_5.val]] v fun r23 w24 =>
 ∃ q25 : Bool, r23 = .bool q25 ∧
 Q (.bool q25) w24) ∧
 ((decide (n2_0 = 17)) = false →
 ((decide (n2_0 = 18)) = true →
 ∃ x26 : Sl, v.cell? (a_1.add 0) = some (x26.val) ∧
 IxOk x2_4 0 ∧
 ∃ n27 : Int, v.cell? ((elA x2_4 0 1).add 0) = some (.int .i64 n27) ∧
 IxOk x26 n27 ∧
 ∃ n28 : Int, v.cell? ((elA x26 n27 6).add 0) = some (.int .i64 n28) ∧
 ((decide (n28 > 0)) = true →
 (decide (n28 < 0)) = false →
 IxOk x2_4 0) ∧
 ∃ n29 : Int, ((decide (n28 > 0)) = true →
 (decide (n28 < 0)) = false →
 v.cell? ((elA x2_4 0 1).add 0) = some (.int .i64 n29)) ∧
 ((decide (n28 < 0)) = false →
 (decide (n28 > 0)) = true →
 Trip Tryz.prog 129 #[.pointer (some (a_1.add 0)), .int .i64 n29] v fun r30 w31 =>
 ∃ q32 : Bool, r30 = .bool q32 ∧
 (((decide (n28 < 0)) || ((decide (n28 > 0)) && (!q32))) = true →
 Q (.bool false) w31) ∧
 (((decide (n28 < 0)) || ((decide (n28 > 0)) && (!q32))) = false →
 ∃ n33 : Int, PureT Tryz.prog (Builtin.min_ #[3, 3] 3 #[(.int .i64 n28), (.int .i64 1)]) w31 (.int .i64 n33) ∧
 Trip Tryz.prog 131 #[.pointer (some (a_1.add 0)), .int .i64 n2_1, .int .i64 n28, .int .i64 n33] w31 fun r34 w35 =>
 ∃ q36 : Bool, r34 = .bool q36 ∧
 Q (.bool q36) w35)) ∧
 (¬((decide (n28 < 0)) = false ∧ (decide (n28 > 0)) = true) →
 (((decide (n28 < 0)) || (decide (n28 > 0))) = true →
 Q (.bool false) v) ∧
 (((decide (n28 < 0)) || (decide (n28 > 0))) = false →
 ∃ n37 : Int, PureT Tryz.prog (Builtin.min_ #[3, 3] 3 #[(.int .i64 n28), (.int .i64 1)]) v (.int .i64 n37) ∧
 Trip Tryz.prog 131 #[.pointer (some (a_1.add 0)), .int .i64 n2_1, .int .i64 n28, .int .i64 n37] v fun r38 w39 =>
 ∃ q40 : Bool, r38 = .bool q40 ∧
 Q (.bool q40) w39))) ∧
 ((decide (n2_0 = 18)) = false →
 ((decide (n2_0 = 19)) = true →
 Trip Tryz.prog 132 #[.pointer (some (a_0.add 0)), .pointer (some (a_1.add 0)), .agg #[.int .i64 n2_0, .int .i64 n2_1, .int .i64 n2_2, .int .i64 n2_3, x2_4.val, x2_5.val]] v fun r41 w42 =>
 ∃ q43 : Bool, r41 = .bool q43 ∧
 Q (.bool q43) w42) ∧
 ((decide (n2_0 = 19)) = false →
 Trip Tryz.prog 133 #[.pointer (some (a_0.add 0)), .pointer (some (a_1.add 0)), .agg #[.int .i64 n2_0, .int .i64 n2_1, .int .i64 n2_2, .int .i64 n2_3, x2_4.val, x2_5.val]] v fun r44 w45 =>
 ∃ q46 : Bool, r44 = .bool q46 ∧
 Q (.bool q46) w45)))))))
theorem of97 (a_0 : Addr) (a_1 : Addr) (n2_0 : Int) (n2_1 : Int) (n2_2 : Int) (n2_3 : Int) (x2_4 : Sl) (x2_5 : Sl) (v : World) (Q : Value → World → Prop) (h : vc97 a_0 a_1 n2_0 n2_1 n2_2 n2_3 x2_4 x2_5 v Q) : Trip Tryz.prog 97 #[.pointer (some (a_0.add 0)), .pointer (some (a_1.add 0)), .agg #[.int .i64 n2_0, .int .i64 n2_1, .int .i64 n2_2, .int .i64 n2_3, x2_4.val, x2_5.val]] v Q :=
 trip_of_eq (args := [.pt a_0 0, .pt a_1 0, .ag [.num .i64 n2_0, .num .i64 n2_1, .num .i64 n2_2, .num .i64 n2_3, .sl x2_4, .sl x2_5]]) (A := ⟨[], [], [(7, []), (10, [])], [999999], psG⟩) Tryz.func97 (by kernel_rfl) (by kernel_rfl) (by kernel_rfl : vc97 a_0 a_1 n2_0 n2_1 n2_2 n2_3 x2_4 x2_5 v Q = _) h

def vc98 (n0_0 : Int) (n0_1 : Int) (n0_2 : Int) (n0_3 : Int) (x0_4 : Sl) (x0_5 : Sl) (n_1 : Int) (v : World) (Q : Value → World → Prop) : Prop :=
 ((decide (n0_0 = 22)) = true →
 StepT Tryz.prog (Instr.buildSlice 37 1 #[(0, (.int .i64 n0_2))]) v fun r1 w2 =>
 ∃ x3 : Sl, r1 = x3.val ∧
 Q (x3.val) w2) ∧
 ((decide (n0_0 = 22)) = false →
 ((decide (n0_0 = 20)) = true →
 ∃ n4 : Int, Wr .i64 (n_1 + 1) n4 ∧
 StepT Tryz.prog (Instr.buildSlice 37 2 #[(0, (.int .i64 n4)), (1, (.int .i64 n0_2))]) v fun r5 w6 =>
 ∃ x7 : Sl, r5 = x7.val ∧
 Q (x7.val) w6) ∧
 ((decide (n0_0 = 20)) = false →
 ((decide (n0_0 = 21)) = true →
 Q (x0_5.val) v) ∧
 ((decide (n0_0 = 21)) = false →
 ((decide (n0_0 = 23)) = true →
 ((decide (n0_0 = 23)) = true →
 Q (.slice none 0 0) v) ∧
 ((decide (n0_0 = 23)) = false →
 ∃ n8 : Int, Wr .i64 (n_1 + 1) n8 ∧
 StepT Tryz.prog (Instr.buildSlice 37 1 #[(0, (.int .i64 n8))]) v fun r9 w10 =>
 ∃ x11 : Sl, r9 = x11.val ∧
 Q (x11.val) w10)) ∧
 ((decide (n0_0 = 23)) = false →
 ((decide (n0_0 = 24)) = true →
 Q (.slice none 0 0) v) ∧
 ((decide (n0_0 = 24)) = false →
 ∃ n12 : Int, Wr .i64 (n_1 + 1) n12 ∧
 StepT Tryz.prog (Instr.buildSlice 37 1 #[(0, (.int .i64 n12))]) v fun r13 w14 =>
 ∃ x15 : Sl, r13 = x15.val ∧
 Q (x15.val) w14)))))
theorem of98 (n0_0 : Int) (n0_1 : Int) (n0_2 : Int) (n0_3 : Int) (x0_4 : Sl) (x0_5 : Sl) (n_1 : Int) (v : World) (Q : Value → World → Prop) (h : vc98 n0_0 n0_1 n0_2 n0_3 x0_4 x0_5 n_1 v Q) : Trip Tryz.prog 98 #[.agg #[.int .i64 n0_0, .int .i64 n0_1, .int .i64 n0_2, .int .i64 n0_3, x0_4.val, x0_5.val], .int .i64 n_1] v Q :=
 trip_of_eq (args := [.ag [.num .i64 n0_0, .num .i64 n0_1, .num .i64 n0_2, .num .i64 n0_3, .sl x0_4, .sl x0_5], .num .i64 n_1]) (A := ⟨[], [], [], [], psG⟩) Tryz.func98 (by kernel_rfl) (by kernel_rfl) (by kernel_rfl : vc98 n0_0 n0_1 n0_2 n0_3 x0_4 x0_5 n_1 v Q = _) h

def vc99 (a_0 : Addr) (a_1 : Addr) (n_2 : Int) (v : World) (Q : Value → World → Prop) : Prop :=
 ∃ x1 : Sl, v.cell? (a_0.add 7) = some (x1.val) ∧
 IxOk x1 n_2 ∧
 ∃ y2 : Vl, v.cell? ((elA x1 n_2 1).add 0) = some (y2.x) ∧
 ∃ q3 : Bool, PureT Tryz.prog (do eqGuard .eql 65 (.tmp 13) (.const (.pointer none)) (y2.x) ((Vl.mk (Value.pointer none) rfl).x); binOp .eql 65 (y2.x) ((Vl.mk (Value.pointer none) rfl).x)) v (.bool q3) ∧
 (q3 = true →
 ∃ x4 : Sl, v.cell? (a_0.add 7) = some (x4.val) ∧
 Trip Tryz.prog 95 #[.pointer (some (a_1.add 0))] v fun r5 w6 =>
 ∃ a7 : Addr, r5 = .pointer (some (a7.add 0)) ∧
 Sub v w6 ∧
 IxOk x4 n_2 ∧
 StoreAt w6 (elA x4 n_2 1) 0 [.pointer (some (a7.add 0))] fun w8 =>
 Q (.bool true) w8) ∧
 (q3 = false →
 ∃ x9 : Sl, v.cell? (a_0.add 7) = some (x9.val) ∧
 IxOk x9 n_2 ∧
 ∃ y10 : Vl, v.cell? ((elA x9 n_2 1).add 0) = some (y10.x) ∧
 Trip Tryz.prog 134 #[y10.x, .pointer (some (a_1.add 0))] v fun r11 w12 =>
 ∃ q13 : Bool, r11 = .bool q13 ∧
 Q (.bool q13) w12)
theorem of99 (a_0 : Addr) (a_1 : Addr) (n_2 : Int) (v : World) (Q : Value → World → Prop) (h : vc99 a_0 a_1 n_2 v Q) : Trip Tryz.prog 99 #[.pointer (some (a_0.add 0)), .pointer (some (a_1.add 0)), .int .i64 n_2] v Q :=
 trip_of_eq (args := [.pt a_0 0, .pt a_1 0, .num .i64 n_2]) (A := ⟨[], [], [(2, [6])], [], psG⟩) Tryz.func99 (by kernel_rfl) (by kernel_rfl) (by kernel_rfl : vc99 a_0 a_1 n_2 v Q = _) h

def vc100 (x_0 : Sl) (x_1 : Sl) (v : World) (Q : Value → World → Prop) : Prop :=
 ((!decide ((x_0.n : Int) = (x_1.n : Int))) = true →
 Q (.bool false) v) ∧
 ((!decide ((x_0.n : Int) = (x_1.n : Int))) = false →
 ∃ I1 : Int → World → Prop, ∃ m2 : Int → World → Nat, I1 0 v ∧
 ∀ n3 : Int, ∀ w4 : World, I1 n3 w4 →
 ((decide (n3 < (x_0.n : Int))) = true →
 IxOk x_0 n3 ∧
 ∃ x5 : Sl, w4.cell? ((elA x_0 n3 1).add 0) = some (x5.val) ∧
 IxOk x_1 n3 ∧
 ∃ x6 : Sl, w4.cell? ((elA x_1 n3 1).add 0) = some (x6.val) ∧
 ∃ q7 : Bool, (Trip Tryz.prog 135 #[.agg #[x5.val], .agg #[x6.val]] w4 fun r8 w9 => r8 = .bool q7 ∧ Sub w4 w9) ∧
 ((!q7) = true →
 Q (.bool false) w4) ∧
 ((!q7) = false →
 ∃ n10 : Int, Wr .i64 (n3 + 1) n10 ∧
 I1 n10 w4 ∧
 m2 n10 w4 < m2 n3 w4)) ∧
 ((decide (n3 < (x_0.n : Int))) = false →
 Q (.bool true) w4))
theorem of100 (x_0 : Sl) (x_1 : Sl) (v : World) (Q : Value → World → Prop) (h : vc100 x_0 x_1 v Q) : Trip Tryz.prog 100 #[x_0.val, x_1.val] v Q :=
 trip_of_eq (args := [.sl x_0, .sl x_1]) (A := ⟨[(4, [(5, .int .i64)], [])], [], [], [], psG⟩) Tryz.func100 (by kernel_rfl) (by kernel_rfl) (by kernel_rfl : vc100 x_0 x_1 v Q = _) h

def vc101 (x_0 : Sl) (x_1 : Sl) (v : World) (Q : Value → World → Prop) : Prop :=
 ((!decide ((x_0.n : Int) = (x_1.n : Int))) = true →
 Q (.bool false) v) ∧
 ((!decide ((x_0.n : Int) = (x_1.n : Int))) = false →
 ∃ I1 : Int → World → Prop, ∃ m2 : Int → World → Nat, I1 0 v ∧
 ∀ n3 : Int, ∀ w4 : World, I1 n3 w4 →
 ((decide (n3 < (x_0.n : Int))) = true →
 IxOk x_0 n3 ∧
 ∃ n5 : Int, ∃ n6 : Int, ∃ n7 : Int, ∃ n8 : Int, ∃ x9 : Sl, ∃ x10 : Sl, (w4.cell? ((elA x_0 n3 6).add 0) = some (.int .i64 n5) ∧
 w4.cell? ((elA x_0 n3 6).add 1) = some (.int .i64 n6) ∧
 w4.cell? ((elA x_0 n3 6).add 2) = some (.int .i64 n7) ∧
 w4.cell? ((elA x_0 n3 6).add 3) = some (.int .i64 n8) ∧
 w4.cell? ((elA x_0 n3 6).add 4) = some (x9.val) ∧
 w4.cell? ((elA x_0 n3 6).add 5) = some (x10.val)) ∧
 IxOk x_1 n3 ∧
 ∃ n11 : Int, ∃ n12 : Int, ∃ n13 : Int, ∃ n14 : Int, ∃ x15 : Sl, ∃ x16 : Sl, (w4.cell? ((elA x_1 n3 6).add 0) = some (.int .i64 n11) ∧
 w4.cell? ((elA x_1 n3 6).add 1) = some (.int .i64 n12) ∧
 w4.cell? ((elA x_1 n3 6).add 2) = some (.int .i64 n13) ∧
 w4.cell? ((elA x_1 n3 6).add 3) = some (.int .i64 n14) ∧
 w4.cell? ((elA x_1 n3 6).add 4) = some (x15.val) ∧
 w4.cell? ((elA x_1 n3 6).add 5) = some (x16.val)) ∧
 ∃ q17 : Bool, (Trip Tryz.prog 136 #[.agg #[.int .i64 n5, .int .i64 n6, .int .i64 n7, .int .i64 n8, x9.val, x10.val], .agg #[.int .i64 n11, .int .i64 n12, .int .i64 n13, .int .i64 n14, x15.val, x16.val]] w4 fun r18 w19 => r18 = .bool q17 ∧ Sub w4 w19) ∧
 ((!q17) = true →
 Q (.bool false) w4) ∧
 ((!q17) = false →
 ∃ n20 : Int, Wr .i64 (n3 + 1) n20 ∧
 I1 n20 w4 ∧
 m2 n20 w4 < m2 n3 w4)) ∧
 ((decide (n3 < (x_0.n : Int))) = false →
 Q (.bool true) w4))
theorem of101 (x_0 : Sl) (x_1 : Sl) (v : World) (Q : Value → World → Prop) (h : vc101 x_0 x_1 v Q) : Trip Tryz.prog 101 #[x_0.val, x_1.val] v Q :=
 trip_of_eq (args := [.sl x_0, .sl x_1]) (A := ⟨[(4, [(5, .int .i64)], [])], [], [], [], psG⟩) Tryz.func101 (by kernel_rfl) (by kernel_rfl) (by kernel_rfl : vc101 x_0 x_1 v Q = _) h

def vc102 (x0_0 : Sl) (n_1 : Int) (v : World) (Q : Value → World → Prop) : Prop :=
 ∃ n1 : Int, (Trip Tryz.prog 61 #[x0_0.val, .int .i64 n_1] v fun r2 w3 => r2 = .int .i64 n1 ∧ Sub v w3) ∧
 ((decide (n1 < 0)) = true →
 Q (.int .i64 (-1)) v) ∧
 ((decide (n1 < 0)) = false →
 Q (.int .i64 n1) v)
theorem of102 (x0_0 : Sl) (n_1 : Int) (v : World) (Q : Value → World → Prop) (h : vc102 x0_0 n_1 v Q) : Trip Tryz.prog 102 #[.agg #[x0_0.val], .int .i64 n_1] v Q :=
 trip_of_eq (args := [.ag [.sl x0_0], .num .i64 n_1]) (A := ⟨[], [], [], [], psG⟩) Tryz.func102 (by kernel_rfl) (by kernel_rfl) (by kernel_rfl : vc102 x0_0 n_1 v Q = _) h

def vc103 (n0_0 : Int) (n0_1 : Int) (n0_2 : Int) (n0_3 : Int) (x0_4 : Sl) (x0_5 : Sl) (n_1 : Int) (v : World) (Q : Value → World → Prop) : Prop :=
 ∃ n1 : Int, (Trip Tryz.prog 61 #[x0_4.val, .int .i64 n_1] v fun r2 w3 => r2 = .int .i64 n1 ∧ Sub v w3) ∧
 ((decide (n1 < 0)) = true →
 Q (.int .i64 (-1)) v) ∧
 ((decide (n1 < 0)) = false →
 ∃ n4 : Int, (Trip Tryz.prog 61 #[x0_5.val, .int .i64 n1] v fun r5 w6 => r5 = .int .i64 n4 ∧ Sub v w6) ∧
 ((decide (n4 < 0)) = true →
 Q (.int .i64 (-1)) v) ∧
 ((decide (n4 < 0)) = false →
 Q (.int .i64 n4) v))
theorem of103 (n0_0 : Int) (n0_1 : Int) (n0_2 : Int) (n0_3 : Int) (x0_4 : Sl) (x0_5 : Sl) (n_1 : Int) (v : World) (Q : Value → World → Prop) (h : vc103 n0_0 n0_1 n0_2 n0_3 x0_4 x0_5 n_1 v Q) : Trip Tryz.prog 103 #[.agg #[.int .i64 n0_0, .int .i64 n0_1, .int .i64 n0_2, .int .i64 n0_3, x0_4.val, x0_5.val], .int .i64 n_1] v Q :=
 trip_of_eq (args := [.ag [.num .i64 n0_0, .num .i64 n0_1, .num .i64 n0_2, .num .i64 n0_3, .sl x0_4, .sl x0_5], .num .i64 n_1]) (A := ⟨[], [], [], [], psG⟩) Tryz.func103 (by kernel_rfl) (by kernel_rfl) (by kernel_rfl : vc103 n0_0 n0_1 n0_2 n0_3 x0_4 x0_5 n_1 v Q = _) h

def vc104 (x_0 : Sl) (n_1 : Int) (v : World) (Q : Value → World → Prop) : Prop :=
 IxOk x_0 n_1 ∧
 ∃ n1 : Int, ∃ n2 : Int, ∃ x3 : Sl, (v.cell? ((elA x_0 n_1 3).add 0) = some (.int .i64 n1) ∧
 v.cell? ((elA x_0 n_1 3).add 1) = some (.int .i64 n2) ∧
 v.cell? ((elA x_0 n_1 3).add 2) = some (x3.val)) ∧
 ((decide ((x3.n : Int) > 0)) = true →
 ((((decide ((x3.n : Int) > 3)) || (!decide (n1 = 0))) || (!decide (n2 = 0))) = true →
 Q (.bool false) v) ∧
 ((((decide ((x3.n : Int) > 3)) || (!decide (n1 = 0))) || (!decide (n2 = 0))) = false →
 ∃ I4 : Int → World → Prop, ∃ m5 : Int → World → Nat, I4 0 v ∧
 ∀ n6 : Int, ∀ w7 : World, I4 n6 w7 →
 ((decide (n6 < (x3.n : Int))) = true →
 IxOk x3 n6 ∧
 ∃ x8 : Sl, w7.cell? ((elA x3 n6 1).add 0) = some (x8.val) ∧
 ((decide ((x8.n : Int) > 3)) = false →
 IxOk x3 n6) ∧
 ∃ x9 : Sl, ((decide ((x8.n : Int) > 3)) = false →
 w7.cell? ((elA x3 n6 1).add 0) = some (x9.val)) ∧
 ∃ q10 : Bool, ((decide ((x8.n : Int) > 3)) = false →
 (Trip Tryz.prog 64 #[x_0.val, x9.val] w7 fun r11 w12 => r11 = .bool q10 ∧ Sub w7 w12)) ∧
 (((decide ((x8.n : Int) > 3)) || (!q10)) = true →
 Q (.bool false) w7) ∧
 (((decide ((x8.n : Int) > 3)) || (!q10)) = false →
 ∃ n13 : Int, Wr .i64 (n6 + 1) n13 ∧
 ((.num .i64 n1 : SV) = .num .i64 n1) ∧
 ((.num .i64 n2 : SV) = .num .i64 n2) ∧
 ((.sl x3 : SV) = .sl x3) ∧
 I4 n13 w7 ∧
 m5 n13 w7 < m5 n6 w7)) ∧
 ((decide (n6 < (x3.n : Int))) = false →
 Q (.bool true) w7))) ∧
 ((decide ((x3.n : Int) > 0)) = false →
 ∃ I14 : Int → World → Prop, ∃ m15 : Int → World → Nat, I14 0 v ∧
 ∀ n16 : Int, ∀ w17 : World, I14 n16 w17 →
 ((decide (n16 < n_1)) = true →
 IxOk x_0 n16 ∧
 ∃ x18 : Sl, w17.cell? ((elA x_0 n16 3).add 2) = some (x18.val) ∧
 ((decide ((x18.n : Int) = 0)) = true →
 IxOk x_0 n16) ∧
 ∃ n19 : Int, ((decide ((x18.n : Int) = 0)) = true →
 w17.cell? ((elA x_0 n16 3).add 0) = some (.int .i64 n19)) ∧
 (((decide ((x18.n : Int) = 0)) && (decide (n19 = n1))) = true →
 IxOk x_0 n16) ∧
 ∃ n20 : Int, (((decide ((x18.n : Int) = 0)) && (decide (n19 = n1))) = true →
 w17.cell? ((elA x_0 n16 3).add 1) = some (.int .i64 n20)) ∧
 ((((decide ((x18.n : Int) = 0)) && (decide (n19 = n1))) && (decide (n20 = n2))) = true →
 Q (.bool false) w17) ∧
 ((((decide ((x18.n : Int) = 0)) && (decide (n19 = n1))) && (decide (n20 = n2))) = false →
 ∃ n21 : Int, Wr .i64 (n16 + 1) n21 ∧
 ((.num .i64 n1 : SV) = .num .i64 n1) ∧
 ((.num .i64 n2 : SV) = .num .i64 n2) ∧
 ((.sl x3 : SV) = .sl x3) ∧
 I14 n21 w17 ∧
 m15 n21 w17 < m15 n16 w17)) ∧
 ((decide (n16 < n_1)) = false →
 ∃ q22 : Bool, (Trip Tryz.prog 25 #[.int .i64 n1, .int .i64 0, .int .i64 (x_0.n : Int)] w17 fun r23 w24 => r23 = .bool q22 ∧ Sub w17 w24) ∧
 ∃ q25 : Bool, (q22 = true →
 (Trip Tryz.prog 25 #[.int .i64 n2, .int .i64 0, .int .i64 (x_0.n : Int)] w17 fun r26 w27 => r26 = .bool q25 ∧ Sub w17 w27)) ∧
 Q (.bool (q22 && q25)) w17))
theorem of104 (x_0 : Sl) (n_1 : Int) (v : World) (Q : Value → World → Prop) (h : vc104 x_0 n_1 v Q) : Trip Tryz.prog 104 #[x_0.val, .int .i64 n_1] v Q :=
 trip_of_eq (args := [.sl x_0, .num .i64 n_1]) (A := ⟨[(6, [(6, .int .i64)], []), (12, [(7, .int .i64)], [])], [], [], [], psG⟩) Tryz.func104 (by kernel_rfl) (by kernel_rfl) (by kernel_rfl : vc104 x_0 n_1 v Q = _) h

def vc105 (n_0 : Int) (v : World) (Q : Value → World → Prop) : Prop :=
 ∃ q1 : Bool, (Trip Tryz.prog 137 #[.int .i64 n_0] v fun r2 w3 => r2 = .bool q1 ∧ Sub v w3) ∧
 Q (.bool ((((q1 && (!decide (n_0 = 7))) && (!decide (n_0 = 8))) || (decide (n_0 = 18))) || (decide (n_0 = 19)))) v
theorem of105 (n_0 : Int) (v : World) (Q : Value → World → Prop) (h : vc105 n_0 v Q) : Trip Tryz.prog 105 #[.int .i64 n_0] v Q :=
 trip_of_eq (args := [.num .i64 n_0]) (A := ⟨[], [], [], [], psG⟩) Tryz.func105 (by kernel_rfl) (by kernel_rfl) (by kernel_rfl : vc105 n_0 v Q = _) h

def vc106 (x_0 : Sl) (n_1 : Int) (v : World) (Q : Value → World → Prop) : Prop :=
 ∃ I1 : Int → World → Prop, ∃ m2 : Int → World → Nat, I1 0 v ∧
 ∀ n3 : Int, ∀ w4 : World, I1 n3 w4 →
 ((decide (n3 < (x_0.n : Int))) = true →
 ∃ n5 : Int, (Trip Tryz.prog 116 #[x_0.val, .int .i64 n3] w4 fun r6 w7 => r6 = .int .i64 n5 ∧ Sub w4 w7) ∧
 IxOk x_0 n3 ∧
 ∃ x8 : Sl, w4.cell? ((elA x_0 n3 3).add 2) = some (x8.val) ∧
 ∃ n9 : Int, Wr .i64 (n5 + (x8.n : Int)) n9 ∧
 ∃ n10 : Int, Wr .i64 (n9 - 1) n10 ∧
 ∃ q11 : Bool, (Trip Tryz.prog 25 #[.int .i64 n_1, .int .i64 n5, .int .i64 n10] w4 fun r12 w13 => r12 = .bool q11 ∧ Sub w4 w13) ∧
 (q11 = true →
 ∃ n14 : Int, Wr .i64 (n3 + 1) n14 ∧
 Q (.int .i64 n14) w4) ∧
 (q11 = false →
 ∃ n15 : Int, Wr .i64 (n3 + 1) n15 ∧
 I1 n15 w4 ∧
 m2 n15 w4 < m2 n3 w4)) ∧
 ((decide (n3 < (x_0.n : Int))) = false →
 Q (.int .i64 (-1)) w4)
theorem of106 (x_0 : Sl) (n_1 : Int) (v : World) (Q : Value → World → Prop) (h : vc106 x_0 n_1 v Q) : Trip Tryz.prog 106 #[x_0.val, .int .i64 n_1] v Q :=
 trip_of_eq (args := [.sl x_0, .num .i64 n_1]) (A := ⟨[(2, [(5, .int .i64)], [])], [], [], [], psG⟩) Tryz.func106 (by kernel_rfl) (by kernel_rfl) (by kernel_rfl : vc106 x_0 n_1 v Q = _) h

def vc107 (x_0 : Sl) (n_1 : Int) (v : World) (Q : Value → World → Prop) : Prop :=
 ∃ n1 : Int, (Trip Tryz.prog 106 #[x_0.val, .int .i64 n_1] v fun r2 w3 => r2 = .int .i64 n1 ∧ Sub v w3) ∧
 ((decide (n1 < 1)) = true →
 StepT Tryz.prog (Instr.buildSlice 37 0 #[]) v fun r4 w5 =>
 ∃ x6 : Sl, r4 = x6.val ∧
 Q (x6.val) w5) ∧
 ((decide (n1 < 1)) = false →
 ∃ n7 : Int, Wr .i64 (n1 - 1) n7 ∧
 IxOk x_0 n7 ∧
 ∃ x8 : Sl, v.cell? ((elA x_0 n7 3).add 2) = some (x8.val) ∧
 ∃ n9 : Int, Wr .i64 (n1 - 1) n9 ∧
 ∃ n10 : Int, (Trip Tryz.prog 116 #[x_0.val, .int .i64 n9] v fun r11 w12 => r11 = .int .i64 n10 ∧ Sub v w12) ∧
 ∃ n13 : Int, Wr .i64 (n_1 - n10) n13 ∧
 IxOk x8 n13 ∧
 ∃ x14 : Sl, v.cell? ((elA x8 n13 1).add 0) = some (x14.val) ∧
 Q (x14.val) v)
theorem of107 (x_0 : Sl) (n_1 : Int) (v : World) (Q : Value → World → Prop) (h : vc107 x_0 n_1 v Q) : Trip Tryz.prog 107 #[x_0.val, .int .i64 n_1] v Q :=
 trip_of_eq (args := [.sl x_0, .num .i64 n_1]) (A := ⟨[], [], [], [], psG⟩) Tryz.func107 (by kernel_rfl) (by kernel_rfl) (by kernel_rfl : vc107 x_0 n_1 v Q = _) h

def vc108 (x0_0 : Sl) (x0_1 : Sl) (n_1 : Int) (n_2 : Int) (n_3 : Int) (v : World) (Q : Value → World → Prop) : Prop :=
 ∃ n1 : Int, Wr .i64 ((x0_1.n : Int) - 1) n1 ∧
 ∃ q2 : Bool, (Trip Tryz.prog 25 #[.int .i64 n_1, .int .i64 0, .int .i64 n1] v fun r3 w4 => r3 = .bool q2 ∧ Sub v w4) ∧
 (q2 = true →
 IxOk x0_1 n_1) ∧
 ∃ x5 : Sl, (q2 = true →
 v.cell? ((elA x0_1 n_1 5).add 0) = some (x5.val)) ∧
 ∃ n6 : Int, (q2 = true →
 Wr .i64 (n_2 + n_3) n6) ∧
 Q (.bool (q2 && (decide ((x5.n : Int) = n6)))) v
theorem of108 (x0_0 : Sl) (x0_1 : Sl) (n_1 : Int) (n_2 : Int) (n_3 : Int) (v : World) (Q : Value → World → Prop) (h : vc108 x0_0 x0_1 n_1 n_2 n_3 v Q) : Trip Tryz.prog 108 #[.agg #[x0_0.val, x0_1.val], .int .i64 n_1, .int .i64 n_2, .int .i64 n_3] v Q :=
 trip_of_eq (args := [.ag [.sl x0_0, .sl x0_1], .num .i64 n_1, .num .i64 n_2, .num .i64 n_3]) (A := ⟨[], [], [], [], psG⟩) Tryz.func108 (by kernel_rfl) (by kernel_rfl) (by kernel_rfl : vc108 x0_0 x0_1 n_1 n_2 n_3 v Q = _) h

def vc109 (x_0 : Sl) (n_1 : Int) (n_2 : Int) (n_3 : Int) (v : World) (Q : Value → World → Prop) : Prop :=
 ((!decide ((x_0.n : Int) = n_1)) = true →
 Q (.bool false) v) ∧
 ((!decide ((x_0.n : Int) = n_1)) = false →
 ∃ I1 : Int → World → Prop, ∃ m2 : Int → World → Nat, I1 0 v ∧
 ∀ n3 : Int, ∀ w4 : World, I1 n3 w4 →
 ((decide (n3 < n_1)) = true →
 IxOk x_0 n3 ∧
 ∃ n5 : Int, w4.cell? ((elA x_0 n3 1).add 0) = some (.int .i64 n5) ∧
 ∃ n6 : Int, Wr .i64 (n_2 + 1) n6 ∧
 ∃ n7 : Int, Wr .i64 (n_3 - 1) n7 ∧
 ∃ q8 : Bool, (Trip Tryz.prog 25 #[.int .i64 n5, .int .i64 n6, .int .i64 n7] w4 fun r9 w10 => r9 = .bool q8 ∧ Sub w4 w10) ∧
 ((!q8) = true →
 Q (.bool false) w4) ∧
 ((!q8) = false →
 ∃ n11 : Int, Wr .i64 (n3 + 1) n11 ∧
 I1 n11 w4 ∧
 m2 n11 w4 < m2 n3 w4)) ∧
 ((decide (n3 < n_1)) = false →
 Q (.bool true) w4))
theorem of109 (x_0 : Sl) (n_1 : Int) (n_2 : Int) (n_3 : Int) (v : World) (Q : Value → World → Prop) (h : vc109 x_0 n_1 n_2 n_3 v Q) : Trip Tryz.prog 109 #[x_0.val, .int .i64 n_1, .int .i64 n_2, .int .i64 n_3] v Q :=
 trip_of_eq (args := [.sl x_0, .num .i64 n_1, .num .i64 n_2, .num .i64 n_3]) (A := ⟨[(4, [(9, .int .i64)], [])], [], [], [], psG⟩) Tryz.func109 (by kernel_rfl) (by kernel_rfl) (by kernel_rfl : vc109 x_0 n_1 n_2 n_3 v Q = _) h

def vc110 (x_0 : Sl) (x_1 : Sl) (v : World) (Q : Value → World → Prop) : Prop :=
 ((!decide ((x_0.n : Int) = (x_1.n : Int))) = true →
 Q (.bool false) v) ∧
 ((!decide ((x_0.n : Int) = (x_1.n : Int))) = false →
 ∃ I1 : Int → World → Prop, ∃ m2 : Int → World → Nat, I1 0 v ∧
 ∀ n3 : Int, ∀ w4 : World, I1 n3 w4 →
 ((decide (n3 < (x_0.n : Int))) = true →
 IxOk x_0 n3 ∧
 ∃ n5 : Int, w4.cell? ((elA x_0 n3 1).add 0) = some (.int .i64 n5) ∧
 IxOk x_1 n3 ∧
 ∃ n6 : Int, w4.cell? ((elA x_1 n3 1).add 0) = some (.int .i64 n6) ∧
 ((!decide (n5 = n6)) = true →
 Q (.bool false) w4) ∧
 ((!decide (n5 = n6)) = false →
 ∃ n7 : Int, Wr .i64 (n3 + 1) n7 ∧
 I1 n7 w4 ∧
 m2 n7 w4 < m2 n3 w4)) ∧
 ((decide (n3 < (x_0.n : Int))) = false →
 Q (.bool true) w4))
theorem of110 (x_0 : Sl) (x_1 : Sl) (v : World) (Q : Value → World → Prop) (h : vc110 x_0 x_1 v Q) : Trip Tryz.prog 110 #[x_0.val, x_1.val] v Q :=
 trip_of_eq (args := [.sl x_0, .sl x_1]) (A := ⟨[(4, [(5, .int .i64)], [])], [], [], [], psG⟩) Tryz.func110 (by kernel_rfl) (by kernel_rfl) (by kernel_rfl : vc110 x_0 x_1 v Q = _) h

def vc111 (x0_0 : Sl) (x0_1 : Sl) (n1_0 : Int) (n1_1 : Int) (n1_2 : Int) (n1_3 : Int) (x1_4 : Sl) (x1_5 : Sl) (n_2 : Int) (v : World) (Q : Value → World → Prop) : Prop :=
 (((decide (n1_0 = 9)) || (decide (n1_0 = 24))) = true →
 IxOk x0_1 n1_2) ∧
 ∃ x1 : Sl, (((decide (n1_0 = 9)) || (decide (n1_0 = 24))) = true →
 v.cell? ((elA x0_1 n1_2 5).add 1) = some (x1.val)) ∧
 ∃ q2 : Bool, (((decide (n1_0 = 9)) || (decide (n1_0 = 24))) = true →
 (Trip Tryz.prog 70 #[x1.val, .int .i64 n_2] v fun r3 w4 => r3 = .bool q2 ∧ Sub v w4)) ∧
 Q (.bool (((decide (n1_0 = 9)) || (decide (n1_0 = 24))) && q2)) v
theorem of111 (x0_0 : Sl) (x0_1 : Sl) (n1_0 : Int) (n1_1 : Int) (n1_2 : Int) (n1_3 : Int) (x1_4 : Sl) (x1_5 : Sl) (n_2 : Int) (v : World) (Q : Value → World → Prop) (h : vc111 x0_0 x0_1 n1_0 n1_1 n1_2 n1_3 x1_4 x1_5 n_2 v Q) : Trip Tryz.prog 111 #[.agg #[x0_0.val, x0_1.val], .agg #[.int .i64 n1_0, .int .i64 n1_1, .int .i64 n1_2, .int .i64 n1_3, x1_4.val, x1_5.val], .int .i64 n_2] v Q :=
 trip_of_eq (args := [.ag [.sl x0_0, .sl x0_1], .ag [.num .i64 n1_0, .num .i64 n1_1, .num .i64 n1_2, .num .i64 n1_3, .sl x1_4, .sl x1_5], .num .i64 n_2]) (A := ⟨[], [], [], [], psG⟩) Tryz.func111 (by kernel_rfl) (by kernel_rfl) (by kernel_rfl : vc111 x0_0 x0_1 n1_0 n1_1 n1_2 n1_3 x1_4 x1_5 n_2 v Q = _) h

def vc112 (x_0 : Sl) (n_1 : Int) (n_2 : Int) (v : World) (Q : Value → World → Prop) : Prop :=
 ∃ I1 : Int → World → Prop, ∃ m2 : Int → World → Nat, I1 0 v ∧
 ∀ n3 : Int, ∀ w4 : World, I1 n3 w4 →
 ((decide (n3 < (x_0.n : Int))) = true →
 IxOk x_0 n3 ∧
 ∃ x5 : Sl, w4.cell? ((elA x_0 n3 3).add 2) = some (x5.val) ∧
 ((decide ((x5.n : Int) = 0)) = true →
 IxOk x_0 n3) ∧
 ∃ n6 : Int, ((decide ((x5.n : Int) = 0)) = true →
 w4.cell? ((elA x_0 n3 3).add 0) = some (.int .i64 n6)) ∧
 (((decide ((x5.n : Int) = 0)) && (decide (n6 = n_1))) = true →
 IxOk x_0 n3) ∧
 ∃ n7 : Int, (((decide ((x5.n : Int) = 0)) && (decide (n6 = n_1))) = true →
 w4.cell? ((elA x_0 n3 3).add 1) = some (.int .i64 n7)) ∧
 ((((decide ((x5.n : Int) = 0)) && (decide (n6 = n_1))) && (decide (n7 = n_2))) = true →
 ∃ n8 : Int, Wr .i64 (n3 + 1) n8 ∧
 Q (.int .i64 n8) w4) ∧
 ((((decide ((x5.n : Int) = 0)) && (decide (n6 = n_1))) && (decide (n7 = n_2))) = false →
 ∃ n9 : Int, Wr .i64 (n3 + 1) n9 ∧
 I1 n9 w4 ∧
 m2 n9 w4 < m2 n3 w4)) ∧
 ((decide (n3 < (x_0.n : Int))) = false →
 Q (.int .i64 (-1)) w4)
theorem of112 (x_0 : Sl) (n_1 : Int) (n_2 : Int) (v : World) (Q : Value → World → Prop) (h : vc112 x_0 n_1 n_2 v Q) : Trip Tryz.prog 112 #[x_0.val, .int .i64 n_1, .int .i64 n_2] v Q :=
 trip_of_eq (args := [.sl x_0, .num .i64 n_1, .num .i64 n_2]) (A := ⟨[(2, [(7, .int .i64)], [])], [], [], [], psG⟩) Tryz.func112 (by kernel_rfl) (by kernel_rfl) (by kernel_rfl : vc112 x_0 n_1 n_2 v Q = _) h

def vc113 (x_0 : Sl) (n_1 : Int) (v : World) (Q : Value → World → Prop) : Prop :=
 ∃ q1 : Bool, (Trip Tryz.prog 25 #[.int .i64 n_1, .int .i64 1, .int .i64 (x_0.n : Int)] v fun r2 w3 => r2 = .bool q1 ∧ Sub v w3) ∧
 ∃ n4 : Int, (q1 = true →
 Wr .i64 (n_1 - 1) n4) ∧
 (q1 = true →
 IxOk x_0 n4) ∧
 ∃ x5 : Sl, (q1 = true →
 v.cell? ((elA x_0 n4 3).add 2) = some (x5.val)) ∧
 Q (.bool (q1 && (decide ((x5.n : Int) = 0)))) v
theorem of113 (x_0 : Sl) (n_1 : Int) (v : World) (Q : Value → World → Prop) (h : vc113 x_0 n_1 v Q) : Trip Tryz.prog 113 #[x_0.val, .int .i64 n_1] v Q :=
 trip_of_eq (args := [.sl x_0, .num .i64 n_1]) (A := ⟨[], [], [], [], psG⟩) Tryz.func113 (by kernel_rfl) (by kernel_rfl) (by kernel_rfl : vc113 x_0 n_1 v Q = _) h

def vc114 (x_0 : Sl) (n_1 : Int) (v : World) (Q : Value → World → Prop) : Prop :=
 StepT Tryz.prog (Instr.buildSlice 37 0 #[]) v fun r1 w2 =>
 ∃ x3 : Sl, r1 = x3.val ∧
 ∃ I4 : Sl → Int → World → Prop, ∃ m5 : Sl → Int → World → Nat, I4 x3 0 w2 ∧
 ∀ x6 : Sl, ∀ n7 : Int, ∀ w8 : World, I4 x6 n7 w8 →
 ((decide (n7 < (x_0.n : Int))) = true →
 IxOk x_0 n7 ∧
 ∃ n9 : Int, w8.cell? ((elA x_0 n7 1).add 0) = some (.int .i64 n9) ∧
 ((!decide (n9 = 0)) = true →
 ∃ n10 : Int, Wr .i64 (n_1 + n7) n10 ∧
 StepT Tryz.prog (Instr.buildSlice 37 1 #[(0, (.int .i64 n10))]) w8 fun r11 w12 =>
 ∃ x13 : Sl, r11 = x13.val ∧
 StepT Tryz.prog (Builtin.append_ #[37, 37] 37 #[(x6.val), (x13.val)]) w12 fun r14 w15 =>
 ∃ x16 : Sl, r14 = x16.val ∧
 ∃ n17 : Int, Wr .i64 (n7 + 1) n17 ∧
 I4 x16 n17 w15 ∧
 m5 x16 n17 w15 < m5 x6 n7 w8) ∧
 ((!decide (n9 = 0)) = false →
 ∃ n18 : Int, Wr .i64 (n7 + 1) n18 ∧
 I4 x6 n18 w8 ∧
 m5 x6 n18 w8 < m5 x6 n7 w8)) ∧
 ((decide (n7 < (x_0.n : Int))) = false →
 Q (x6.val) w8)
theorem of114 (x_0 : Sl) (n_1 : Int) (v : World) (Q : Value → World → Prop) (h : vc114 x_0 n_1 v Q) : Trip Tryz.prog 114 #[x_0.val, .int .i64 n_1] v Q :=
 trip_of_eq (args := [.sl x_0, .num .i64 n_1]) (A := ⟨[(3, [(5, .sl), (6, .int .i64)], [])], [], [], [], psG⟩) Tryz.func114 (by kernel_rfl) (by kernel_rfl) (by kernel_rfl : vc114 x_0 n_1 v Q = _) h

def vc115 (x_0 : Sl) (n_1 : Int) (v : World) (Q : Value → World → Prop) : Prop :=
 StepT Tryz.prog (Instr.buildSlice 37 0 #[]) v fun r1 w2 =>
 ∃ x3 : Sl, r1 = x3.val ∧
 ∃ I4 : Sl → Bool → Int → World → Prop, ∃ m5 : Sl → Bool → Int → World → Nat, I4 x3 false 0 w2 ∧
 ∀ x6 : Sl, ∀ q7 : Bool, ∀ n8 : Int, ∀ w9 : World, I4 x6 q7 n8 w9 →
 ((decide (n8 < (x_0.n : Int))) = true →
 ((!q7) = true →
 IxOk x_0 n8) ∧
 ∃ n10 : Int, ((!q7) = true →
 w9.cell? ((elA x_0 n8 1).add 0) = some (.int .i64 n10)) ∧
 (((!q7) && (decide (n10 ≥ n_1))) = true →
 IxOk x_0 n8 ∧
 ∃ n11 : Int, w9.cell? ((elA x_0 n8 1).add 0) = some (.int .i64 n11) ∧
 ((decide (n11 > n_1)) = true →
 StepT Tryz.prog (Instr.buildSlice 37 1 #[(0, (.int .i64 n_1))]) w9 fun r12 w13 =>
 ∃ x14 : Sl, r12 = x14.val ∧
 StepT Tryz.prog (Builtin.append_ #[37, 37] 37 #[(x6.val), (x14.val)]) w13 fun r15 w16 =>
 ∃ x17 : Sl, r15 = x17.val ∧
 IxOk x_0 n8 ∧
 ∃ n18 : Int, w16.cell? ((elA x_0 n8 1).add 0) = some (.int .i64 n18) ∧
 StepT Tryz.prog (Instr.buildSlice 37 1 #[(0, (.int .i64 n18))]) w16 fun r19 w20 =>
 ∃ x21 : Sl, r19 = x21.val ∧
 StepT Tryz.prog (Builtin.append_ #[37, 37] 37 #[(x17.val), (x21.val)]) w20 fun r22 w23 =>
 ∃ x24 : Sl, r22 = x24.val ∧
 ∃ n25 : Int, Wr .i64 (n8 + 1) n25 ∧
 I4 x24 true n25 w23 ∧
 m5 x24 true n25 w23 < m5 x6 q7 n8 w9) ∧
 ((decide (n11 > n_1)) = false →
 IxOk x_0 n8 ∧
 ∃ n26 : Int, w9.cell? ((elA x_0 n8 1).add 0) = some (.int .i64 n26) ∧
 StepT Tryz.prog (Instr.buildSlice 37 1 #[(0, (.int .i64 n26))]) w9 fun r27 w28 =>
 ∃ x29 : Sl, r27 = x29.val ∧
 StepT Tryz.prog (Builtin.append_ #[37, 37] 37 #[(x6.val), (x29.val)]) w28 fun r30 w31 =>
 ∃ x32 : Sl, r30 = x32.val ∧
 ∃ n33 : Int, Wr .i64 (n8 + 1) n33 ∧
 I4 x32 true n33 w31 ∧
 m5 x32 true n33 w31 < m5 x6 q7 n8 w9)) ∧
 (((!q7) && (decide (n10 ≥ n_1))) = false →
 IxOk x_0 n8 ∧
 ∃ n34 : Int, w9.cell? ((elA x_0 n8 1).add 0) = some (.int .i64 n34) ∧
 StepT Tryz.prog (Instr.buildSlice 37 1 #[(0, (.int .i64 n34))]) w9 fun r35 w36 =>
 ∃ x37 : Sl, r35 = x37.val ∧
 StepT Tryz.prog (Builtin.append_ #[37, 37] 37 #[(x6.val), (x37.val)]) w36 fun r38 w39 =>
 ∃ x40 : Sl, r38 = x40.val ∧
 ∃ n41 : Int, Wr .i64 (n8 + 1) n41 ∧
 I4 x40 q7 n41 w39 ∧
 m5 x40 q7 n41 w39 < m5 x6 q7 n8 w9)) ∧
 ((decide (n8 < (x_0.n : Int))) = false →
 ((!q7) = true →
 StepT Tryz.prog (Instr.buildSlice 37 1 #[(0, (.int .i64 n_1))]) w9 fun r42 w43 =>
 ∃ x44 : Sl, r42 = x44.val ∧
 StepT Tryz.prog (Builtin.append_ #[37, 37] 37 #[(x6.val), (x44.val)]) w43 fun r45 w46 =>
 ∃ x47 : Sl, r45 = x47.val ∧
 Q (x47.val) w46) ∧
 ((!q7) = false →
 Q (x6.val) w9))
theorem of115 (x_0 : Sl) (n_1 : Int) (v : World) (Q : Value → World → Prop) (h : vc115 x_0 n_1 v Q) : Trip Tryz.prog 115 #[x_0.val, .int .i64 n_1] v Q :=
 trip_of_eq (args := [.sl x_0, .num .i64 n_1]) (A := ⟨[(4, [(5, .sl), (6, .bool), (7, .int .i64)], [])], [], [], [], psG⟩) Tryz.func115 (by kernel_rfl) (by kernel_rfl) (by kernel_rfl : vc115 x_0 n_1 v Q = _) h

def vc116 (x_0 : Sl) (n_1 : Int) (v : World) (Q : Value → World → Prop) : Prop :=
 ∃ I1 : Int → Int → World → Prop, ∃ m2 : Int → Int → World → Nat, I1 0 0 v ∧
 ∀ n3 : Int, ∀ n4 : Int, ∀ w5 : World, I1 n3 n4 w5 →
 ((decide (n4 < n_1)) = true →
 IxOk x_0 n4 ∧
 ∃ x6 : Sl, w5.cell? ((elA x_0 n4 3).add 2) = some (x6.val) ∧
 ∃ n7 : Int, Wr .i64 (n3 + (x6.n : Int)) n7 ∧
 ∃ n8 : Int, Wr .i64 (n4 + 1) n8 ∧
 I1 n7 n8 w5 ∧
 m2 n7 n8 w5 < m2 n3 n4 w5) ∧
 ((decide (n4 < n_1)) = false →
 Q (.int .i64 n3) w5)
theorem of116 (x_0 : Sl) (n_1 : Int) (v : World) (Q : Value → World → Prop) (h : vc116 x_0 n_1 v Q) : Trip Tryz.prog 116 #[x_0.val, .int .i64 n_1] v Q :=
 trip_of_eq (args := [.sl x_0, .num .i64 n_1]) (A := ⟨[(3, [(5, .int .i64), (6, .int .i64)], [])], [], [], [], psG⟩) Tryz.func116 (by kernel_rfl) (by kernel_rfl) (by kernel_rfl : vc116 x_0 n_1 v Q = _) h

def vc117 (x0_0 : Sl) (v : World) (Q : Value → World → Prop) : Prop :=
 Trip Tryz.prog 85 #[x0_0.val] v fun r1 w2 =>
 ∃ x3 : Sl, r1 = x3.val ∧
 Q (.agg #[x3.val]) w2
theorem of117 (x0_0 : Sl) (v : World) (Q : Value → World → Prop) (h : vc117 x0_0 v Q) : Trip Tryz.prog 117 #[.agg #[x0_0.val]] v Q :=
 trip_of_eq (args := [.ag [.sl x0_0]]) (A := ⟨[], [], [], [], psG⟩) Tryz.func117 (by kernel_rfl) (by kernel_rfl) (by kernel_rfl : vc117 x0_0 v Q = _) h

def vc118 (n0_0 : Int) (n0_1 : Int) (n0_2 : Int) (n0_3 : Int) (x0_4 : Sl) (x0_5 : Sl) (v : World) (Q : Value → World → Prop) : Prop :=
 Trip Tryz.prog 85 #[x0_4.val] v fun r1 w2 =>
 ∃ x3 : Sl, r1 = x3.val ∧
 Trip Tryz.prog 85 #[x0_5.val] w2 fun r4 w5 =>
 ∃ x6 : Sl, r4 = x6.val ∧
 Q (.agg #[.int .i64 n0_0, .int .i64 n0_1, .int .i64 n0_2, .int .i64 n0_3, x3.val, x6.val]) w5
theorem of118 (n0_0 : Int) (n0_1 : Int) (n0_2 : Int) (n0_3 : Int) (x0_4 : Sl) (x0_5 : Sl) (v : World) (Q : Value → World → Prop) (h : vc118 n0_0 n0_1 n0_2 n0_3 x0_4 x0_5 v Q) : Trip Tryz.prog 118 #[.agg #[.int .i64 n0_0, .int .i64 n0_1, .int .i64 n0_2, .int .i64 n0_3, x0_4.val, x0_5.val]] v Q :=
 trip_of_eq (args := [.ag [.num .i64 n0_0, .num .i64 n0_1, .num .i64 n0_2, .num .i64 n0_3, .sl x0_4, .sl x0_5]]) (A := ⟨[], [], [], [], psG⟩) Tryz.func118 (by kernel_rfl) (by kernel_rfl) (by kernel_rfl : vc118 n0_0 n0_1 n0_2 n0_3 x0_4 x0_5 v Q = _) h

def vc119 (x_0 : Sl) (v : World) (Q : Value → World → Prop) : Prop :=
 ((decide ((x_0.n : Int) > 4)) = true →
 Q (.bool false) v) ∧
 ((decide ((x_0.n : Int) > 4)) = false →
 ∃ I1 : Int → World → Prop, ∃ m2 : Int → World → Nat, I1 0 v ∧
 ∀ n3 : Int, ∀ w4 : World, I1 n3 w4 →
 ((decide (n3 < (x_0.n : Int))) = true →
 IxOk x_0 n3 ∧
 ∃ n5 : Int, ∃ n6 : Int, ∃ x7 : Sl, (w4.cell? ((elA x_0 n3 3).add 0) = some (.int .i64 n5) ∧
 w4.cell? ((elA x_0 n3 3).add 1) = some (.int .i64 n6) ∧
 w4.cell? ((elA x_0 n3 3).add 2) = some (x7.val)) ∧
 ∃ q8 : Bool, (Trip Tryz.prog 121 #[x_0.val, .int .i64 n5] w4 fun r9 w10 => r9 = .bool q8 ∧ Sub w4 w10) ∧
 ∃ q11 : Bool, ((!q8) = false →
 (Trip Tryz.prog 121 #[x_0.val, .int .i64 n6] w4 fun r12 w13 => r12 = .bool q11 ∧ Sub w4 w13)) ∧
 (((((!q8) || (!q11)) || (decide ((x7.n : Int) > 3))) || ((decide ((x7.n : Int) > 0)) && ((!decide (n5 = 0)) || (!decide (n6 = 0))))) = true →
 Q (.bool false) w4) ∧
 (((((!q8) || (!q11)) || (decide ((x7.n : Int) > 3))) || ((decide ((x7.n : Int) > 0)) && ((!decide (n5 = 0)) || (!decide (n6 = 0))))) = false →
 ∃ I14 : Int → World → Prop, ∃ m15 : Int → World → Nat, I14 0 w4 ∧
 ∀ n16 : Int, ∀ w17 : World, I14 n16 w17 →
 ((decide (n16 < (x7.n : Int))) = true →
 IxOk x7 n16 ∧
 ∃ x18 : Sl, w17.cell? ((elA x7 n16 1).add 0) = some (x18.val) ∧
 ∃ q19 : Bool, ((decide ((x18.n : Int) > 3)) = false →
 (Trip Tryz.prog 120 #[x_0.val, x18.val] w17 fun r20 w21 => r20 = .bool q19 ∧ Sub w17 w21)) ∧
 (((decide ((x18.n : Int) > 3)) || (!q19)) = true →
 Q (.bool false) w17) ∧
 (((decide ((x18.n : Int) > 3)) || (!q19)) = false →
 ∃ n22 : Int, Wr .i64 (n16 + 1) n22 ∧
 ((.num .i64 n5 : SV) = .num .i64 n5) ∧
 ((.num .i64 n6 : SV) = .num .i64 n6) ∧
 ((.sl x7 : SV) = .sl x7) ∧
 I14 n22 w17 ∧
 m15 n22 w17 < m15 n16 w17)) ∧
 ((decide (n16 < (x7.n : Int))) = false →
 CutOk x_0 0 n3 ∧
 ∃ I23 : Int → World → Prop, ∃ m24 : Int → World → Nat, I23 0 w17 ∧
 ∀ n25 : Int, ∀ w26 : World, I23 n25 w26 →
 ((decide (n25 < ((x_0.cut 0 n3 3).n : Int))) = true →
 IxOk (x_0.cut 0 n3 3) n25 ∧
 ∃ n27 : Int, ∃ n28 : Int, ∃ x29 : Sl, (w26.cell? ((elA (x_0.cut 0 n3 3) n25 3).add 0) = some (.int .i64 n27) ∧
 w26.cell? ((elA (x_0.cut 0 n3 3) n25 3).add 1) = some (.int .i64 n28) ∧
 w26.cell? ((elA (x_0.cut 0 n3 3) n25 3).add 2) = some (x29.val)) ∧
 (((((decide ((x7.n : Int) = 0)) && (decide ((x29.n : Int) = 0))) && (decide (n27 = n5))) && (decide (n28 = n6))) = true →
 Q (.bool false) w26) ∧
 (((((decide ((x7.n : Int) = 0)) && (decide ((x29.n : Int) = 0))) && (decide (n27 = n5))) && (decide (n28 = n6))) = false →
 ∃ n30 : Int, Wr .i64 (n25 + 1) n30 ∧
 ((.num .i64 n5 : SV) = .num .i64 n5) ∧
 ((.num .i64 n6 : SV) = .num .i64 n6) ∧
 ((.sl x7 : SV) = .sl x7) ∧
 I23 n30 w26 ∧
 m24 n30 w26 < m24 n25 w26)) ∧
 ((decide (n25 < ((x_0.cut 0 n3 3).n : Int))) = false →
 ∃ n31 : Int, Wr .i64 (n3 + 1) n31 ∧
 I1 n31 w26 ∧
 m2 n31 w26 < m2 n3 w4)))) ∧
 ((decide (n3 < (x_0.n : Int))) = false →
 Q (.bool true) w4))
theorem of119 (x_0 : Sl) (v : World) (Q : Value → World → Prop) (h : vc119 x_0 v Q) : Trip Tryz.prog 119 #[x_0.val] v Q :=
 trip_of_eq (args := [.sl x_0]) (A := ⟨[(4, [(14, .int .i64)], []), (9, [(56, .int .i64)], []), (15, [(76, .int .i64)], [])], [], [], [], psG⟩) Tryz.func119 (by kernel_rfl) (by kernel_rfl) (by kernel_rfl : vc119 x_0 v Q = _) h

def vc120 (x_0 : Sl) (x_1 : Sl) (v : World) (Q : Value → World → Prop) : Prop :=
 ∃ I1 : Int → World → Prop, ∃ m2 : Int → World → Nat, I1 0 v ∧
 ∀ n3 : Int, ∀ w4 : World, I1 n3 w4 →
 ((decide (n3 < (x_1.n : Int))) = true →
 IxOk x_1 n3 ∧
 ∃ n5 : Int, w4.cell? ((elA x_1 n3 1).add 0) = some (.int .i64 n5) ∧
 ∃ q6 : Bool, (Trip Tryz.prog 121 #[x_0.val, .int .i64 n5] w4 fun r7 w8 => r7 = .bool q6 ∧ Sub w4 w8) ∧
 ((!q6) = true →
 Q (.bool false) w4) ∧
 ((!q6) = false →
 ∃ n9 : Int, Wr .i64 (n3 + 1) n9 ∧
 I1 n9 w4 ∧
 m2 n9 w4 < m2 n3 w4)) ∧
 ((decide (n3 < (x_1.n : Int))) = false →
 Q (.bool true) w4)
theorem of120 (x_0 : Sl) (x_1 : Sl) (v : World) (Q : Value → World → Prop) (h : vc120 x_0 x_1 v Q) : Trip Tryz.prog 120 #[x_0.val, x_1.val] v Q :=
 trip_of_eq (args := [.sl x_0, .sl x_1]) (A := ⟨[(2, [(9, .int .i64)], [])], [], [], [], psG⟩) Tryz.func120 (by kernel_rfl) (by kernel_rfl) (by kernel_rfl : vc120 x_0 x_1 v Q = _) h

def vc121 (x_0 : Sl) (n_1 : Int) (v : World) (Q : Value → World → Prop) : Prop :=
 Q (.bool ((decide (n_1 ≥ 0)) && (decide (n_1 ≤ (x_0.n : Int))))) v
theorem of121 (x_0 : Sl) (n_1 : Int) (v : World) (Q : Value → World → Prop) (h : vc121 x_0 n_1 v Q) : Trip Tryz.prog 121 #[x_0.val, .int .i64 n_1] v Q :=
 trip_of_eq (args := [.sl x_0, .num .i64 n_1]) (A := ⟨[], [], [], [], psG⟩) Tryz.func121 (by kernel_rfl) (by kernel_rfl) (by kernel_rfl : vc121 x_0 n_1 v Q = _) h

def vc122 (x_0 : Sl) (f_1 : Nat) (k1_0 : Addr) (v : World) (Q : Value → World → Prop) : Prop :=
 ∃ I1 : Int → World → Prop, ∃ m2 : Int → World → Nat, I1 0 v ∧
 ∀ n3 : Int, ∀ w4 : World, I1 n3 w4 →
 ((decide (n3 < (x_0.n : Int))) = true →
 IxOk x_0 n3 ∧
 ∃ n5 : Int, w4.cell? ((elA x_0 n3 1).add 0) = some (.int .i64 n5) ∧
 Trip Tryz.prog f_1 #[.int .i64 n5, .pointer (some (k1_0.add 0))] w4 fun r6 w7 =>
 ∃ q8 : Bool, r6 = .bool q8 ∧
 (q8 = true →
 Q (.int .i64 n3) w7) ∧
 (q8 = false →
 ∃ n9 : Int, Wr .i64 (n3 + 1) n9 ∧
 I1 n9 w7 ∧
 m2 n9 w7 < m2 n3 w4)) ∧
 ((decide (n3 < (x_0.n : Int))) = false →
 Q (.int .i64 (-1)) w4)
theorem of122 (x_0 : Sl) (f_1 : Nat) (k1_0 : Addr) (v : World) (Q : Value → World → Prop) (h : vc122 x_0 f_1 k1_0 v Q) : Trip Tryz.prog 122 #[x_0.val, .func (.func f_1) #[] #[.pointer (some (k1_0.add 0))]] v Q :=
 trip_of_eq (args := [.sl x_0, .clo f_1 [.pt k1_0 0]]) (A := ⟨[(2, [(8, .int .i64)], [])], [], [], [], psG⟩) Tryz.func122 (by kernel_rfl) (by kernel_rfl) (by kernel_rfl : vc122 x_0 f_1 k1_0 v Q = _) h

def vc123 (x_0 : Sl) (v : World) (Q : Value → World → Prop) : Prop :=
 ∃ I1 : Int → Int → World → Prop, ∃ m2 : Int → Int → World → Nat, I1 0 0 v ∧
 ∀ n3 : Int, ∀ n4 : Int, ∀ w5 : World, I1 n3 n4 w5 →
 ((decide (n4 < (x_0.n : Int))) = true →
 IxOk x_0 n4 ∧
 ∃ n6 : Int, ∃ n7 : Int, ∃ x8 : Sl, (w5.cell? ((elA x_0 n4 3).add 0) = some (.int .i64 n6) ∧
 w5.cell? ((elA x_0 n4 3).add 1) = some (.int .i64 n7) ∧
 w5.cell? ((elA x_0 n4 3).add 2) = some (x8.val)) ∧
 ∃ n9 : Int, Wr .i64 (n3 + (x8.n : Int)) n9 ∧
 ∃ n10 : Int, Wr .i64 (n4 + 1) n10 ∧
 I1 n9 n10 w5 ∧
 m2 n9 n10 w5 < m2 n3 n4 w5) ∧
 ((decide (n4 < (x_0.n : Int))) = false →
 Q (.int .i64 n3) w5)
theorem of123 (x_0 : Sl) (v : World) (Q : Value → World → Prop) (h : vc123 x_0 v Q) : Trip Tryz.prog 123 #[x_0.val] v Q :=
 trip_of_eq (args := [.sl x_0]) (A := ⟨[(3, [(3, .int .i64), (8, .int .i64)], [])], [], [], [], psG⟩) Tryz.func123 (by kernel_rfl) (by kernel_rfl) (by kernel_rfl : vc123 x_0 v Q = _) h

def vc124 (x_0 : Sl) (n_1 : Int) (v : World) (Q : Value → World → Prop) : Prop :=
 (((decide (n_1 < 1)) || (decide (n_1 > (x_0.n : Int)))) = true →
 Q (.slice none 0 0) v) ∧
 (((decide (n_1 < 1)) || (decide (n_1 > (x_0.n : Int)))) = false →
 ∃ n1 : Int, Wr .i64 (n_1 - 1) n1 ∧
 CutOk x_0 0 n1 ∧
 ∃ n2 : Int, (Trip Tryz.prog 123 #[(x_0.cut 0 n1 3).val] v fun r3 w4 => r3 = .int .i64 n2 ∧ Sub v w4) ∧
 ∃ n5 : Int, Wr .i64 (n_1 - 1) n5 ∧
 IxOk x_0 n5 ∧
 ∃ x6 : Sl, v.cell? ((elA x_0 n5 3).add 2) = some (x6.val) ∧
 ∃ I7 : Sl → Int → World → Prop, ∃ m8 : Sl → Int → World → Nat, I7 (Sl.mk none 0 0) 0 v ∧
 ∀ x9 : Sl, ∀ n10 : Int, ∀ w11 : World, I7 x9 n10 w11 →
 ((decide (n10 < (x6.n : Int))) = true →
 ∃ n12 : Int, Wr .i64 (n2 + n10) n12 ∧
 StepT Tryz.prog (Instr.buildSlice 37 1 #[(0, (.int .i64 n12))]) w11 fun r13 w14 =>
 ∃ x15 : Sl, r13 = x15.val ∧
 StepT Tryz.prog (Builtin.append_ #[37, 37] 37 #[(x9.val), (x15.val)]) w14 fun r16 w17 =>
 ∃ x18 : Sl, r16 = x18.val ∧
 ∃ n19 : Int, Wr .i64 (n10 + 1) n19 ∧
 I7 x18 n19 w17 ∧
 m8 x18 n19 w17 < m8 x9 n10 w11) ∧
 ((decide (n10 < (x6.n : Int))) = false →
 Q (x9.val) w11))
theorem of124 (x_0 : Sl) (n_1 : Int) (v : World) (Q : Value → World → Prop) (h : vc124 x_0 n_1 v Q) : Trip Tryz.prog 124 #[x_0.val, .int .i64 n_1] v Q :=
 trip_of_eq (args := [.sl x_0, .num .i64 n_1]) (A := ⟨[(6, [(6, .sl), (28, .int .i64)], [])], [], [], [], psG⟩) Tryz.func124 (by kernel_rfl) (by kernel_rfl) (by kernel_rfl : vc124 x_0 n_1 v Q = _) h

def vc125 (x_0 : Sl) (n_1 : Int) (v : World) (Q : Value → World → Prop) : Prop :=
 ∃ n1 : Int, ∃ x2 : Sl, (Trip Tryz.prog 138 #[x_0.val, .int .i64 n_1] v fun r3 w4 => r3 = .tuple #[.int .i64 n1, .agg #[x2.val]] ∧ Sub v w4) ∧
 Q (x2.val) v
theorem of125 (x_0 : Sl) (n_1 : Int) (v : World) (Q : Value → World → Prop) (h : vc125 x_0 n_1 v Q) : Trip Tryz.prog 125 #[x_0.val, .int .i64 n_1] v Q :=
 trip_of_eq (args := [.sl x_0, .num .i64 n_1]) (A := ⟨[], [], [], [], psG⟩) Tryz.func125 (by kernel_rfl) (by kernel_rfl) (by kernel_rfl : vc125 x_0 n_1 v Q = _) h

def vc126 (x_0 : Sl) (v : World) (Q : Value → World → Prop) : Prop :=
 ∃ q1 : Bool, PureT Tryz.prog (do eqGuard .eql 67 (.tmp 3) (.const (.slice none 0 0)) (x_0.val) (.slice none 0 0); binOp .eql 67 (x_0.val) (.slice none 0 0)) v (.bool q1) ∧
 (q1 = true →
 Q (.slice none 0 0) v) ∧
 (q1 = false →
 StepT Tryz.prog (Instr.buildSlice 67 0 #[]) v fun r2 w3 =>
 ∃ x4 : Sl, r2 = x4.val ∧
 StepT Tryz.prog (Builtin.append_ #[67, 67] 67 #[(x4.val), (x_0.val)]) w3 fun r5 w6 =>
 ∃ x7 : Sl, r5 = x7.val ∧
 Q (x7.val) w6)
theorem of126 (x_0 : Sl) (v : World) (Q : Value → World → Prop) (h : vc126 x_0 v Q) : Trip Tryz.prog 126 #[x_0.val] v Q :=
 trip_of_eq (args := [.sl x_0]) (A := ⟨[], [], [], [], psG⟩) Tryz.func126 (by kernel_rfl) (by kernel_rfl) (by kernel_rfl : vc126 x_0 v Q = _) h

def vc127 (x_0 : Sl) (v : World) (Q : Value → World → Prop) : Prop :=
 ∃ q1 : Bool, PureT Tryz.prog (do eqGuard .eql 37 (.tmp 3) (.const (.slice none 0 0)) (x_0.val) (.slice none 0 0); binOp .eql 37 (x_0.val) (.slice none 0 0)) v (.bool q1) ∧
 (q1 = true →
 Q (.slice none 0 0) v) ∧
 (q1 = false →
 StepT Tryz.prog (Instr.buildSlice 37 0 #[]) v fun r2 w3 =>
 ∃ x4 : Sl, r2 = x4.val ∧
 StepT Tryz.prog (Builtin.append_ #[37, 37] 37 #[(x4.val), (x_0.val)]) w3 fun r5 w6 =>
 ∃ x7 : Sl, r5 = x7.val ∧
 Q (x7.val) w6)
theorem of127 (x_0 : Sl) (v : World) (Q : Value → World → Prop) (h : vc127 x_0 v Q) : Trip Tryz.prog 127 #[x_0.val] v Q :=
 trip_of_eq (args := [.sl x_0]) (A := ⟨[], [], [], [], psG⟩) Tryz.func127 (by kernel_rfl) (by kernel_rfl) (by kernel_rfl : vc127 x_0 v Q = _) h

def vc128 (a_0 : Addr) (n_1 : Int) (v : World) (Q : Value → World → Prop) : Prop :=
 ∃ I1 : Int → World → Prop, ∃ m2 : Int → World → Nat, I1 n_1 v ∧
 ∀ n3 : Int, ∀ w4 : World, I1 n3 w4 →
 ((decide (n3 ≥ 0)) = true →
 ∃ x5 : Sl, w4.cell? (a_0.add 0) = some (x5.val) ∧
 IxOk x5 n3 ∧
 ∃ n6 : Int, w4.cell? ((elA x5 n3 6).add 1) = some (.int .i64 n6) ∧
 ∃ x7 : Sl, ((decide (n6 > 0)) = false →
 w4.cell? (a_0.add 0) = some (x7.val)) ∧
 ((decide (n6 > 0)) = false →
 IxOk x7 n3) ∧
 ∃ q8 : Bool, ((decide (n6 > 0)) = false →
 w4.cell? ((elA x7 n3 6).add 2) = some (.bool q8)) ∧
 (((decide (n6 > 0)) || q8) = true →
 Q (.bool true) w4) ∧
 (((decide (n6 > 0)) || q8) = false →
 ∃ x9 : Sl, w4.cell? (a_0.add 0) = some (x9.val) ∧
 IxOk x9 n3 ∧
 ∃ n10 : Int, w4.cell? ((elA x9 n3 6).add 4) = some (.int .i64 n10) ∧
 I1 n10 w4 ∧
 m2 n10 w4 < m2 n3 w4)) ∧
 ((decide (n3 ≥ 0)) = false →
 Q (.bool false) w4)
theorem of128 (a_0 : Addr) (n_1 : Int) (v : World) (Q : Value → World → Prop) (h : vc128 a_0 n_1 v Q) : Trip Tryz.prog 128 #[.pointer (some (a_0.add 0)), .int .i64 n_1] v Q :=
 trip_of_eq (args := [.pt a_0 0, .num .i64 n_1]) (A := ⟨[(1, [(1, .int .i64)], [])], [], [], [], psG⟩) Tryz.func128 (by kernel_rfl) (by kernel_rfl) (by kernel_rfl : vc128 a_0 n_1 v Q = _) h

def vc129 (a_0 : Addr) (n_1 : Int) (v : World) (Q : Value → World → Prop) : Prop :=
 ∃ x1 : Sl, v.cell? (a_0.add 0) = some (x1.val) ∧
 IxOk x1 n_1 ∧
 ∃ n2 : Int, v.cell? ((elA x1 n_1 6).add 1) = some (.int .i64 n2) ∧
 ∃ n3 : Int, Wr .i64 (n2 - 1) n3 ∧
 IxOk x1 n_1 ∧
 StoreAt v (elA x1 n_1 6) 1 [.int .i64 n3] fun w4 =>
 ∃ x5 : Sl, w4.cell? (a_0.add 0) = some (x5.val) ∧
 IxOk x5 n_1 ∧
 ∃ n6 : Int, w4.cell? ((elA x5 n_1 6).add 1) = some (.int .i64 n6) ∧
 Q (.bool (decide (n6 ≥ 0))) w4
theorem of129 (a_0 : Addr) (n_1 : Int) (v : World) (Q : Value → World → Prop) (h : vc129 a_0 n_1 v Q) : Trip Tryz.prog 129 #[.pointer (some (a_0.add 0)), .int .i64 n_1] v Q :=
 trip_of_eq (args := [.pt a_0 0, .num .i64 n_1]) (A := ⟨[], [], [], [], psG⟩) Tryz.func129 (by kernel_rfl) (by kernel_rfl) (by kernel_rfl : vc129 a_0 n_1 v Q = _) h

def vc130 (a_0 : Addr) (a_1 : Addr) (n2_0 : Int) (n2_1 : Int) (n2_2 : Int) (n2_3 : Int) (x2_4 : Sl) (x2_5 : Sl) (v : World) (Q : Value → World → Prop) : Prop :=
 IxOk x2_4 0 ∧
 ∃ n1 : Int, v.cell? ((elA x2_4 0 1).add 0) = some (.int .i64 n1) ∧
 ∃ x2 : Sl, v.cell? (a_1.add 0) = some (x2.val) ∧
 IxOk x2 n1 ∧
 ∃ n3 : Int, ∃ n4 : Int, ∃ q5 : Bool, ∃ n6 : Int, ∃ n7 : Int, ∃ n8 : Int, (v.cell? ((elA x2 n1 6).add 0) = some (.int .i64 n3) ∧
 v.cell? ((elA x2 n1 6).add 1) = some (.int .i64 n4) ∧
 v.cell? ((elA x2 n1 6).add 2) = some (.bool q5) ∧
 v.cell? ((elA x2 n1 6).add 3) = some (.int .i64 n6) ∧
 v.cell? ((elA x2 n1 6).add 4) = some (.int .i64 n7) ∧
 v.cell? ((elA x2 n1 6).add 5) = some (.int .i64 n8)) ∧
 ∃ x9 : Sl, ((decide (n2_0 = 17)) = true →
 ((decide (n4 < 1)) || (decide (n6 < 0))) = false →
 v.cell? (a_1.add 1) = some (x9.val)) ∧
 ((decide (n2_0 = 17)) = true →
 ((decide (n4 < 1)) || (decide (n6 < 0))) = false →
 IxOk x9 n1) ∧
 ∃ n10 : Int, ((decide (n2_0 = 17)) = true →
 ((decide (n4 < 1)) || (decide (n6 < 0))) = false →
 v.cell? ((elA x9 n1 1).add 0) = some (.int .i64 n10)) ∧
 ((((decide (n4 < 1)) || (decide (n6 < 0))) || ((decide (n2_0 = 17)) && (decide (n10 ≥ 0)))) = true →
 Q (.bool false) v) ∧
 ((((decide (n4 < 1)) || (decide (n6 < 0))) || ((decide (n2_0 = 17)) && (decide (n10 ≥ 0)))) = false →
 ∃ x11 : Sl, v.cell? (a_0.add 0) = some (x11.val) ∧
 ∃ x12 : Sl, (Trip Tryz.prog 125 #[x11.val, .int .i64 n6] v fun r13 w14 => r13 = x12.val ∧ Sub v w14) ∧
 ((0 : Int) ≤ 1 ∧ 1 ≤ (x2_4.n : Int)) ∧
 ∃ I15 : Sl → Int → World → Prop, ∃ m16 : Sl → Int → World → Nat, I15 (x2_4.cut 1 (x2_4.n : Int) 1) 0 v ∧
 ∀ x17 : Sl, ∀ n18 : Int, ∀ w19 : World, I15 x17 n18 w19 →
 ((decide (n18 < (x12.n : Int))) = true →
 IxOk x12 n18 ∧
 ∃ n20 : Int, w19.cell? ((elA x12 n18 1).add 0) = some (.int .i64 n20) ∧
 ((decide (n20 = 0)) = true →
 ∃ n21 : Int, Wr .i64 (n18 + 1) n21 ∧
 ((.num .i64 n2_0 : SV) = .num .i64 n2_0) ∧
 ((.num .i64 n2_1 : SV) = .num .i64 n2_1) ∧
 ((.num .i64 n2_2 : SV) = .num .i64 n2_2) ∧
 ((.num .i64 n2_3 : SV) = .num .i64 n2_3) ∧
 ((.sl x2_4 : SV) = .sl x2_4) ∧
 ((.sl x2_5 : SV) = .sl x2_5) ∧
 ((.num .i64 n3 : SV) = .num .i64 n3) ∧
 ((.num .i64 n4 : SV) = .num .i64 n4) ∧
 ((.b q5 : SV) = .b q5) ∧
 ((.num .i64 n6 : SV) = .num .i64 n6) ∧
 ((.num .i64 n7 : SV) = .num .i64 n7) ∧
 ((.num .i64 n8 : SV) = .num .i64 n8) ∧
 I15 x17 n21 w19 ∧
 m16 x17 n21 w19 < m16 x17 n18 w19) ∧
 ((decide (n20 = 0)) = false →
 ∃ x22 : Sl, ((decide ((x17.n : Int) = 0)) = false →
 w19.cell? (a_1.add 0) = some (x22.val)) ∧
 ((decide ((x17.n : Int) = 0)) = false →
 IxOk x17 0) ∧
 ∃ n23 : Int, ((decide ((x17.n : Int) = 0)) = false →
 w19.cell? ((elA x17 0 1).add 0) = some (.int .i64 n23)) ∧
 ((decide ((x17.n : Int) = 0)) = false →
 IxOk x22 n23) ∧
 ∃ n24 : Int, ((decide ((x17.n : Int) = 0)) = false →
 w19.cell? ((elA x22 n23 6).add 4) = some (.int .i64 n24)) ∧
 ∃ x25 : Sl, (((decide ((x17.n : Int) = 0)) || (!decide (n24 = n1))) = false →
 w19.cell? (a_1.add 0) = some (x25.val)) ∧
 (((decide ((x17.n : Int) = 0)) || (!decide (n24 = n1))) = false →
 IxOk x17 0) ∧
 ∃ n26 : Int, (((decide ((x17.n : Int) = 0)) || (!decide (n24 = n1))) = false →
 w19.cell? ((elA x17 0 1).add 0) = some (.int .i64 n26)) ∧
 (((decide ((x17.n : Int) = 0)) || (!decide (n24 = n1))) = false →
 IxOk x25 n26) ∧
 ∃ n27 : Int, (((decide ((x17.n : Int) = 0)) || (!decide (n24 = n1))) = false →
 w19.cell? ((elA x25 n26 6).add 5) = some (.int .i64 n27)) ∧
 ((((decide ((x17.n : Int) = 0)) || (!decide (n24 = n1))) || (!decide (n27 = n18))) = true →
 Q (.bool false) w19) ∧
 ((((decide ((x17.n : Int) = 0)) || (!decide (n24 = n1))) || (!decide (n27 = n18))) = false →
 ((0 : Int) ≤ 1 ∧ 1 ≤ (x17.n : Int)) ∧
 ∃ n28 : Int, Wr .i64 (n18 + 1) n28 ∧
 ((.num .i64 n2_0 : SV) = .num .i64 n2_0) ∧
 ((.num .i64 n2_1 : SV) = .num .i64 n2_1) ∧
 ((.num .i64 n2_2 : SV) = .num .i64 n2_2) ∧
 ((.num .i64 n2_3 : SV) = .num .i64 n2_3) ∧
 ((.sl x2_4 : SV) = .sl x2_4) ∧
 ((.sl x2_5 : SV) = .sl x2_5) ∧
 ((.num .i64 n3 : SV) = .num .i64 n3) ∧
 ((.num .i64 n4 : SV) = .num .i64 n4) ∧
 ((.b q5 : SV) = .b q5) ∧
 ((.num .i64 n6 : SV) = .num .i64 n6) ∧
 ((.num .i64 n7 : SV) = .num .i64 n7) ∧
 ((.num .i64 n8 : SV) = .num .i64 n8) ∧
 I15 (x17.cut 1 (x17.n : Int) 1) n28 w19 ∧
 m16 (x17.cut 1 (x17.n : Int) 1) n28 w19 < m16 x17 n18 w19))) ∧
 ((decide (n18 < (x12.n : Int))) = false →
 ((decide ((x17.n : Int) > 0)) = true →
 Q (.bool false) w19) ∧
 ((decide ((x17.n : Int) > 0)) = false →
 ((0 : Int) ≤ 1 ∧ 1 ≤ (x2_4.n : Int)) ∧
 ∃ I29 : Int → World → Prop, ∃ m30 : Int → World → Nat, I29 0 w19 ∧
 ∀ n31 : Int, ∀ w32 : World, I29 n31 w32 →
 ((decide (n31 < ((x2_4.cut 1 (x2_4.n : Int) 1).n : Int))) = true →
 IxOk (x2_4.cut 1 (x2_4.n : Int) 1) n31 ∧
 ∃ n33 : Int, w32.cell? ((elA (x2_4.cut 1 (x2_4.n : Int) 1) n31 1).add 0) = some (.int .i64 n33) ∧
 ∃ x34 : Sl, w32.cell? (a_1.add 0) = some (x34.val) ∧
 IxOk x34 n33 ∧
 ∃ n35 : Int, w32.cell? ((elA x34 n33 6).add 1) = some (.int .i64 n35) ∧
 ∃ n36 : Int, Wr .i64 (n35 + 1) n36 ∧
 IxOk x34 n33 ∧
 StoreAt w32 (elA x34 n33 6) 1 [.int .i64 n36] fun w37 =>
 ∃ n38 : Int, Wr .i64 (n31 + 1) n38 ∧
 ((.num .i64 n2_0 : SV) = .num .i64 n2_0) ∧
 ((.num .i64 n2_1 : SV) = .num .i64 n2_1) ∧
 ((.num .i64 n2_2 : SV) = .num .i64 n2_2) ∧
 ((.num .i64 n2_3 : SV) = .num .i64 n2_3) ∧
 ((.sl x2_4 : SV) = .sl x2_4) ∧
 ((.sl x2_5 : SV) = .sl x2_5) ∧
 ((.num .i64 n3 : SV) = .num .i64 n3) ∧
 ((.num .i64 n4 : SV) = .num .i64 n4) ∧
 ((.b q5 : SV) = .b q5) ∧
 ((.num .i64 n6 : SV) = .num .i64 n6) ∧
 ((.num .i64 n7 : SV) = .num .i64 n7) ∧
 ((.num .i64 n8 : SV) = .num .i64 n8) ∧
 I29 n38 w37 ∧
 m30 n38 w37 < m30 n31 w32) ∧
 ((decide (n31 < ((x2_4.cut 1 (x2_4.n : Int) 1).n : Int))) = false →
 ∃ x39 : Sl, w32.cell? (a_1.add 0) = some (x39.val) ∧
 IxOk x39 n1 ∧
 ∃ n40 : Int, w32.cell? ((elA x39 n1 6).add 1) = some (.int .i64 n40) ∧
 ∃ n41 : Int, Wr .i64 (n40 - 1) n41 ∧
 IxOk x39 n1 ∧
 StoreAt w32 (elA x39 n1 6) 1 [.int .i64 n41] fun w42 =>
 ((decide (n2_0 = 17)) = true →
 ∃ x43 : Sl, w42.cell? (a_1.add 1) = some (x43.val) ∧
 IxOk x43 n1 ∧
 StoreAt w42 (elA x43 n1 1) 0 [.int .i64 (x12.n : Int)] fun w44 =>
 Q (.bool true) w44) ∧
 ((decide (n2_0 = 17)) = false →
 Q (.bool true) w42)))))
theorem of130 (a_0 : Addr) (a_1 : Addr) (n2_0 : Int) (n2_1 : Int) (n2_2 : Int) (n2_3 : Int) (x2_4 : Sl) (x2_5 : Sl) (v : World) (Q : Value → World → Prop) (h : vc130 a_0 a_1 n2_0 n2_1 n2_2 n2_3 x2_4 x2_5 v Q) : Trip Tryz.prog 130 #[.pointer (some (a_0.add 0)), .pointer (some (a_1.add 0)), .agg #[.int .i64 n2_0, .int .i64 n2_1, .int .i64 n2_2, .int .i64 n2_3, x2_4.val, x2_5.val]] v Q :=
 trip_of_eq (args := [.pt a_0 0, .pt a_1 0, .ag [.num .i64 n2_0, .num .i64 n2_1, .num .i64 n2_2, .num .i64 n2_3, .sl x2_4, .sl x2_5]]) (A := ⟨[(7, [(10, .sl), (62, .int .i64)], []), (17, [(110, .int .i64)], [])], [], [], [], psG⟩) Tryz.func130 (by kernel_rfl) (by kernel_rfl) (by kernel_rfl : vc130 a_0 a_1 n2_0 n2_1 n2_2 n2_3 x2_4 x2_5 v Q = _) h

def vc131 (a_0 : Addr) (n_1 : Int) (n_2 : Int) (n_3 : Int) (v : World) (Q : Value → World → Prop) : Prop :=
 ∃ x1 : Sl, v.cell? (a_0.add 0) = some (x1.val) ∧
 IxOk x1 n_1 ∧
 ∃ n2 : Int, v.cell? ((elA x1 n_1 6).add 1) = some (.int .i64 n2) ∧
 ((decide (n2 > 0)) = true →
 Q (.bool false) v) ∧
 ((decide (n2 > 0)) = false →
 ∃ x3 : Sl, v.cell? (a_0.add 0) = some (x3.val) ∧
 Trip Tryz.prog 53 #[] v fun r4 w5 =>
 ∃ n6 : Int, ∃ n7 : Int, ∃ q8 : Bool, ∃ n9 : Int, ∃ n10 : Int, ∃ n11 : Int, r4 = .agg #[.int .i64 n6, .int .i64 n7, .bool q8, .int .i64 n9, .int .i64 n10, .int .i64 n11] ∧
 Sub v w5 ∧
 IxOk x3 n_1 ∧
 StoreAt w5 (elA x3 n_1 6) 0 [.int .i64 n6, .int .i64 n7, .bool q8, .int .i64 n9, .int .i64 n10, .int .i64 n11] fun w12 =>
 ∃ x13 : Sl, w12.cell? (a_0.add 0) = some (x13.val) ∧
 ∃ x14 : Sl, w12.cell? (a_0.add 0) = some (x14.val) ∧
 IxOk x13 n_1 ∧
 StoreAt w12 (elA x13 n_1 6) 0 [.int .i64 n_2] fun w15 =>
 IxOk x14 n_1 ∧
 StoreAt w15 (elA x14 n_1 6) 1 [.int .i64 n_3] fun w16 =>
 ∃ x17 : Sl, w16.cell? (a_0.add 0) = some (x17.val) ∧
 ∃ I18 : Int → World → Prop, ∃ m19 : Int → World → Nat, I18 0 w16 ∧
 ∀ n20 : Int, ∀ w21 : World, I18 n20 w21 →
 ((decide (n20 < (x17.n : Int))) = true →
 ∃ x22 : Sl, w21.cell? (a_0.add 0) = some (x22.val) ∧
 IxOk x22 n20 ∧
 ∃ n23 : Int, w21.cell? ((elA x22 n20 6).add 4) = some (.int .i64 n23) ∧
 ((decide (n23 = n_1)) = true →
 ∃ x24 : Sl, w21.cell? (a_0.add 0) = some (x24.val) ∧
 ∃ x25 : Sl, w21.cell? (a_0.add 0) = some (x25.val) ∧
 IxOk x24 n20 ∧
 StoreAt w21 (elA x24 n20 6) 4 [.int .i64 (-1)] fun w26 =>
 IxOk x25 n20 ∧
 StoreAt w26 (elA x25 n20 6) 5 [.int .i64 (-1)] fun w27 =>
 ∃ n28 : Int, Wr .i64 (n20 + 1) n28 ∧
 I18 n28 w27 ∧
 m19 n28 w27 < m19 n20 w21) ∧
 ((decide (n23 = n_1)) = false →
 ∃ n29 : Int, Wr .i64 (n20 + 1) n29 ∧
 I18 n29 w21 ∧
 m19 n29 w21 < m19 n20 w21)) ∧
 ((decide (n20 < (x17.n : Int))) = false →
 Q (.bool true) w21))
theorem of131 (a_0 : Addr) (n_1 : Int) (n_2 : Int) (n_3 : Int) (v : World) (Q : Value → World → Prop) (h : vc131 a_0 n_1 n_2 n_3 v Q) : Trip Tryz.prog 131 #[.pointer (some (a_0.add 0)), .int .i64 n_1, .int .i64 n_2, .int .i64 n_3] v Q :=
 trip_of_eq (args := [.pt a_0 0, .num .i64 n_1, .num .i64 n_2, .num .i64 n_3]) (A := ⟨[(6, [(47, .int .i64)], [])], [], [(3, [5]), (4, []), (9, [])], [], psG⟩) Tryz.func131 (by kernel_rfl) (by kernel_rfl) (by kernel_rfl : vc131 a_0 n_1 n_2 n_3 v Q = _) h

def vc132 (a_0 : Addr) (a_1 : Addr) (n2_0 : Int) (n2_1 : Int) (n2_2 : Int) (n2_3 : Int) (x2_4 : Sl) (x2_5 : Sl) (v : World) (Q : Value → World → Prop) : Prop :=
 IxOk x2_4 0 ∧
 ∃ n1 : Int, v.cell? ((elA x2_4 0 1).add 0) = some (.int .i64 n1) ∧
 ∃ x2 : Sl, v.cell? (a_1.add 0) = some (x2.val) ∧
 IxOk x2 n1 ∧
 ∃ n3 : Int, ∃ n4 : Int, ∃ q5 : Bool, ∃ n6 : Int, ∃ n7 : Int, ∃ n8 : Int, (v.cell? ((elA x2 n1 6).add 0) = some (.int .i64 n3) ∧
 v.cell? ((elA x2 n1 6).add 1) = some (.int .i64 n4) ∧
 v.cell? ((elA x2 n1 6).add 2) = some (.bool q5) ∧
 v.cell? ((elA x2 n1 6).add 3) = some (.int .i64 n6) ∧
 v.cell? ((elA x2 n1 6).add 4) = some (.int .i64 n7) ∧
 v.cell? ((elA x2 n1 6).add 5) = some (.int .i64 n8)) ∧
 ∃ q9 : Bool, (Trip Tryz.prog 128 #[.pointer (some (a_1.add 0)), .int .i64 n1] v fun r10 w11 => r10 = .bool q9 ∧ Sub v w11) ∧
 (((!q9) || (decide (n6 < 0))) = true →
 Q (.bool false) v) ∧
 (((!q9) || (decide (n6 < 0))) = false →
 ∃ x12 : Sl, v.cell? (a_0.add 0) = some (x12.val) ∧
 ∃ x13 : Sl, (Trip Tryz.prog 125 #[x12.val, .int .i64 n6] v fun r14 w15 => r14 = x13.val ∧ Sub v w15) ∧
 ((decide (n2_2 ≥ (x13.n : Int))) = false →
 IxOk x13 n2_2) ∧
 ∃ n16 : Int, ((decide (n2_2 ≥ (x13.n : Int))) = false →
 v.cell? ((elA x13 n2_2 1).add 0) = some (.int .i64 n16)) ∧
 ((decide (n2_2 ≥ (x13.n : Int))) = false →
 Trip Tryz.prog 131 #[.pointer (some (a_1.add 0)), .int .i64 n2_1, .int .i64 n16, .int .i64 0] v fun r17 w18 =>
 ∃ q19 : Bool, r17 = .bool q19 ∧
 ((!q19) = true →
 Q (.bool false) w18) ∧
 ((!q19) = false →
 ((!decide (n2_1 = n1)) = true →
 ∃ x20 : Sl, w18.cell? (a_1.add 0) = some (x20.val) ∧
 ∃ x21 : Sl, w18.cell? (a_1.add 0) = some (x21.val) ∧
 IxOk x20 n2_1 ∧
 ((((StoreAt w18 (elA x20 n2_1 6) 4 [.int .i64 n1] fun w22 =>
 IxOk x21 n2_1 ∧
 StoreAt w22 (elA x21 n2_1 6) 5 [.int .i64 n2_2] fun w23 =>
 Q (.bool true) w23) ∧
 StoreAt w18 (elA x20 n2_1 6) 4 [.int .i64 n1] fun w24 =>
 IxOk x21 n2_1 ∧
 StoreAt w24 (elA x21 n2_1 6) 5 [.int .i64 n2_2] fun w25 =>
 Q (.bool true) w25) ∧
 StoreAt w18 (elA x20 n2_1 6) 4 [.int .i64 n1] fun w26 =>
 IxOk x21 n2_1 ∧
 StoreAt w26 (elA x21 n2_1 6) 5 [.int .i64 n2_2] fun w27 =>
 Q (.bool true) w27) ∧
 (((StoreAt w18 (elA x20 n2_1 6) 4 [.int .i64 n1] fun w28 =>
 IxOk x21 n2_1 ∧
 StoreAt w28 (elA x21 n2_1 6) 5 [.int .i64 n2_2] fun w29 =>
 Q (.bool true) w29) ∧
 StoreAt w18 (elA x20 n2_1 6) 4 [.int .i64 n1] fun w30 =>
 IxOk x21 n2_1 ∧
 StoreAt w30 (elA x21 n2_1 6) 5 [.int .i64 n2_2] fun w31 =>
 Q (.bool true) w31) ∧
 ((StoreAt w18 (elA x20 n2_1 6) 4 [.int .i64 n1] fun w32 =>
 IxOk x21 n2_1 ∧
 StoreAt w32 (elA x21 n2_1 6) 5 [.int .i64 n2_2] fun w33 =>
 Q (.bool true) w33) ∧
 StoreAt w18 (elA x20 n2_1 6) 4 [.int .i64 n1] fun w34 =>
 IxOk x21 n2_1 ∧
 StoreAt w34 (elA x21 n2_1 6) 5 [.int .i64 n2_2] fun w35 =>
 Q (.bool true) w35) ∧
 StoreAt w18 (elA x20 n2_1 6) 4 [.int .i64 n1] fun w36 =>
 IxOk x21 n2_1 ∧
 StoreAt w36 (elA x21 n2_1 6) 5 [.int .i64 n2_2] fun w37 =>
 Q (.bool true) w37) ∧
 StoreAt w18 (elA x20 n2_1 6) 4 [.int .i64 n1] fun w38 =>
 IxOk x21 n2_1 ∧
 StoreAt w38 (elA x21 n2_1 6) 5 [.int .i64 n2_2] fun w39 =>
 Q (.bool true) w39) ∧
 ((((StoreAt w18 (elA x20 n2_1 6) 4 [.int .i64 n1] fun w40 =>
 IxOk x21 n2_1 ∧
 StoreAt w40 (elA x21 n2_1 6) 5 [.int .i64 n2_2] fun w41 =>
 Q (.bool true) w41) ∧
 StoreAt w18 (elA x20 n2_1 6) 4 [.int .i64 n1] fun w42 =>
 IxOk x21 n2_1 ∧
 StoreAt w42 (elA x21 n2_1 6) 5 [.int .i64 n2_2] fun w43 =>
 Q (.bool true) w43) ∧
 ((StoreAt w18 (elA x20 n2_1 6) 4 [.int .i64 n1] fun w44 =>
 IxOk x21 n2_1 ∧
 StoreAt w44 (elA x21 n2_1 6) 5 [.int .i64 n2_2] fun w45 =>
 Q (.bool true) w45) ∧
 StoreAt w18 (elA x20 n2_1 6) 4 [.int .i64 n1] fun w46 =>
 IxOk x21 n2_1 ∧
 StoreAt w46 (elA x21 n2_1 6) 5 [.int .i64 n2_2] fun w47 =>
 Q (.bool true) w47) ∧
 StoreAt w18 (elA x20 n2_1 6) 4 [.int .i64 n1] fun w48 =>
 IxOk x21 n2_1 ∧
 StoreAt w48 (elA x21 n2_1 6) 5 [.int .i64 n2_2] fun w49 =>
 Q (.bool true) w49) ∧
 (((StoreAt w18 (elA x20 n2_1 6) 4 [.int .i64 n1] fun w50 =>
 IxOk x21 n2_1 ∧
 StoreAt w50 (elA x21 n2_1 6) 5 [.int .i64 n2_2] fun w51 =>
 Q (.bool true) w51) ∧
 StoreAt w18 (elA x20 n2_1 6) 4 [.int .i64 n1] fun w52 =>
 IxOk x21 n2_1 ∧
 StoreAt w52 (elA x21 n2_1 6) 5 [.int .i64 n2_2] fun w53 =>
 Q (.bool true) w53) ∧
 StoreAt w18 (elA x20 n2_1 6) 4 [.int .i64 n1] fun w54 =>
 IxOk x21 n2_1 ∧
 StoreAt w54 (elA x21 n2_1 6) 5 [.int .i64 n2_2] fun w55 =>
 Q (.bool true) w55) ∧
 StoreAt w18 (elA x20 n2_1 6) 4 [.int .i64 n1] fun w56 =>
 IxOk x21 n2_1 ∧
 StoreAt w56 (elA x21 n2_1 6) 5 [.int .i64 n2_2] fun w57 =>
 Q (.bool true) w57) ∧
 StoreAt w18 (elA x20 n2_1 6) 4 [.int .i64 n1] fun w58 =>
 IxOk x21 n2_1 ∧
 StoreAt w58 (elA x21 n2_1 6) 5 [.int .i64 n2_2] fun w59 =>
 Q (.bool true) w59) ∧
 ((!decide (n2_1 = n1)) = false →
 Q (.bool true) w18))) ∧
 ((decide (n2_2 ≥ (x13.n : Int))) = true →
 Q (.bool false) v))
theorem of132 (a_0 : Addr) (a_1 : Addr) (n2_0 : Int) (n2_1 : Int) (n2_2 : Int) (n2_3 : Int) (x2_4 : Sl) (x2_5 : Sl) (v : World) (Q : Value → World → Prop) (h : vc132 a_0 a_1 n2_0 n2_1 n2_2 n2_3 x2_4 x2_5 v Q) : Trip Tryz.prog 132 #[.pointer (some (a_0.add 0)), .pointer (some (a_1.add 0)), .agg #[.int .i64 n2_0, .int .i64 n2_1, .int .i64 n2_2, .int .i64 n2_3, x2_4.val, x2_5.val]] v Q :=
 trip_of_eq (args := [.pt a_0 0, .pt a_1 0, .ag [.num .i64 n2_0, .num .i64 n2_1, .num .i64 n2_2, .num .i64 n2_3, .sl x2_4, .sl x2_5]]) (A := ⟨[], [], [(6, []), (9, [])], [], psG⟩) Tryz.func132 (by kernel_rfl) (by kernel_rfl) (by kernel_rfl : vc132 a_0 a_1 n2_0 n2_1 n2_2 n2_3 x2_4 x2_5 v Q = _) h

def vc133 (a_0 : Addr) (a_1 : Addr) (n2_0 : Int) (n2_1 : Int) (n2_2 : Int) (n2_3 : Int) (x2_4 : Sl) (x2_5 : Sl) (v : World) (Q : Value → World → Prop) : Prop :=
 StepT Tryz.prog (Instr.makeSlice 37 (.int .i64 (x2_4.n : Int)) (.int .i64 (x2_4.n : Int))) v fun r1 w2 =>
 ∃ x3 : Sl, r1 = x3.val ∧
 ∃ I4 : Int → World → Prop, ∃ m5 : Int → World → Nat, I4 0 w2 ∧
 ∀ n6 : Int, ∀ w7 : World, I4 n6 w7 →
 ((decide (n6 < (x2_4.n : Int))) = true →
 IxOk x2_4 n6 ∧
 ∃ n8 : Int, w7.cell? ((elA x2_4 n6 1).add 0) = some (.int .i64 n8) ∧
 ∃ x9 : Sl, w7.cell? (a_1.add 0) = some (x9.val) ∧
 IxOk x9 n8 ∧
 ∃ n10 : Int, w7.cell? ((elA x9 n8 6).add 0) = some (.int .i64 n10) ∧
 IxOk x3 n6 ∧
 StoreAt w7 (elA x3 n6 1) 0 [.int .i64 n10] fun w11 =>
 ∃ n12 : Int, Wr .i64 (n6 + 1) n12 ∧
 ((.num .i64 n2_0 : SV) = .num .i64 n2_0) ∧
 ((.num .i64 n2_1 : SV) = .num .i64 n2_1) ∧
 ((.num .i64 n2_2 : SV) = .num .i64 n2_2) ∧
 ((.num .i64 n2_3 : SV) = .num .i64 n2_3) ∧
 ((.sl x2_4 : SV) = .sl x2_4) ∧
 ((.sl x2_5 : SV) = .sl x2_5) ∧
 I4 n12 w11 ∧
 m5 n12 w11 < m5 n6 w7) ∧
 ((decide (n6 < (x2_4.n : Int))) = false →
 ((decide (n2_0 = 23)) = true →
 IxOk x3 0 ∧
 ∃ n13 : Int, w7.cell? ((elA x3 0 1).add 0) = some (.int .i64 n13) ∧
 ∃ n14 : Int, w7.cell? (a_0.add 4) = some (.int .i64 n14) ∧
 ((!(decide (n13 = n14))) = true →
 Q (.bool false) w7) ∧
 ((!(decide (n13 = n14))) = false →
 ∃ I15 : Sl → Int → World → Prop, ∃ m16 : Sl → Int → World → Nat, I15 (Sl.mk none 0 0) 0 w7 ∧
 ∀ x17 : Sl, ∀ n18 : Int, ∀ w19 : World, I15 x17 n18 w19 →
 ((decide (n18 < (x2_4.n : Int))) = true →
 IxOk x2_4 n18 ∧
 ∃ n20 : Int, w19.cell? ((elA x2_4 n18 1).add 0) = some (.int .i64 n20) ∧
 IxOk x3 n18 ∧
 ∃ n21 : Int, w19.cell? ((elA x3 n18 1).add 0) = some (.int .i64 n21) ∧
 ((decide (n21 = 0)) = true →
 ∃ n22 : Int, Wr .i64 (n18 + 1) n22 ∧
 ((.num .i64 n2_0 : SV) = .num .i64 n2_0) ∧
 ((.num .i64 n2_1 : SV) = .num .i64 n2_1) ∧
 ((.num .i64 n2_2 : SV) = .num .i64 n2_2) ∧
 ((.num .i64 n2_3 : SV) = .num .i64 n2_3) ∧
 ((.sl x2_4 : SV) = .sl x2_4) ∧
 ((.sl x2_5 : SV) = .sl x2_5) ∧
 I15 x17 n22 w19 ∧
 m16 x17 n22 w19 < m16 x17 n18 w19) ∧
 ((decide (n21 = 0)) = false →
 ∃ x23 : Sl, (((decide (n2_0 = 9)) || (decide (n2_0 = 24))) = true →
 w19.cell? (a_0.add 1) = some (x23.val)) ∧
 (((decide (n2_0 = 9)) || (decide (n2_0 = 24))) = true →
 IxOk x23 n2_2) ∧
 ∃ x24 : Sl, (((decide (n2_0 = 9)) || (decide (n2_0 = 24))) = true →
 w19.cell? ((elA x23 n2_2 3).add 1) = some (x24.val)) ∧
 ∃ q25 : Bool, (((decide (n2_0 = 9)) || (decide (n2_0 = 24))) = true →
 (Trip Tryz.prog 54 #[x24.val, .int .i64 n18] w19 fun r26 w27 => r26 = .bool q25 ∧ Sub w19 w27)) ∧
 ((((decide (n2_0 = 9)) || (decide (n2_0 = 24))) && q25) = true →
 StepT Tryz.prog (Instr.buildSlice 37 1 #[(0, (.int .i64 n20))]) w19 fun r28 w29 =>
 ∃ x30 : Sl, r28 = x30.val ∧
 StepT Tryz.prog (Builtin.append_ #[37, 37] 37 #[(x17.val), (x30.val)]) w29 fun r31 w32 =>
 ∃ x33 : Sl, r31 = x33.val ∧
 ∃ n34 : Int, Wr .i64 (n18 + 1) n34 ∧
 ((.num .i64 n2_0 : SV) = .num .i64 n2_0) ∧
 ((.num .i64 n2_1 : SV) = .num .i64 n2_1) ∧
 ((.num .i64 n2_2 : SV) = .num .i64 n2_2) ∧
 ((.num .i64 n2_3 : SV) = .num .i64 n2_3) ∧
 ((.sl x2_4 : SV) = .sl x2_4) ∧
 ((.sl x2_5 : SV) = .sl x2_5) ∧
 I15 x33 n34 w32 ∧
 m16 x33 n34 w32 < m16 x17 n18 w19) ∧
 ((((decide (n2_0 = 9)) || (decide (n2_0 = 24))) && q25) = false →
 Trip Tryz.prog 129 #[.pointer (some (a_1.add 0)), .int .i64 n20] w19 fun r35 w36 =>
 ∃ q37 : Bool, r35 = .bool q37 ∧
 ((!q37) = true →
 Q (.bool false) w36) ∧
 ((!q37) = false →
 ∃ n38 : Int, Wr .i64 (n18 + 1) n38 ∧
 ((.num .i64 n2_0 : SV) = .num .i64 n2_0) ∧
 ((.num .i64 n2_1 : SV) = .num .i64 n2_1) ∧
 ((.num .i64 n2_2 : SV) = .num .i64 n2_2) ∧
 ((.num .i64 n2_3 : SV) = .num .i64 n2_3) ∧
 ((.sl x2_4 : SV) = .sl x2_4) ∧
 ((.sl x2_5 : SV) = .sl x2_5) ∧
 I15 x17 n38 w36 ∧
 m16 x17 n38 w36 < m16 x17 n18 w19)))) ∧
 ((decide (n18 < (x2_4.n : Int))) = false →
 ∃ I39 : Int → World → Prop, ∃ m40 : Int → World → Nat, I39 0 w19 ∧
 ∀ n41 : Int, ∀ w42 : World, I39 n41 w42 →
 ((decide (n41 < (x17.n : Int))) = true →
 IxOk x17 n41 ∧
 ∃ n43 : Int, w42.cell? ((elA x17 n41 1).add 0) = some (.int .i64 n43) ∧
 ∃ q44 : Bool, (Trip Tryz.prog 128 #[.pointer (some (a_1.add 0)), .int .i64 n43] w42 fun r45 w46 => r45 = .bool q44 ∧ Sub w42 w46) ∧
 ((!q44) = true →
 Q (.bool false) w42) ∧
 ((!q44) = false →
 ∃ n47 : Int, Wr .i64 (n41 + 1) n47 ∧
 ((.num .i64 n2_0 : SV) = .num .i64 n2_0) ∧
 ((.num .i64 n2_1 : SV) = .num .i64 n2_1) ∧
 ((.num .i64 n2_2 : SV) = .num .i64 n2_2) ∧
 ((.num .i64 n2_3 : SV) = .num .i64 n2_3) ∧
 ((.sl x2_4 : SV) = .sl x2_4) ∧
 ((.sl x2_5 : SV) = .sl x2_5) ∧
 I39 n47 w42 ∧
 m40 n47 w42 < m40 n41 w42)) ∧
 ((decide (n41 < (x17.n : Int))) = false →
 Trip Tryz.prog 140 #[.pointer (some (a_0.add 0)), .pointer (some (a_1.add 0)), .agg #[.int .i64 n2_0, .int .i64 n2_1, .int .i64 n2_2, .int .i64 n2_3, x2_4.val, x2_5.val], .int .i64 0] w42 fun r48 w49 =>
 ∃ q50 : Bool, r48 = .bool q50 ∧
 Q (.bool q50) w49)))) ∧
 ((decide (n2_0 = 23)) = false →
 ((decide (n2_0 = 20)) = true →
 IxOk x3 0 ∧
 ∃ n51 : Int, w7.cell? ((elA x3 0 1).add 0) = some (.int .i64 n51) ∧
 ((!(decide (n51 = 0))) = true →
 Q (.bool false) w7) ∧
 ((!(decide (n51 = 0))) = false →
 ∃ I52 : Sl → Int → World → Prop, ∃ m53 : Sl → Int → World → Nat, I52 (Sl.mk none 0 0) 0 w7 ∧
 ∀ x54 : Sl, ∀ n55 : Int, ∀ w56 : World, I52 x54 n55 w56 →
 ((decide (n55 < (x2_4.n : Int))) = true →
 IxOk x2_4 n55 ∧
 ∃ n57 : Int, w56.cell? ((elA x2_4 n55 1).add 0) = some (.int .i64 n57) ∧
 IxOk x3 n55 ∧
 ∃ n58 : Int, w56.cell? ((elA x3 n55 1).add 0) = some (.int .i64 n58) ∧
 ((decide (n58 = 0)) = true →
 ∃ n59 : Int, Wr .i64 (n55 + 1) n59 ∧
 ((.num .i64 n2_0 : SV) = .num .i64 n2_0) ∧
 ((.num .i64 n2_1 : SV) = .num .i64 n2_1) ∧
 ((.num .i64 n2_2 : SV) = .num .i64 n2_2) ∧
 ((.num .i64 n2_3 : SV) = .num .i64 n2_3) ∧
 ((.sl x2_4 : SV) = .sl x2_4) ∧
 ((.sl x2_5 : SV) = .sl x2_5) ∧
 I52 x54 n59 w56 ∧
 m53 x54 n59 w56 < m53 x54 n55 w56) ∧
 ((decide (n58 = 0)) = false →
 ∃ x60 : Sl, (((decide (n2_0 = 9)) || (decide (n2_0 = 24))) = true →
 w56.cell? (a_0.add 1) = some (x60.val)) ∧
 (((decide (n2_0 = 9)) || (decide (n2_0 = 24))) = true →
 IxOk x60 n2_2) ∧
 ∃ x61 : Sl, (((decide (n2_0 = 9)) || (decide (n2_0 = 24))) = true →
 w56.cell? ((elA x60 n2_2 3).add 1) = some (x61.val)) ∧
 ∃ q62 : Bool, (((decide (n2_0 = 9)) || (decide (n2_0 = 24))) = true →
 (Trip Tryz.prog 54 #[x61.val, .int .i64 n55] w56 fun r63 w64 => r63 = .bool q62 ∧ Sub w56 w64)) ∧
 ((((decide (n2_0 = 9)) || (decide (n2_0 = 24))) && q62) = true →
 StepT Tryz.prog (Instr.buildSlice 37 1 #[(0, (.int .i64 n57))]) w56 fun r65 w66 =>
 ∃ x67 : Sl, r65 = x67.val ∧
 StepT Tryz.prog (Builtin.append_ #[37, 37] 37 #[(x54.val), (x67.val)]) w66 fun r68 w69 =>
 ∃ x70 : Sl, r68 = x70.val ∧
 ∃ n71 : Int, Wr .i64 (n55 + 1) n71 ∧
 ((.num .i64 n2_0 : SV) = .num .i64 n2_0) ∧
 ((.num .i64 n2_1 : SV) = .num .i64 n2_1) ∧
 ((.num .i64 n2_2 : SV) = .num .i64 n2_2) ∧
 ((.num .i64 n2_3 : SV) = .num .i64 n2_3) ∧
 ((.sl x2_4 : SV) = .sl x2_4) ∧
 ((.sl x2_5 : SV) = .sl x2_5) ∧
 I52 x70 n71 w69 ∧
 m53 x70 n71 w69 < m53 x54 n55 w56) ∧
 ((((decide (n2_0 = 9)) || (decide (n2_0 = 24))) && q62) = false →
 Trip Tryz.prog 129 #[.pointer (some (a_1.add 0)), .int .i64 n57] w56 fun r72 w73 =>
 ∃ q74 : Bool, r72 = .bool q74 ∧
 ((!q74) = true →
 Q (.bool false) w73) ∧
 ((!q74) = false →
 ∃ n75 : Int, Wr .i64 (n55 + 1) n75 ∧
 ((.num .i64 n2_0 : SV) = .num .i64 n2_0) ∧
 ((.num .i64 n2_1 : SV) = .num .i64 n2_1) ∧
 ((.num .i64 n2_2 : SV) = .num .i64 n2_2) ∧
 ((.num .i64 n2_3 : SV) = .num .i64 n2_3) ∧
 ((.sl x2_4 : SV) = .sl x2_4) ∧
 ((.sl x2_5 : SV) = .sl x2_5) ∧
 I52 x54 n75 w73 ∧
 m53 x54 n75 w73 < m53 x54 n55 w56)))) ∧
 ((decide (n55 < (x2_4.n : Int))) = false →
 ∃ I76 : Int → World → Prop, ∃ m77 : Int → World → Nat, I76 0 w56 ∧
 ∀ n78 : Int, ∀ w79 : World, I76 n78 w79 →
 ((decide (n78 < (x54.n : Int))) = true →
 IxOk x54 n78 ∧
 ∃ n80 : Int, w79.cell? ((elA x54 n78 1).add 0) = some (.int .i64 n80) ∧
 ∃ q81 : Bool, (Trip Tryz.prog 128 #[.pointer (some (a_1.add 0)), .int .i64 n80] w79 fun r82 w83 => r82 = .bool q81 ∧ Sub w79 w83) ∧
 ((!q81) = true →
 Q (.bool false) w79) ∧
 ((!q81) = false →
 ∃ n84 : Int, Wr .i64 (n78 + 1) n84 ∧
 ((.num .i64 n2_0 : SV) = .num .i64 n2_0) ∧
 ((.num .i64 n2_1 : SV) = .num .i64 n2_1) ∧
 ((.num .i64 n2_2 : SV) = .num .i64 n2_2) ∧
 ((.num .i64 n2_3 : SV) = .num .i64 n2_3) ∧
 ((.sl x2_4 : SV) = .sl x2_4) ∧
 ((.sl x2_5 : SV) = .sl x2_5) ∧
 I76 n84 w79 ∧
 m77 n84 w79 < m77 n78 w79)) ∧
 ((decide (n78 < (x54.n : Int))) = false →
 Trip Tryz.prog 140 #[.pointer (some (a_0.add 0)), .pointer (some (a_1.add 0)), .agg #[.int .i64 n2_0, .int .i64 n2_1, .int .i64 n2_2, .int .i64 n2_3, x2_4.val, x2_5.val], .int .i64 0] w79 fun r85 w86 =>
 ∃ q87 : Bool, r85 = .bool q87 ∧
 Q (.bool q87) w86)))) ∧
 ((decide (n2_0 = 20)) = false →
 ((decide (n2_0 = 24)) = true →
 ∃ x88 : Sl, ∃ x89 : Sl, (w7.cell? (a_0.add 0) = some (x88.val) ∧
 w7.cell? (a_0.add 1) = some (x89.val)) ∧
 ∃ n90 : Int, ∃ q91 : Bool, (Trip Tryz.prog 139 #[.agg #[x88.val, x89.val], .int .i64 9, .int .i64 n2_2, x3.val] w7 fun r92 w93 => r92 = .tuple #[.int .i64 n90, .bool q91] ∧ Sub w7 w93) ∧
 ∃ n94 : Int, (q91 = true →
 w7.cell? (a_0.add 4) = some (.int .i64 n94)) ∧
 ((!(q91 && (decide (n90 = n94)))) = true →
 Q (.bool false) w7) ∧
 ((!(q91 && (decide (n90 = n94)))) = false →
 ∃ I95 : Sl → Int → World → Prop, ∃ m96 : Sl → Int → World → Nat, I95 (Sl.mk none 0 0) 0 w7 ∧
 ∀ x97 : Sl, ∀ n98 : Int, ∀ w99 : World, I95 x97 n98 w99 →
 ((decide (n98 < (x2_4.n : Int))) = true →
 IxOk x2_4 n98 ∧
 ∃ n100 : Int, w99.cell? ((elA x2_4 n98 1).add 0) = some (.int .i64 n100) ∧
 IxOk x3 n98 ∧
 ∃ n101 : Int, w99.cell? ((elA x3 n98 1).add 0) = some (.int .i64 n101) ∧
 ((decide (n101 = 0)) = true →
 ∃ n102 : Int, Wr .i64 (n98 + 1) n102 ∧
 ((.num .i64 n2_0 : SV) = .num .i64 n2_0) ∧
 ((.num .i64 n2_1 : SV) = .num .i64 n2_1) ∧
 ((.num .i64 n2_2 : SV) = .num .i64 n2_2) ∧
 ((.num .i64 n2_3 : SV) = .num .i64 n2_3) ∧
 ((.sl x2_4 : SV) = .sl x2_4) ∧
 ((.sl x2_5 : SV) = .sl x2_5) ∧
 I95 x97 n102 w99 ∧
 m96 x97 n102 w99 < m96 x97 n98 w99) ∧
 ((decide (n101 = 0)) = false →
 ∃ x103 : Sl, (((decide (n2_0 = 9)) || (decide (n2_0 = 24))) = true →
 w99.cell? (a_0.add 1) = some (x103.val)) ∧
 (((decide (n2_0 = 9)) || (decide (n2_0 = 24))) = true →
 IxOk x103 n2_2) ∧
 ∃ x104 : Sl, (((decide (n2_0 = 9)) || (decide (n2_0 = 24))) = true →
 w99.cell? ((elA x103 n2_2 3).add 1) = some (x104.val)) ∧
 ∃ q105 : Bool, (((decide (n2_0 = 9)) || (decide (n2_0 = 24))) = true →
 (Trip Tryz.prog 54 #[x104.val, .int .i64 n98] w99 fun r106 w107 => r106 = .bool q105 ∧ Sub w99 w107)) ∧
 ((((decide (n2_0 = 9)) || (decide (n2_0 = 24))) && q105) = true →
 StepT Tryz.prog (Instr.buildSlice 37 1 #[(0, (.int .i64 n100))]) w99 fun r108 w109 =>
 ∃ x110 : Sl, r108 = x110.val ∧
 StepT Tryz.prog (Builtin.append_ #[37, 37] 37 #[(x97.val), (x110.val)]) w109 fun r111 w112 =>
 ∃ x113 : Sl, r111 = x113.val ∧
 ∃ n114 : Int, Wr .i64 (n98 + 1) n114 ∧
 ((.num .i64 n2_0 : SV) = .num .i64 n2_0) ∧
 ((.num .i64 n2_1 : SV) = .num .i64 n2_1) ∧
 ((.num .i64 n2_2 : SV) = .num .i64 n2_2) ∧
 ((.num .i64 n2_3 : SV) = .num .i64 n2_3) ∧
 ((.sl x2_4 : SV) = .sl x2_4) ∧
 ((.sl x2_5 : SV) = .sl x2_5) ∧
 I95 x113 n114 w112 ∧
 m96 x113 n114 w112 < m96 x97 n98 w99) ∧
 ((((decide (n2_0 = 9)) || (decide (n2_0 = 24))) && q105) = false →
 Trip Tryz.prog 129 #[.pointer (some (a_1.add 0)), .int .i64 n100] w99 fun r115 w116 =>
 ∃ q117 : Bool, r115 = .bool q117 ∧
 ((!q117) = true →
 Q (.bool false) w116) ∧
 ((!q117) = false →
 ∃ n118 : Int, Wr .i64 (n98 + 1) n118 ∧
 ((.num .i64 n2_0 : SV) = .num .i64 n2_0) ∧
 ((.num .i64 n2_1 : SV) = .num .i64 n2_1) ∧
 ((.num .i64 n2_2 : SV) = .num .i64 n2_2) ∧
 ((.num .i64 n2_3 : SV) = .num .i64 n2_3) ∧
 ((.sl x2_4 : SV) = .sl x2_4) ∧
 ((.sl x2_5 : SV) = .sl x2_5) ∧
 I95 x97 n118 w116 ∧
 m96 x97 n118 w116 < m96 x97 n98 w99)))) ∧
 ((decide (n98 < (x2_4.n : Int))) = false →
 ∃ I119 : Int → World → Prop, ∃ m120 : Int → World → Nat, I119 0 w99 ∧
 ∀ n121 : Int, ∀ w122 : World, I119 n121 w122 →
 ((decide (n121 < (x97.n : Int))) = true →
 IxOk x97 n121 ∧
 ∃ n123 : Int, w122.cell? ((elA x97 n121 1).add 0) = some (.int .i64 n123) ∧
 ∃ q124 : Bool, (Trip Tryz.prog 128 #[.pointer (some (a_1.add 0)), .int .i64 n123] w122 fun r125 w126 => r125 = .bool q124 ∧ Sub w122 w126) ∧
 ((!q124) = true →
 Q (.bool false) w122) ∧
 ((!q124) = false →
 ∃ n127 : Int, Wr .i64 (n121 + 1) n127 ∧
 ((.num .i64 n2_0 : SV) = .num .i64 n2_0) ∧
 ((.num .i64 n2_1 : SV) = .num .i64 n2_1) ∧
 ((.num .i64 n2_2 : SV) = .num .i64 n2_2) ∧
 ((.num .i64 n2_3 : SV) = .num .i64 n2_3) ∧
 ((.sl x2_4 : SV) = .sl x2_4) ∧
 ((.sl x2_5 : SV) = .sl x2_5) ∧
 I119 n127 w122 ∧
 m120 n127 w122 < m120 n121 w122)) ∧
 ((decide (n121 < (x97.n : Int))) = false →
 Trip Tryz.prog 140 #[.pointer (some (a_0.add 0)), .pointer (some (a_1.add 0)), .agg #[.int .i64 n2_0, .int .i64 n2_1, .int .i64 n2_2, .int .i64 n2_3, x2_4.val, x2_5.val], .int .i64 n90] w122 fun r128 w129 =>
 ∃ q130 : Bool, r128 = .bool q130 ∧
 Q (.bool q130) w129)))) ∧
 ((decide (n2_0 = 24)) = false →
 ∃ x131 : Sl, ∃ x132 : Sl, (w7.cell? (a_0.add 0) = some (x131.val) ∧
 w7.cell? (a_0.add 1) = some (x132.val)) ∧
 ∃ n133 : Int, ∃ q134 : Bool, (Trip Tryz.prog 139 #[.agg #[x131.val, x132.val], .int .i64 n2_0, .int .i64 n2_2, x3.val] w7 fun r135 w136 => r135 = .tuple #[.int .i64 n133, .bool q134] ∧ Sub w7 w136) ∧
 ((!q134) = true →
 Q (.bool false) w7) ∧
 ((!q134) = false →
 ∃ I137 : Sl → Int → World → Prop, ∃ m138 : Sl → Int → World → Nat, I137 (Sl.mk none 0 0) 0 w7 ∧
 ∀ x139 : Sl, ∀ n140 : Int, ∀ w141 : World, I137 x139 n140 w141 →
 ((decide (n140 < (x2_4.n : Int))) = true →
 IxOk x2_4 n140 ∧
 ∃ n142 : Int, w141.cell? ((elA x2_4 n140 1).add 0) = some (.int .i64 n142) ∧
 IxOk x3 n140 ∧
 ∃ n143 : Int, w141.cell? ((elA x3 n140 1).add 0) = some (.int .i64 n143) ∧
 ((decide (n143 = 0)) = true →
 ∃ n144 : Int, Wr .i64 (n140 + 1) n144 ∧
 ((.num .i64 n2_0 : SV) = .num .i64 n2_0) ∧
 ((.num .i64 n2_1 : SV) = .num .i64 n2_1) ∧
 ((.num .i64 n2_2 : SV) = .num .i64 n2_2) ∧
 ((.num .i64 n2_3 : SV) = .num .i64 n2_3) ∧
 ((.sl x2_4 : SV) = .sl x2_4) ∧
 ((.sl x2_5 : SV) = .sl x2_5) ∧
 I137 x139 n144 w141 ∧
 m138 x139 n144 w141 < m138 x139 n140 w141) ∧
 ((decide (n143 = 0)) = false →
 ∃ x145 : Sl, (((decide (n2_0 = 9)) || (decide (n2_0 = 24))) = true →
 w141.cell? (a_0.add 1) = some (x145.val)) ∧
 (((decide (n2_0 = 9)) || (decide (n2_0 = 24))) = true →
 IxOk x145 n2_2) ∧
 ∃ x146 : Sl, (((decide (n2_0 = 9)) || (decide (n2_0 = 24))) = true →
 w141.cell? ((elA x145 n2_2 3).add 1) = some (x146.val)) ∧
 ∃ q147 : Bool, (((decide (n2_0 = 9)) || (decide (n2_0 = 24))) = true →
 (Trip Tryz.prog 54 #[x146.val, .int .i64 n140] w141 fun r148 w149 => r148 = .bool q147 ∧ Sub w141 w149)) ∧
 ((((decide (n2_0 = 9)) || (decide (n2_0 = 24))) && q147) = true →
 StepT Tryz.prog (Instr.buildSlice 37 1 #[(0, (.int .i64 n142))]) w141 fun r150 w151 =>
 ∃ x152 : Sl, r150 = x152.val ∧
 StepT Tryz.prog (Builtin.append_ #[37, 37] 37 #[(x139.val), (x152.val)]) w151 fun r153 w154 =>
 ∃ x155 : Sl, r153 = x155.val ∧
 ∃ n156 : Int, Wr .i64 (n140 + 1) n156 ∧
 ((.num .i64 n2_0 : SV) = .num .i64 n2_0) ∧
 ((.num .i64 n2_1 : SV) = .num .i64 n2_1) ∧
 ((.num .i64 n2_2 : SV) = .num .i64 n2_2) ∧
 ((.num .i64 n2_3 : SV) = .num .i64 n2_3) ∧
 ((.sl x2_4 : SV) = .sl x2_4) ∧
 ((.sl x2_5 : SV) = .sl x2_5) ∧
 I137 x155 n156 w154 ∧
 m138 x155 n156 w154 < m138 x139 n140 w141) ∧
 ((((decide (n2_0 = 9)) || (decide (n2_0 = 24))) && q147) = false →
 Trip Tryz.prog 129 #[.pointer (some (a_1.add 0)), .int .i64 n142] w141 fun r157 w158 =>
 ∃ q159 : Bool, r157 = .bool q159 ∧
 ((!q159) = true →
 Q (.bool false) w158) ∧
 ((!q159) = false →
 ∃ n160 : Int, Wr .i64 (n140 + 1) n160 ∧
 ((.num .i64 n2_0 : SV) = .num .i64 n2_0) ∧
 ((.num .i64 n2_1 : SV) = .num .i64 n2_1) ∧
 ((.num .i64 n2_2 : SV) = .num .i64 n2_2) ∧
 ((.num .i64 n2_3 : SV) = .num .i64 n2_3) ∧
 ((.sl x2_4 : SV) = .sl x2_4) ∧
 ((.sl x2_5 : SV) = .sl x2_5) ∧
 I137 x139 n160 w158 ∧
 m138 x139 n160 w158 < m138 x139 n140 w141)))) ∧
 ((decide (n140 < (x2_4.n : Int))) = false →
 ∃ I161 : Int → World → Prop, ∃ m162 : Int → World → Nat, I161 0 w141 ∧
 ∀ n163 : Int, ∀ w164 : World, I161 n163 w164 →
 ((decide (n163 < (x139.n : Int))) = true →
 IxOk x139 n163 ∧
 ∃ n165 : Int, w164.cell? ((elA x139 n163 1).add 0) = some (.int .i64 n165) ∧
 ∃ q166 : Bool, (Trip Tryz.prog 128 #[.pointer (some (a_1.add 0)), .int .i64 n165] w164 fun r167 w168 => r167 = .bool q166 ∧ Sub w164 w168) ∧
 ((!q166) = true →
 Q (.bool false) w164) ∧
 ((!q166) = false →
 ∃ n169 : Int, Wr .i64 (n163 + 1) n169 ∧
 ((.num .i64 n2_0 : SV) = .num .i64 n2_0) ∧
 ((.num .i64 n2_1 : SV) = .num .i64 n2_1) ∧
 ((.num .i64 n2_2 : SV) = .num .i64 n2_2) ∧
 ((.num .i64 n2_3 : SV) = .num .i64 n2_3) ∧
 ((.sl x2_4 : SV) = .sl x2_4) ∧
 ((.sl x2_5 : SV) = .sl x2_5) ∧
 I161 n169 w164 ∧
 m162 n169 w164 < m162 n163 w164)) ∧
 ((decide (n163 < (x139.n : Int))) = false →
 Trip Tryz.prog 140 #[.pointer (some (a_0.add 0)), .pointer (some (a_1.add 0)), .agg #[.int .i64 n2_0, .int .i64 n2_1, .int .i64 n2_2, .int .i64 n2_3, x2_4.val, x2_5.val], .int .i64 n133] w164 fun r170 w171 =>
 ∃ q172 : Bool, r170 = .bool q172 ∧
 Q (.bool q172) w171)))))))
theorem of133 (a_0 : Addr) (a_1 : Addr) (n2_0 : Int) (n2_1 : Int) (n2_2 : Int) (n2_3 : Int) (x2_4 : Sl) (x2_5 : Sl) (v : World) (Q : Value → World → Prop) (h : vc133 a_0 a_1 n2_0 n2_1 n2_2 n2_3 x2_4 x2_5 v Q) : Trip Tryz.prog 133 #[.pointer (some (a_0.add 0)), .pointer (some (a_1.add 0)), .agg #[.int .i64 n2_0, .int .i64 n2_1, .int .i64 n2_2, .int .i64 n2_3, x2_4.val, x2_5.val]] v Q :=
 trip_of_eq (args := [.pt a_0 0, .pt a_1 0, .ag [.num .i64 n2_0, .num .i64 n2_1, .num .i64 n2_2, .num .i64 n2_3, .sl x2_4, .sl x2_5]]) (A := ⟨[(3, [(24, .int .i64)], []), (21, [(12, .sl), (101, .int .i64)], []), (30, [(147, .int .i64)], [])], [], [], [999999], psG⟩) Tryz.func133 (by kernel_rfl) (by kernel_rfl) (by kernel_rfl : vc133 a_0 a_1 n2_0 n2_1 n2_2 n2_3 x2_4 x2_5 v Q = _) h

def vc134 (a_0 : Addr) (a_1 : Addr) (v : World) (Q : Value → World → Prop) : Prop :=
 ∃ x1 : Sl, v.cell? (a_0.add 1) = some (x1.val) ∧
 ∃ x2 : Sl, v.cell? (a_1.add 1) = some (x2.val) ∧
 ∃ q3 : Bool, (Trip Tryz.prog 141 #[x1.val, x2.val] v fun r4 w5 => r4 = .bool q3 ∧ Sub v w5) ∧
 ((!q3) = true →
 Q (.bool false) v) ∧
 ((!q3) = false →
 ∃ x6 : Sl, v.cell? (a_0.add 0) = some (x6.val) ∧
 ∃ I7 : Int → World → Prop, ∃ m8 : Int → World → Nat, I7 0 v ∧
 ∀ n9 : Int, ∀ w10 : World, I7 n9 w10 →
 ((decide (n9 < (x6.n : Int))) = true →
 ∃ x11 : Sl, w10.cell? (a_0.add 0) = some (x11.val) ∧
 IxOk x11 n9 ∧
 ∃ x12 : Sl, w10.cell? (a_1.add 0) = some (x12.val) ∧
 IxOk x12 n9 ∧
 ∃ n13 : Int, ∃ n14 : Int, ∃ q15 : Bool, ∃ n16 : Int, ∃ n17 : Int, ∃ n18 : Int, (w10.cell? ((elA x12 n9 6).add 0) = some (.int .i64 n13) ∧
 w10.cell? ((elA x12 n9 6).add 1) = some (.int .i64 n14) ∧
 w10.cell? ((elA x12 n9 6).add 2) = some (.bool q15) ∧
 w10.cell? ((elA x12 n9 6).add 3) = some (.int .i64 n16) ∧
 w10.cell? ((elA x12 n9 6).add 4) = some (.int .i64 n17) ∧
 w10.cell? ((elA x12 n9 6).add 5) = some (.int .i64 n18)) ∧
 Sub w10 w10 ∧
 ∃ n19 : Int, w10.cell? ((elA x11 n9 6).add 1) = some (.int .i64 n19) ∧
 ((!decide (n19 = n14)) = true →
 Q (.bool false) w10) ∧
 ((!decide (n19 = n14)) = false →
 ∃ n20 : Int, w10.cell? ((elA x11 n9 6).add 0) = some (.int .i64 n20) ∧
 ((!decide (n20 = n13)) = true →
 StoreAt w10 (elA x11 n9 6) 0 [.int .i64 (-1)] fun w21 =>
 ∃ n22 : Int, w21.cell? ((elA x11 n9 6).add 3) = some (.int .i64 n22) ∧
 ∃ n23 : Int, ((!decide (n22 = n16)) = false →
 w21.cell? ((elA x11 n9 6).add 0) = some (.int .i64 n23)) ∧
 (((!decide (n22 = n16)) || (decide (n23 < 0))) = true →
 StoreAt w21 (elA x11 n9 6) 3 [.int .i64 (-1)] fun w24 =>
 ∃ n25 : Int, w24.cell? ((elA x11 n9 6).add 4) = some (.int .i64 n25) ∧
 ∃ n26 : Int, ((!decide (n25 = n17)) = false →
 w24.cell? ((elA x11 n9 6).add 5) = some (.int .i64 n26)) ∧
 ∃ n27 : Int, (((!decide (n25 = n17)) || (!decide (n26 = n18))) = false →
 w24.cell? ((elA x11 n9 6).add 0) = some (.int .i64 n27)) ∧
 ((((!decide (n25 = n17)) || (!decide (n26 = n18))) || (decide (n27 < 0))) = true →
 StoreAt w24 (elA x11 n9 6) 4 [.int .i64 (-1)] fun w28 =>
 StoreAt w28 (elA x11 n9 6) 5 [.int .i64 (-1)] fun w29 =>
 ∃ q30 : Bool, w29.cell? ((elA x11 n9 6).add 2) = some (.bool q30) ∧
 StoreAt w29 (elA x11 n9 6) 2 [.bool (q30 && q15)] fun w31 =>
 ∃ n32 : Int, Wr .i64 (n9 + 1) n32 ∧
 I7 n32 w31 ∧
 m8 n32 w31 < m8 n9 w10) ∧
 ((((!decide (n25 = n17)) || (!decide (n26 = n18))) || (decide (n27 < 0))) = false →
 ∃ q33 : Bool, w24.cell? ((elA x11 n9 6).add 2) = some (.bool q33) ∧
 StoreAt w24 (elA x11 n9 6) 2 [.bool (q33 && q15)] fun w34 =>
 ∃ n35 : Int, Wr .i64 (n9 + 1) n35 ∧
 I7 n35 w34 ∧
 m8 n35 w34 < m8 n9 w10)) ∧
 (((!decide (n22 = n16)) || (decide (n23 < 0))) = false →
 ∃ n36 : Int, w21.cell? ((elA x11 n9 6).add 4) = some (.int .i64 n36) ∧
 ∃ n37 : Int, ((!decide (n36 = n17)) = false →
 w21.cell? ((elA x11 n9 6).add 5) = some (.int .i64 n37)) ∧
 ∃ n38 : Int, (((!decide (n36 = n17)) || (!decide (n37 = n18))) = false →
 w21.cell? ((elA x11 n9 6).add 0) = some (.int .i64 n38)) ∧
 ((((!decide (n36 = n17)) || (!decide (n37 = n18))) || (decide (n38 < 0))) = true →
 StoreAt w21 (elA x11 n9 6) 4 [.int .i64 (-1)] fun w39 =>
 StoreAt w39 (elA x11 n9 6) 5 [.int .i64 (-1)] fun w40 =>
 ∃ q41 : Bool, w40.cell? ((elA x11 n9 6).add 2) = some (.bool q41) ∧
 StoreAt w40 (elA x11 n9 6) 2 [.bool (q41 && q15)] fun w42 =>
 ∃ n43 : Int, Wr .i64 (n9 + 1) n43 ∧
 I7 n43 w42 ∧
 m8 n43 w42 < m8 n9 w10) ∧
 ((((!decide (n36 = n17)) || (!decide (n37 = n18))) || (decide (n38 < 0))) = false →
 ∃ q44 : Bool, w21.cell? ((elA x11 n9 6).add 2) = some (.bool q44) ∧
 StoreAt w21 (elA x11 n9 6) 2 [.bool (q44 && q15)] fun w45 =>
 ∃ n46 : Int, Wr .i64 (n9 + 1) n46 ∧
 I7 n46 w45 ∧
 m8 n46 w45 < m8 n9 w10))) ∧
 ((!decide (n20 = n13)) = false →
 ∃ n47 : Int, w10.cell? ((elA x11 n9 6).add 3) = some (.int .i64 n47) ∧
 ∃ n48 : Int, ((!decide (n47 = n16)) = false →
 w10.cell? ((elA x11 n9 6).add 0) = some (.int .i64 n48)) ∧
 (((!decide (n47 = n16)) || (decide (n48 < 0))) = true →
 StoreAt w10 (elA x11 n9 6) 3 [.int .i64 (-1)] fun w49 =>
 ∃ n50 : Int, w49.cell? ((elA x11 n9 6).add 4) = some (.int .i64 n50) ∧
 ∃ n51 : Int, ((!decide (n50 = n17)) = false →
 w49.cell? ((elA x11 n9 6).add 5) = some (.int .i64 n51)) ∧
 ∃ n52 : Int, (((!decide (n50 = n17)) || (!decide (n51 = n18))) = false →
 w49.cell? ((elA x11 n9 6).add 0) = some (.int .i64 n52)) ∧
 ((((!decide (n50 = n17)) || (!decide (n51 = n18))) || (decide (n52 < 0))) = true →
 StoreAt w49 (elA x11 n9 6) 4 [.int .i64 (-1)] fun w53 =>
 StoreAt w53 (elA x11 n9 6) 5 [.int .i64 (-1)] fun w54 =>
 ∃ q55 : Bool, w54.cell? ((elA x11 n9 6).add 2) = some (.bool q55) ∧
 StoreAt w54 (elA x11 n9 6) 2 [.bool (q55 && q15)] fun w56 =>
 ∃ n57 : Int, Wr .i64 (n9 + 1) n57 ∧
 I7 n57 w56 ∧
 m8 n57 w56 < m8 n9 w10) ∧
 ((((!decide (n50 = n17)) || (!decide (n51 = n18))) || (decide (n52 < 0))) = false →
 ∃ q58 : Bool, w49.cell? ((elA x11 n9 6).add 2) = some (.bool q58) ∧
 StoreAt w49 (elA x11 n9 6) 2 [.bool (q58 && q15)] fun w59 =>
 ∃ n60 : Int, Wr .i64 (n9 + 1) n60 ∧
 I7 n60 w59 ∧
 m8 n60 w59 < m8 n9 w10)) ∧
 (((!decide (n47 = n16)) || (decide (n48 < 0))) = false →
 ∃ n61 : Int, w10.cell? ((elA x11 n9 6).add 4) = some (.int .i64 n61) ∧
 ∃ n62 : Int, ((!decide (n61 = n17)) = false →
 w10.cell? ((elA x11 n9 6).add 5) = some (.int .i64 n62)) ∧
 ∃ n63 : Int, (((!decide (n61 = n17)) || (!decide (n62 = n18))) = false →
 w10.cell? ((elA x11 n9 6).add 0) = some (.int .i64 n63)) ∧
 ((((!decide (n61 = n17)) || (!decide (n62 = n18))) || (decide (n63 < 0))) = true →
 StoreAt w10 (elA x11 n9 6) 4 [.int .i64 (-1)] fun w64 =>
 StoreAt w64 (elA x11 n9 6) 5 [.int .i64 (-1)] fun w65 =>
 ∃ q66 : Bool, w65.cell? ((elA x11 n9 6).add 2) = some (.bool q66) ∧
 StoreAt w65 (elA x11 n9 6) 2 [.bool (q66 && q15)] fun w67 =>
 ∃ n68 : Int, Wr .i64 (n9 + 1) n68 ∧
 I7 n68 w67 ∧
 m8 n68 w67 < m8 n9 w10) ∧
 ((((!decide (n61 = n17)) || (!decide (n62 = n18))) || (decide (n63 < 0))) = false →
 ∃ q69 : Bool, w10.cell? ((elA x11 n9 6).add 2) = some (.bool q69) ∧
 StoreAt w10 (elA x11 n9 6) 2 [.bool (q69 && q15)] fun w70 =>
 ∃ n71 : Int, Wr .i64 (n9 + 1) n71 ∧
 I7 n71 w70 ∧
 m8 n71 w70 < m8 n9 w10))))) ∧
 ((decide (n9 < (x6.n : Int))) = false →
 Q (.bool true) w10))
theorem of134 (a_0 : Addr) (a_1 : Addr) (v : World) (Q : Value → World → Prop) (h : vc134 a_0 a_1 v Q) : Trip Tryz.prog 134 #[.pointer (some (a_0.add 0)), .pointer (some (a_1.add 0))] v Q :=
 trip_of_eq (args := [.pt a_0 0, .pt a_1 0]) (A := ⟨[(4, [(23, .int .i64)], [])], [], [(6, [13])], [], psG⟩) Tryz.func134 (by kernel_rfl) (by kernel_rfl) (by kernel_rfl : vc134 a_0 a_1 v Q = _) h

def vc135 (x0_0 : Sl) (x1_0 : Sl) (v : World) (Q : Value → World → Prop) : Prop :=
 ∃ q1 : Bool, (Trip Tryz.prog 16 #[x0_0.val, x1_0.val] v fun r2 w3 => r2 = .bool q1 ∧ Sub v w3) ∧
 ((!q1) = true →
 Q (.bool false) v) ∧
 ((!q1) = false →
 Q (.bool true) v)
theorem of135 (x0_0 : Sl) (x1_0 : Sl) (v : World) (Q : Value → World → Prop) (h : vc135 x0_0 x1_0 v Q) : Trip Tryz.prog 135 #[.agg #[x0_0.val], .agg #[x1_0.val]] v Q :=
 trip_of_eq (args := [.ag [.sl x0_0], .ag [.sl x1_0]]) (A := ⟨[], [], [], [], psG⟩) Tryz.func135 (by kernel_rfl) (by kernel_rfl) (by kernel_rfl : vc135 x0_0 x1_0 v Q = _) h

def vc136 (n0_0 : Int) (n0_1 : Int) (n0_2 : Int) (n0_3 : Int) (x0_4 : Sl) (x0_5 : Sl) (n1_0 : Int) (n1_1 : Int) (n1_2 : Int) (n1_3 : Int) (x1_4 : Sl) (x1_5 : Sl) (v : World) (Q : Value → World → Prop) : Prop :=
 ((!decide (n0_0 = n1_0)) = true →
 Q (.bool false) v) ∧
 ((!decide (n0_0 = n1_0)) = false →
 ((!decide (n0_1 = n1_1)) = true →
 Q (.bool false) v) ∧
 ((!decide (n0_1 = n1_1)) = false →
 ((!decide (n0_2 = n1_2)) = true →
 Q (.bool false) v) ∧
 ((!decide (n0_2 = n1_2)) = false →
 ((!decide (n0_3 = n1_3)) = true →
 Q (.bool false) v) ∧
 ((!decide (n0_3 = n1_3)) = false →
 ∃ q1 : Bool, (Trip Tryz.prog 16 #[x0_4.val, x1_4.val] v fun r2 w3 => r2 = .bool q1 ∧ Sub v w3) ∧
 ((!q1) = true →
 Q (.bool false) v) ∧
 ((!q1) = false →
 ∃ q4 : Bool, (Trip Tryz.prog 16 #[x0_5.val, x1_5.val] v fun r5 w6 => r5 = .bool q4 ∧ Sub v w6) ∧
 ((!q4) = true →
 Q (.bool false) v) ∧
 ((!q4) = false →
 Q (.bool true) v))))))
theorem of136 (n0_0 : Int) (n0_1 : Int) (n0_2 : Int) (n0_3 : Int) (x0_4 : Sl) (x0_5 : Sl) (n1_0 : Int) (n1_1 : Int) (n1_2 : Int) (n1_3 : Int) (x1_4 : Sl) (x1_5 : Sl) (v : World) (Q : Value → World → Prop) (h : vc136 n0_0 n0_1 n0_2 n0_3 x0_4 x0_5 n1_0 n1_1 n1_2 n1_3 x1_4 x1_5 v Q) : Trip Tryz.prog 136 #[.agg #[.int .i64 n0_0, .int .i64 n0_1, .int .i64 n0_2, .int .i64 n0_3, x0_4.val, x0_5.val], .agg #[.int .i64 n1_0, .int .i64 n1_1, .int .i64 n1_2, .int .i64 n1_3, x1_4.val, x1_5.val]] v Q :=
 trip_of_eq (args := [.ag [.num .i64 n0_0, .num .i64 n0_1, .num .i64 n0_2, .num .i64 n0_3, .sl x0_4, .sl x0_5], .ag [.num .i64 n1_0, .num .i64 n1_1, .num .i64 n1_2, .num .i64 n1_3, .sl x1_4, .sl x1_5]]) (A := ⟨[], [], [], [], psG⟩) Tryz.func136 (by kernel_rfl) (by kernel_rfl) (by kernel_rfl : vc136 n0_0 n0_1 n0_2 n0_3 x0_4 x0_5 n1_0 n1_1 n1_2 n1_3 x1_4 x1_5 v Q = _) h

def vc137 (n_0 : Int) (v : World) (Q : Value → World → Prop) : Prop :=
 ∃ q1 : Bool, (Trip Tryz.prog 25 #[.int .i64 n_0, .int .i64 0, .int .i64 11] v fun r2 w3 => r2 = .bool q1 ∧ Sub v w3) ∧
 Q (.bool q1) v
theorem of137 (n_0 : Int) (v : World) (Q : Value → World → Prop) (h : vc137 n_0 v Q) : Trip Tryz.prog 137 #[.int .i64 n_0] v Q :=
 trip_of_eq (args := [.num .i64 n_0]) (A := ⟨[], [], [], [], psG⟩) Tryz.func137 (by kernel_rfl) (by kernel_rfl) (by kernel_rfl : vc137 n_0 v Q = _) h

def vc138 (x_0 : Sl) (n_1 : Int) (v : World) (Q : Value → World → Prop) : Prop :=
 ∃ I1 : Int → Int → World → Prop, ∃ m2 : Int → Int → World → Nat, I1 n_1 0 v ∧
 ∀ n3 : Int, ∀ n4 : Int, ∀ w5 : World, I1 n3 n4 w5 →
 ((decide (n4 < (x_0.n : Int))) = true →
 IxOk x_0 n4 ∧
 ∃ n6 : Int, ∃ n7 : Int, ∃ x8 : Sl, (w5.cell? ((elA x_0 n4 3).add 0) = some (.int .i64 n6) ∧
 w5.cell? ((elA x_0 n4 3).add 1) = some (.int .i64 n7) ∧
 w5.cell? ((elA x_0 n4 3).add 2) = some (x8.val)) ∧
 (((decide (n3 ≥ 0)) && (decide (n3 < (x8.n : Int)))) = true →
 ∃ n9 : Int, Wr .i64 (n4 + 1) n9 ∧
 IxOk x8 n3 ∧
 ∃ x10 : Sl, w5.cell? ((elA x8 n3 1).add 0) = some (x10.val) ∧
 Q (.tuple #[.int .i64 n9, .agg #[x10.val]]) w5) ∧
 (((decide (n3 ≥ 0)) && (decide (n3 < (x8.n : Int)))) = false →
 ∃ n11 : Int, Wr .i64 (n3 - (x8.n : Int)) n11 ∧
 ∃ n12 : Int, Wr .i64 (n4 + 1) n12 ∧
 ((.sl (Sl.mk none 0 0) : SV) = .sl (Sl.mk none 0 0)) ∧
 I1 n11 n12 w5 ∧
 m2 n11 n12 w5 < m2 n3 n4 w5)) ∧
 ((decide (n4 < (x_0.n : Int))) = false →
 Q (.tuple #[.int .i64 (-1), .agg #[.slice none 0 0]]) w5)
theorem of138 (x_0 : Sl) (n_1 : Int) (v : World) (Q : Value → World → Prop) (h : vc138 x_0 n_1 v Q) : Trip Tryz.prog 138 #[x_0.val, .int .i64 n_1] v Q :=
 trip_of_eq (args := [.sl x_0, .num .i64 n_1]) (A := ⟨[(2, [(1, .int .i64), (10, .int .i64)], [])], [], [(5, [])], [], psG⟩) Tryz.func138 (by kernel_rfl) (by kernel_rfl) (by kernel_rfl : vc138 x_0 n_1 v Q = _) h

def vc139 (x0_0 : Sl) (x0_1 : Sl) (n_1 : Int) (n_2 : Int) (x_3 : Sl) (v : World) (Q : Value → World → Prop) : Prop :=
 ((decide (n_1 = 0)) = true →
 Q (.tuple #[.int .i64 0, .bool (((decide (n_2 ≥ (-999))) && (decide (n_2 ≤ 999))) && (decide ((x_3.n : Int) = 0)))]) v) ∧
 ((decide (n_1 = 0)) = false →
 ((decide (n_1 = 1)) = true →
 StepT Tryz.prog (Instr.buildSlice 37 2 #[(0, (.int .i64 0)), (1, (.int .i64 0))]) v fun r1 w2 =>
 ∃ x3 : Sl, r1 = x3.val ∧
 ∃ q4 : Bool, ((decide (n_2 = 0)) = true →
 (Trip Tryz.prog 141 #[x_3.val, x3.val] w2 fun r5 w6 => r5 = .bool q4 ∧ Sub w2 w6)) ∧
 Q (.tuple #[.int .i64 0, .bool ((decide (n_2 = 0)) && q4)]) w2) ∧
 ((decide (n_1 = 1)) = false →
 ((decide (n_1 = 2)) = true →
 StepT Tryz.prog (Instr.buildSlice 37 2 #[(0, (.int .i64 0)), (1, (.int .i64 0))]) v fun r7 w8 =>
 ∃ x9 : Sl, r7 = x9.val ∧
 ∃ q10 : Bool, ((decide (n_2 = 0)) = true →
 (Trip Tryz.prog 141 #[x_3.val, x9.val] w8 fun r11 w12 => r11 = .bool q10 ∧ Sub w8 w12)) ∧
 Q (.tuple #[.int .i64 0, .bool ((decide (n_2 = 0)) && q10)]) w8) ∧
 ((decide (n_1 = 2)) = false →
 ((decide (n_1 = 3)) = true →
 StepT Tryz.prog (Instr.buildSlice 37 2 #[(0, (.int .i64 0)), (1, (.int .i64 0))]) v fun r13 w14 =>
 ∃ x15 : Sl, r13 = x15.val ∧
 ∃ q16 : Bool, ((decide (n_2 = 0)) = true →
 (Trip Tryz.prog 141 #[x_3.val, x15.val] w14 fun r17 w18 => r17 = .bool q16 ∧ Sub w14 w18)) ∧
 Q (.tuple #[.int .i64 0, .bool ((decide (n_2 = 0)) && q16)]) w14) ∧
 ((decide (n_1 = 3)) = false →
 ((decide (n_1 = 4)) = true →
 StepT Tryz.prog (Instr.buildSlice 37 2 #[(0, (.int .i64 0)), (1, (.int .i64 0))]) v fun r19 w20 =>
 ∃ x21 : Sl, r19 = x21.val ∧
 ∃ q22 : Bool, ((decide (n_2 = 0)) = true →
 (Trip Tryz.prog 141 #[x_3.val, x21.val] w20 fun r23 w24 => r23 = .bool q22 ∧ Sub w20 w24)) ∧
 Q (.tuple #[.int .i64 0, .bool ((decide (n_2 = 0)) && q22)]) w20) ∧
 ((decide (n_1 = 4)) = false →
 ((decide (n_1 = 5)) = true →
 StepT Tryz.prog (Instr.buildSlice 37 1 #[(0, (.int .i64 0))]) v fun r25 w26 =>
 ∃ x27 : Sl, r25 = x27.val ∧
 ∃ q28 : Bool, ((decide (n_2 = 0)) = true →
 (Trip Tryz.prog 141 #[x_3.val, x27.val] w26 fun r29 w30 => r29 = .bool q28 ∧ Sub w26 w30)) ∧
 Q (.tuple #[.int .i64 0, .bool ((decide (n_2 = 0)) && q28)]) w26) ∧
 ((decide (n_1 = 5)) = false →
 ((decide (n_1 = 11)) = true →
 ((!decide ((x_3.n : Int) = 2)) = true →
 Q (.tuple #[.int .i64 (-1), .bool false]) v) ∧
 ((!decide ((x_3.n : Int) = 2)) = false →
 IxOk x_3 0 ∧
 ∃ n31 : Int, v.cell? ((elA x_3 0 1).add 0) = some (.int .i64 n31) ∧
 ∃ n32 : Int, ∃ n33 : Int, ∃ x34 : Sl, ∃ q35 : Bool, (Trip Tryz.prog 142 #[x0_0.val, .int .i64 n31] v fun r36 w37 => r36 = .tuple #[.agg #[.int .i64 n32, .int .i64 n33, x34.val], .bool q35] ∧ Sub v w37) ∧
 Sub v v ∧
 (q35 = true →
 IxOk x_3 1) ∧
 ∃ n38 : Int, (q35 = true →
 v.cell? ((elA x_3 1 1).add 0) = some (.int .i64 n38)) ∧
 Q (.tuple #[.int .i64 n33, .bool ((q35 && (decide (n38 = n32))) && (decide (n_2 = 0)))]) v)) ∧
 ((decide (n_1 = 11)) = false →
 ((decide (n_1 = 6)) = true →
 ∃ n39 : Int, ∃ x40 : Sl, (Trip Tryz.prog 138 #[x0_0.val, .int .i64 n_2] v fun r41 w42 => r41 = .tuple #[.int .i64 n39, .agg #[x40.val]] ∧ Sub v w42) ∧
 ∃ q43 : Bool, ((decide (n39 ≥ 0)) = true →
 (Trip Tryz.prog 141 #[x_3.val, x40.val] v fun r44 w45 => r44 = .bool q43 ∧ Sub v w45)) ∧
 Q (.tuple #[.int .i64 n39, .bool ((decide (n39 ≥ 0)) && q43)]) v) ∧
 ((decide (n_1 = 6)) = false →
 ((decide (n_1 = 9)) = true →
 (((decide (n_2 < 0)) || (decide (n_2 ≥ (x0_1.n : Int)))) = true →
 Q (.tuple #[.int .i64 (-1), .bool false]) v) ∧
 (((decide (n_2 < 0)) || (decide (n_2 ≥ (x0_1.n : Int)))) = false →
 IxOk x0_1 n_2 ∧
 ∃ x46 : Sl, v.cell? ((elA x0_1 n_2 3).add 0) = some (x46.val) ∧
 IxOk x0_1 n_2 ∧
 ∃ n47 : Int, v.cell? ((elA x0_1 n_2 3).add 2) = some (.int .i64 n47) ∧
 ((decide (n_1 = 9)) = true →
 ∃ q48 : Bool, (Trip Tryz.prog 141 #[x_3.val, x46.val] v fun r49 w50 => r49 = .bool q48 ∧ Sub v w50) ∧
 Q (.tuple #[.int .i64 n47, .bool q48]) v) ∧
 ((decide (n_1 = 9)) = false →
 ∃ n51 : Int, Wr .i64 ((x46.n : Int) - 1) n51 ∧
 ((decide (n51 < 0)) = true →
 Q (.tuple #[.int .i64 (-1), .bool false]) v) ∧
 ((decide (n51 < 0)) = false →
 IxOk x46 n51 ∧
 ∃ n52 : Int, v.cell? ((elA x46 n51 1).add 0) = some (.int .i64 n52) ∧
 ∃ n53 : Int, (Trip Tryz.prog 143 #[x0_0.val, .int .i64 n52, .int .i64 n47] v fun r54 w55 => r54 = .int .i64 n53 ∧ Sub v w55) ∧
 ((decide (n53 ≥ 0)) = true →
 CutOk x46 0 n51) ∧
 ∃ q56 : Bool, ((decide (n53 ≥ 0)) = true →
 (Trip Tryz.prog 141 #[x_3.val, (x46.cut 0 n51 1).val] v fun r57 w58 => r57 = .bool q56 ∧ Sub v w58)) ∧
 Q (.tuple #[.int .i64 n53, .bool ((decide (n53 ≥ 0)) && q56)]) v)))) ∧
 ((decide (n_1 = 9)) = false →
 ((decide (n_1 = 10)) = true →
 (((decide (n_2 < 0)) || (decide (n_2 ≥ (x0_1.n : Int)))) = true →
 Q (.tuple #[.int .i64 (-1), .bool false]) v) ∧
 (((decide (n_2 < 0)) || (decide (n_2 ≥ (x0_1.n : Int)))) = false →
 IxOk x0_1 n_2 ∧
 ∃ x59 : Sl, v.cell? ((elA x0_1 n_2 3).add 0) = some (x59.val) ∧
 IxOk x0_1 n_2 ∧
 ∃ n60 : Int, v.cell? ((elA x0_1 n_2 3).add 2) = some (.int .i64 n60) ∧
 ((decide (n_1 = 9)) = true →
 ∃ q61 : Bool, (Trip Tryz.prog 141 #[x_3.val, x59.val] v fun r62 w63 => r62 = .bool q61 ∧ Sub v w63) ∧
 Q (.tuple #[.int .i64 n60, .bool q61]) v) ∧
 ((decide (n_1 = 9)) = false →
 ∃ n64 : Int, Wr .i64 ((x59.n : Int) - 1) n64 ∧
 ((decide (n64 < 0)) = true →
 Q (.tuple #[.int .i64 (-1), .bool false]) v) ∧
 ((decide (n64 < 0)) = false →
 IxOk x59 n64 ∧
 ∃ n65 : Int, v.cell? ((elA x59 n64 1).add 0) = some (.int .i64 n65) ∧
 ∃ n66 : Int, (Trip Tryz.prog 143 #[x0_0.val, .int .i64 n65, .int .i64 n60] v fun r67 w68 => r67 = .int .i64 n66 ∧ Sub v w68) ∧
 ((decide (n66 ≥ 0)) = true →
 CutOk x59 0 n64) ∧
 ∃ q69 : Bool, ((decide (n66 ≥ 0)) = true →
 (Trip Tryz.prog 141 #[x_3.val, (x59.cut 0 n64 1).val] v fun r70 w71 => r70 = .bool q69 ∧ Sub v w71)) ∧
 Q (.tuple #[.int .i64 n66, .bool ((decide (n66 ≥ 0)) && q69)]) v)))) ∧
 ((decide (n_1 = 10)) = false →
 Q (.tuple #[.int .i64 (-1), .bool false]) v))))))))))
theorem of139 (x0_0 : Sl) (x0_1 : Sl) (n_1 : Int) (n_2 : Int) (x_3 : Sl) (v : World) (Q : Value → World → Prop) (h : vc139 x0_0 x0_1 n_1 n_2 x_3 v Q) : Trip Tryz.prog 139 #[.agg #[x0_0.val, x0_1.val], .int .i64 n_1, .int .i64 n_2, x_3.val] v Q :=
 trip_of_eq (args := [.ag [.sl x0_0, .sl x0_1], .num .i64 n_1, .num .i64 n_2, .sl x_3]) (A := ⟨[], [], [(16, [9])], [999999], psG⟩) Tryz.func139 (by kernel_rfl) (by kernel_rfl) (by kernel_rfl : vc139 x0_0 x0_1 n_1 n_2 x_3 v Q = _) h

def vc140 (a_0 : Addr) (a_1 : Addr) (n2_0 : Int) (n2_1 : Int) (n2_2 : Int) (n2_3 : Int) (x2_4 : Sl) (x2_5 : Sl) (n_3 : Int) (v : World) (Q : Value → World → Prop) : Prop :=
 (((decide (n2_0 = 23)) || (decide (n2_0 = 24))) = true →
 ∃ x1 : Sl, v.cell? (a_1.add 0) = some (x1.val) ∧
 ∃ q2 : Bool, (Trip Tryz.prog 144 #[x1.val, .func (.func 145) #[] #[]] v fun r3 w4 => r3 = .bool q2 ∧ Sub v w4) ∧
 ∃ x5 : Sl, ((!q2) = true →
 v.cell? (a_1.add 1) = some (x5.val)) ∧
 ((!q2) = true →
 Trip Tryz.prog 90 #[x5.val, .func (.func 146) #[] #[]] v fun r6 w7 =>
 ∃ q8 : Bool, r6 = .bool q8 ∧
 Q (.bool (!q8)) w7) ∧
 ((!q2) = false →
 Q (.bool false) v)) ∧
 (((decide (n2_0 = 23)) || (decide (n2_0 = 24))) = false →
 ((!decide (n2_3 = 0)) = true →
 ∃ x9 : Sl, v.cell? (a_1.add 1) = some (x9.val) ∧
 ∃ n10 : Int, Wr .i64 (n2_3 - 1) n10 ∧
 IxOk x9 n10 ∧
 ∃ n11 : Int, v.cell? ((elA x9 n10 1).add 0) = some (.int .i64 n11) ∧
 ((!decide (n11 = (x2_4.n : Int))) = true →
 Q (.bool false) v) ∧
 ((!decide (n11 = (x2_4.n : Int))) = false →
 ∃ x12 : Sl, v.cell? (a_1.add 1) = some (x12.val) ∧
 ∃ n13 : Int, Wr .i64 (n2_3 - 1) n13 ∧
 IxOk x12 n13 ∧
 StoreAt v (elA x12 n13 1) 0 [.int .i64 (-1)] fun w14 =>
 ∃ q15 : Bool, (Trip Tryz.prog 88 #[.int .i64 n2_0] w14 fun r16 w17 => r16 = .bool q15 ∧ Sub w14 w17) ∧
 ((!q15) = true →
 Q (.bool true) w14) ∧
 ((!q15) = false →
 ∃ n18 : Int, PureT Tryz.prog (Builtin.min_ #[3, 3] 3 #[(.int .i64 n_3), (.int .i64 1)]) w14 (.int .i64 n18) ∧
 Trip Tryz.prog 131 #[.pointer (some (a_1.add 0)), .int .i64 n2_1, .int .i64 n_3, .int .i64 n18] w14 fun r19 w20 =>
 ∃ q21 : Bool, r19 = .bool q21 ∧
 Q (.bool q21) w20))) ∧
 ((!decide (n2_3 = 0)) = false →
 ∃ q22 : Bool, (Trip Tryz.prog 88 #[.int .i64 n2_0] v fun r23 w24 => r23 = .bool q22 ∧ Sub v w24) ∧
 ((!q22) = true →
 Q (.bool true) v) ∧
 ((!q22) = false →
 ∃ n25 : Int, PureT Tryz.prog (Builtin.min_ #[3, 3] 3 #[(.int .i64 n_3), (.int .i64 1)]) v (.int .i64 n25) ∧
 Trip Tryz.prog 131 #[.pointer (some (a_1.add 0)), .int .i64 n2_1, .int .i64 n_3, .int .i64 n25] v fun r26 w27 =>
 ∃ q28 : Bool, r26 = .bool q28 ∧
 Q (.bool q28) w27)))
theorem of140 (a_0 : Addr) (a_1 : Addr) (n2_0 : Int) (n2_1 : Int) (n2_2 : Int) (n2_3 : Int) (x2_4 : Sl) (x2_5 : Sl) (n_3 : Int) (v : World) (Q : Value → World → Prop) (h : vc140 a_0 a_1 n2_0 n2_1 n2_2 n2_3 x2_4 x2_5 n_3 v Q) : Trip Tryz.prog 140 #[.pointer (some (a_0.add 0)), .pointer (some (a_1.add 0)), .agg #[.int .i64 n2_0, .int .i64 n2_1, .int .i64 n2_2, .int .i64 n2_3, x2_4.val, x2_5.val], .int .i64 n_3] v Q :=
 trip_of_eq (args := [.pt a_0 0, .pt a_1 0, .ag [.num .i64 n2_0, .num .i64 n2_1, .num .i64 n2_2, .num .i64 n2_3, .sl x2_4, .sl x2_5], .num .i64 n_3]) (A := ⟨[], [], [(6, [])], [999999], psG⟩) Tryz.func140 (by kernel_rfl) (by kernel_rfl) (by kernel_rfl : vc140 a_0 a_1 n2_0 n2_1 n2_2 n2_3 x2_4 x2_5 n_3 v Q = _) h

def vc141 (x_0 : Sl) (x_1 : Sl) (v : World) (Q : Value → World → Prop) : Prop :=
 ((!decide ((x_0.n : Int) = (x_1.n : Int))) = true →
 Q (.bool false) v) ∧
 ((!decide ((x_0.n : Int) = (x_1.n : Int))) = false →
 ∃ I1 : Int → World → Prop, ∃ m2 : Int → World → Nat, I1 0 v ∧
 ∀ n3 : Int, ∀ w4 : World, I1 n3 w4 →
 ((decide (n3 < (x_0.n : Int))) = true →
 IxOk x_0 n3 ∧
 ∃ n5 : Int, w4.cell? ((elA x_0 n3 1).add 0) = some (.int .i64 n5) ∧
 IxOk x_1 n3 ∧
 ∃ n6 : Int, w4.cell? ((elA x_1 n3 1).add 0) = some (.int .i64 n6) ∧
 ((!decide (n5 = n6)) = true →
 Q (.bool false) w4) ∧
 ((!decide (n5 = n6)) = false →
 ∃ n7 : Int, Wr .i64 (n3 + 1) n7 ∧
 I1 n7 w4 ∧
 m2 n7 w4 < m2 n3 w4)) ∧
 ((decide (n3 < (x_0.n : Int))) = false →
 Q (.bool true) w4))
theorem of141 (x_0 : Sl) (x_1 : Sl) (v : World) (Q : Value → World → Prop) (h : vc141 x_0 x_1 v Q) : Trip Tryz.prog 141 #[x_0.val, x_1.val] v Q :=
 trip_of_eq (args := [.sl x_0, .sl x_1]) (A := ⟨[(4, [(13, .int .i64)], [])], [], [], [], psG⟩) Tryz.func141 (by kernel_rfl) (by kernel_rfl) (by kernel_rfl : vc141 x_0 x_1 v Q = _) h

def vc142 (x_0 : Sl) (n_1 : Int) (v : World) (Q : Value → World → Prop) : Prop :=
 ∃ n1 : Int, (((decide (n_1 < 1)) || (decide (n_1 > (x_0.n : Int)))) = false →
 Wr .i64 (n_1 - 1) n1) ∧
 (((decide (n_1 < 1)) || (decide (n_1 > (x_0.n : Int)))) = false →
 IxOk x_0 n1) ∧
 ∃ x2 : Sl, (((decide (n_1 < 1)) || (decide (n_1 > (x_0.n : Int)))) = false →
 v.cell? ((elA x_0 n1 3).add 2) = some (x2.val)) ∧
 ((((decide (n_1 < 1)) || (decide (n_1 > (x_0.n : Int)))) || (decide ((x2.n : Int) > 0))) = true →
 Q (.tuple #[.agg #[.int .i64 0, .int .i64 0, .slice none 0 0], .bool false]) v) ∧
 ((((decide (n_1 < 1)) || (decide (n_1 > (x_0.n : Int)))) || (decide ((x2.n : Int) > 0))) = false →
 ∃ n3 : Int, Wr .i64 (n_1 - 1) n3 ∧
 IxOk x_0 n3 ∧
 ∃ n4 : Int, ∃ n5 : Int, ∃ x6 : Sl, (v.cell? ((elA x_0 n3 3).add 0) = some (.int .i64 n4) ∧
 v.cell? ((elA x_0 n3 3).add 1) = some (.int .i64 n5) ∧
 v.cell? ((elA x_0 n3 3).add 2) = some (x6.val)) ∧
 Q (.tuple #[.agg #[.int .i64 n4, .int .i64 n5, x6.val], .bool true]) v)
theorem of142 (x_0 : Sl) (n_1 : Int) (v : World) (Q : Value → World → Prop) (h : vc142 x_0 n_1 v Q) : Trip Tryz.prog 142 #[x_0.val, .int .i64 n_1] v Q :=
 trip_of_eq (args := [.sl x_0, .num .i64 n_1]) (A := ⟨[], [], [], [], psG⟩) Tryz.func142 (by kernel_rfl) (by kernel_rfl) (by kernel_rfl : vc142 x_0 n_1 v Q = _) h

def vc143 (x_0 : Sl) (n_1 : Int) (n_2 : Int) (v : World) (Q : Value → World → Prop) : Prop :=
 ∃ I1 : Int → World → Prop, ∃ m2 : Int → World → Nat, I1 0 v ∧
 ∀ n3 : Int, ∀ w4 : World, I1 n3 w4 →
 ((decide (n3 < (x_0.n : Int))) = true →
 IxOk x_0 n3 ∧
 ∃ n5 : Int, ∃ n6 : Int, ∃ x7 : Sl, (w4.cell? ((elA x_0 n3 3).add 0) = some (.int .i64 n5) ∧
 w4.cell? ((elA x_0 n3 3).add 1) = some (.int .i64 n6) ∧
 w4.cell? ((elA x_0 n3 3).add 2) = some (x7.val)) ∧
 ((((decide ((x7.n : Int) = 0)) && (decide (n5 = n_1))) && (decide (n6 = n_2))) = true →
 ∃ n8 : Int, Wr .i64 (n3 + 1) n8 ∧
 Q (.int .i64 n8) w4) ∧
 ((((decide ((x7.n : Int) = 0)) && (decide (n5 = n_1))) && (decide (n6 = n_2))) = false →
 ∃ n9 : Int, Wr .i64 (n3 + 1) n9 ∧
 I1 n9 w4 ∧
 m2 n9 w4 < m2 n3 w4)) ∧
 ((decide (n3 < (x_0.n : Int))) = false →
 Q (.int .i64 (-1)) w4)
theorem of143 (x_0 : Sl) (n_1 : Int) (n_2 : Int) (v : World) (Q : Value → World → Prop) (h : vc143 x_0 n_1 n_2 v Q) : Trip Tryz.prog 143 #[x_0.val, .int .i64 n_1, .int .i64 n_2] v Q :=
 trip_of_eq (args := [.sl x_0, .num .i64 n_1, .num .i64 n_2]) (A := ⟨[(2, [(11, .int .i64)], [])], [], [], [], psG⟩) Tryz.func143 (by kernel_rfl) (by kernel_rfl) (by kernel_rfl : vc143 x_0 n_1 n_2 v Q = _) h

def vc144 (x_0 : Sl) (y_1 : Vl) (v : World) (Q : Value → World → Prop) : Prop :=
 ∃ n1 : Int, (Trip Tryz.prog 147 #[x_0.val, y_1.x] v fun r2 w3 => r2 = .int .i64 n1 ∧ Sub v w3) ∧
 Q (.bool (decide (n1 ≥ 0))) v
theorem of144 (x_0 : Sl) (y_1 : Vl) (v : World) (Q : Value → World → Prop) (h : vc144 x_0 y_1 v Q) : Trip Tryz.prog 144 #[x_0.val, y_1.x] v Q :=
 trip_of_eq (args := [.sl x_0, .v y_1]) (A := ⟨[], [], [], [], psG⟩) Tryz.func144 (by kernel_rfl) (by kernel_rfl) (by kernel_rfl : vc144 x_0 y_1 v Q = _) h

def vc145 (n0_0 : Int) (n0_1 : Int) (q0_2 : Bool) (n0_3 : Int) (n0_4 : Int) (n0_5 : Int) (v : World) (Q : Value → World → Prop) : Prop :=
 Q (.bool (decide (n0_1 > 0))) v
theorem of145 (n0_0 : Int) (n0_1 : Int) (q0_2 : Bool) (n0_3 : Int) (n0_4 : Int) (n0_5 : Int) (v : World) (Q : Value → World → Prop) (h : vc145 n0_0 n0_1 q0_2 n0_3 n0_4 n0_5 v Q) : Trip Tryz.prog 145 #[.agg #[.int .i64 n0_0, .int .i64 n0_1, .bool q0_2, .int .i64 n0_3, .int .i64 n0_4, .int .i64 n0_5]] v Q :=
 trip_of_eq (args := [.ag [.num .i64 n0_0, .num .i64 n0_1, .b q0_2, .num .i64 n0_3, .num .i64 n0_4, .num .i64 n0_5]]) (A := ⟨[], [], [], [], psG⟩) Tryz.func145 (by kernel_rfl) (by kernel_rfl) (by kernel_rfl : vc145 n0_0 n0_1 q0_2 n0_3 n0_4 n0_5 v Q = _) h

def vc146 (n_0 : Int) (v : World) (Q : Value → World → Prop) : Prop :=
 Q (.bool (decide (n_0 ≥ 0))) v
theorem of146 (n_0 : Int) (v : World) (Q : Value → World → Prop) (h : vc146 n_0 v Q) : Trip Tryz.prog 146 #[.int .i64 n_0] v Q :=
 trip_of_eq (args := [.num .i64 n_0]) (A := ⟨[], [], [], [], psG⟩) Tryz.func146 (by kernel_rfl) (by kernel_rfl) (by kernel_rfl : vc146 n_0 v Q = _) h

def vc147 (x_0 : Sl) (y_1 : Vl) (v : World) (Q : Value → World → Prop) : Prop :=
 ∃ I1 : Int → World → Prop, ∃ m2 : Int → World → Nat, I1 0 v ∧
 ∀ n3 : Int, ∀ w4 : World, I1 n3 w4 →
 ((decide (n3 < (x_0.n : Int))) = true →
 IxOk x_0 n3 ∧
 ∃ n5 : Int, ∃ n6 : Int, ∃ q7 : Bool, ∃ n8 : Int, ∃ n9 : Int, ∃ n10 : Int, (w4.cell? ((elA x_0 n3 6).add 0) = some (.int .i64 n5) ∧
 w4.cell? ((elA x_0 n3 6).add 1) = some (.int .i64 n6) ∧
 w4.cell? ((elA x_0 n3 6).add 2) = some (.bool q7) ∧
 w4.cell? ((elA x_0 n3 6).add 3) = some (.int .i64 n8) ∧
 w4.cell? ((elA x_0 n3 6).add 4) = some (.int .i64 n9) ∧
 w4.cell? ((elA x_0 n3 6).add 5) = some (.int .i64 n10)) ∧
 ∃ g13 : Nat, ∃ cs14 : List Value, y_1.x = .func (.func g13) #[] cs14.toArray ∧
 Trip Tryz.prog g13 (([.agg #[.int .i64 n5, .int .i64 n6, .bool q7, .int .i64 n8, .int .i64 n9, .int .i64 n10]] : List Value) ++ cs14).toArray w4 fun r11 w12 =>
 ∃ q15 : Bool, r11 = .bool q15 ∧
 (q15 = true →
 Q (.int .i64 n3) w12) ∧
 (q15 = false →
 ∃ n16 : Int, Wr .i64 (n3 + 1) n16 ∧
 I1 n16 w12 ∧
 m2 n16 w12 < m2 n3 w4)) ∧
 ((decide (n3 < (x_0.n : Int))) = false →
 Q (.int .i64 (-1)) w4)
theorem of147 (x_0 : Sl) (y_1 : Vl) (v : World) (Q : Value → World → Prop) (h : vc147 x_0 y_1 v Q) : Trip Tryz.prog 147 #[x_0.val, y_1.x] v Q :=
 trip_of_eq (args := [.sl x_0, .v y_1]) (A := ⟨[(2, [(8, .int .i64)], [])], [], [], [], psG⟩) Tryz.func147 (by kernel_rfl) (by kernel_rfl) (by kernel_rfl : vc147 x_0 y_1 v Q = _) h

-- STOP 163 (impl.Image).clone: 'NoneType' object is not subscriptable
-- STOP 164 (impl.signatures).armFields: 'NoneType' object is not subscriptable
def vc90z (x_0 : Sl) (f_1 : Nat) (v : World) (Q : Value → World → Prop) : Prop :=
 Trip Tryz.prog 122 #[x_0.val, .func (.func f_1) #[] #[]] v fun r1 w2 =>
 ∃ n3 : Int, r1 = .int .i64 n3 ∧
 Q (.bool (decide (n3 ≥ 0))) w2
theorem of90z (x_0 : Sl) (f_1 : Nat) (v : World) (Q : Value → World → Prop) (h : vc90z x_0 f_1 v Q) : Trip Tryz.prog 90 #[x_0.val, .func (.func f_1) #[] #[]] v Q :=
 trip_of_eq (args := [.sl x_0, .clo f_1 []]) (A := ⟨[], [], [], [], psG⟩) Tryz.func90 (by kernel_rfl) (by kernel_rfl) (by kernel_rfl : vc90z x_0 f_1 v Q = _) h

def vc122z (x_0 : Sl) (f_1 : Nat) (v : World) (Q : Value → World → Prop) : Prop :=
 ∃ I1 : Int → World → Prop, ∃ m2 : Int → World → Nat, I1 0 v ∧
 ∀ n3 : Int, ∀ w4 : World, I1 n3 w4 →
 ((decide (n3 < (x_0.n : Int))) = true →
 IxOk x_0 n3 ∧
 ∃ n5 : Int, w4.cell? ((elA x_0 n3 1).add 0) = some (.int .i64 n5) ∧
 Trip Tryz.prog f_1 #[.int .i64 n5] w4 fun r6 w7 =>
 ∃ q8 : Bool, r6 = .bool q8 ∧
 (q8 = true →
 Q (.int .i64 n3) w7) ∧
 (q8 = false →
 ∃ n9 : Int, Wr .i64 (n3 + 1) n9 ∧
 I1 n9 w7 ∧
 m2 n9 w7 < m2 n3 w4)) ∧
 ((decide (n3 < (x_0.n : Int))) = false →
 Q (.int .i64 (-1)) w4)
theorem of122z (x_0 : Sl) (f_1 : Nat) (v : World) (Q : Value → World → Prop) (h : vc122z x_0 f_1 v Q) : Trip Tryz.prog 122 #[x_0.val, .func (.func f_1) #[] #[]] v Q :=
 trip_of_eq (args := [.sl x_0, .clo f_1 []]) (A := ⟨[(2, [(8, .int .i64)], [])], [], [], [], psG⟩) Tryz.func122 (by kernel_rfl) (by kernel_rfl) (by kernel_rfl : vc122z x_0 f_1 v Q = _) h

end Go.Vc
